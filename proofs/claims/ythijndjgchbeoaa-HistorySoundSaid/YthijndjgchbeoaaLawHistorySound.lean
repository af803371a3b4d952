/-
  simprooflaw20.HistorySound answers true for every list of numbers.
-/
import Derived.Test.YthijndjgchbeoaaSoundPlain
import Derived.Test.YthijndjgchbeoaaLives20
namespace Go.Proofs.Ythijndjgchbeoaa
set_option linter.unusedVariables false
open Go.RowKit

theorem take_countP {l : List OpV} {k : Nat} (h : k < l.length) : (l.take (k + 1)).countP (·.done) = (l.take k).countP (·.done) + if (nth l k).done then 1 else 0 := by
  rw [List.take_succ_eq_append_getElem h, List.countP_append, List.countP_singleton, nth_eq h]

theorem obTo_small (l : List Int) (k : Nat) : (∀ r ∈ (obTo l k).reqs, 0 ≤ r.op ∧ r.op ≤ 4 ∧ 0 ≤ r.key ∧ r.key ≤ 3 ∧ 0 ≤ r.arg ∧ r.arg ≤ 5) ∧ ∀ o ∈ (obTo l k).obs, 0 ≤ o.value ∧ o.value ≤ 6 := by
  induction k with
  | zero => simp [obTo, loopN, obInit]
  | succ k ih =>
    have hs : obTo l (k + 1) = obStep l k (obTo l k) := rfl
    rw [hs]
    generalize obTo l k = s at ih
    unfold obStep
    have hn := around_lo (n := nth l k) (most := 1000000) (by omega)
    generalize around (nth l k) 1000000 = n at hn
    generalize (n % 2).toNat = p
    by_cases hc : n / 2 % 9 = 8
    · rw [obNum_crash hc]; exact ih
    · by_cases hw : nth s.wt p < 0
      · rw [obNum_call hc hw]
        refine ⟨fun r hr => ?_, fun o ho => ?_⟩
        · simp only [List.mem_append, List.mem_singleton] at hr
          rcases hr with hr | rfl
          · exact ih.1 r hr
          · dsimp only; omega
        · simp only [List.mem_append, List.mem_singleton] at ho
          rcases ho with ho | rfl
          · exact ih.2 o ho
          · dsimp only; omega
      · rw [obNum_reply hc hw]
        refine ⟨ih.1, fun o ho => ?_⟩
        simp only [List.mem_append, List.mem_singleton] at ho
        rcases ho with ho | rfl
        · exact ih.2 o ho
        · dsimp only; omega

def OpSmall (o : OpV) : Prop := (0 ≤ o.p ∧ o.p ≤ 10000) ∧ (0 ≤ o.k ∧ o.k ≤ 10000) ∧ (0 ≤ o.key ∧ o.key ≤ 10000) ∧ (0 ≤ o.arg ∧ o.arg ≤ 10000) ∧ (0 ≤ o.res ∧ o.res ≤ 10000) ∧ (0 ≤ o.call ∧ o.call ≤ 10000) ∧ (0 ≤ o.ret ∧ o.ret ≤ 10000)
theorem OpSmall.in_ {o : OpV} (h : OpSmall o) : OpIn o := by unfold OpSmall at h; unfold OpIn I64; omega
theorem hOfTo_small (l : List Int) : ∀ k, k ≤ (observed l).obs.length → ∀ o ∈ hOfTo (observed l).obs (observed l).reqs k, OpSmall o := by
  have hg := obTo_good l (min l.length 30)
  have hsm := obTo_small l (min l.length 30)
  have hs := observed_seq l
  have e : observed l = obTo l (min l.length 30) := rfl
  rw [← e] at hg hsm
  have hlo := hg.ok.lo
  have hall := hg.all
  generalize (observed l).obs = obs at *
  generalize (observed l).reqs = reqs at *
  intro k
  induction k with
  | zero => intro _ o ho; simp [hOfTo, loopN] at ho
  | succ k ih =>
    intro hk o ho
    have ih := ih (by omega)
    have ha := hall _ (nth_mem (l := obs) (i := k) (by omega))
    have hv := hsm.2 _ (nth_mem (l := obs) (i := k) (by omega))
    have hr := hsm.1 _ (nth_mem (l := reqs) (i := (nth obs k).req.toNat) (by omega))
    have e : hOfTo obs reqs (k + 1) = hStep obs reqs k (hOfTo obs reqs k) := rfl
    rw [e] at ho
    have hq := hs k (by omega)
    have hlen := hOfTo_len obs reqs k
    cases h : (nth obs k).reply with
    | false =>
      rw [hStep_call h] at ho
      simp only [List.mem_append, List.mem_singleton] at ho
      rcases ho with ho | rfl
      · exact ih o ho
      · unfold OpSmall opBase; dsimp only; omega
    | true =>
      rw [if_pos h] at hq
      obtain ⟨q, hq2⟩ : ∃ q : Nat, (nth obs k).req = q := ⟨(nth obs k).req.toNat, by omega⟩
      rw [hStep_reply h hq2] at ho
      rcases List.mem_or_eq_of_mem_set ho with ho | rfl
      · exact ih o ho
      · have := ih _ (nth_mem (l := hOfTo obs reqs k) (i := q) (by omega))
        unfold OpSmall at *; dsimp only; omega
/-- the fields of the operations fit -/
theorem hOf_in (l : List Int) : ∀ o ∈ hOf (observed l).obs (observed l).reqs, OpIn o := fun o ho => (hOfTo_small l _ (Nat.le_refl _) o ho).in_

set_option maxHeartbeats 1000000 in
set_option maxRecDepth 100000 in
theorem historySound_any (A : Option Addr) (c : Nat) (l : List Int) (w : World) (h1 : Sl intv w w.heap.size A l) (hl : ∀ x ∈ l, I64 x) (hlen : l.length ≤ 9223372036854775807) :
    Calls Try.prog 5 #[.slice A l.length c] w fun e w' => e = .returned (.bool true) ∧ Below w.heap.size w w' := by
  obtain ⟨obs, hobs⟩ : ∃ x, x = (observed l).obs := ⟨_, rfl⟩
  obtain ⟨reqs, hreqs⟩ : ∃ x, x = (observed l).reqs := ⟨_, rfl⟩
  have hok := observed_ok l
  have hsq := observed_seq l
  have hc := observed_any A c l w h1 hl hlen
  have d1 := hOf_done l
  have d2 := hOf_len l
  have d3 := hOf_history l
  have d4 := hOf_in l
  rw [← hobs] at hok hsq hc d1 d2 d3 d4
  rw [← hreqs] at hok hc d1 d2 d3 d4
  have hl1 := hok.1
  have hl2 := hok.2.1
  obtain ⟨ops, hops⟩ : ∃ x, x = hOf obs reqs := ⟨_, rfl⟩
  have c1 := fun A1 A2 c1 c2 w h1 h2 => hOf_any A1 A2 c1 c2 obs reqs w h1 h2 hok hsq
  rw [← hops] at c1 d1 d2 d3 d4
  have C0 := Lib.hid hc
  have C1 := Lib.hid c1
  have D1 := Lib.hid d1
  have D2 := Lib.hid d2
  have D3 := Lib.hid d3
  have D4 := Lib.hid d4
  have hol : ops.length ≤ 100000 := by omega
  clear hc c1 hok hsq hobs hreqs hops h1 hl d1 d2 d3 d4
  go_enter Try.func5, Try.ntmps5
  go_wp2_with fail
  refine C0.out.mono ?_
  rintro e w1 ⟨A1, c1, A2, c2, rfl, ho1, ho2, hb1⟩
  have s1 := Sl.of_own ho1 rfl
  have s2 := Sl.of_own ho2 rfl
  clear ho1 ho2
  go_wp2_with fail
  refine (C1.out _ _ _ _ _ s1 s2).mono ?_
  rintro e w2 ⟨A3, c3, rfl, ho3, hb2⟩
  have s3 := Sl.of_own ho3 rfl
  clear ho3
  go_wp2_with fail
  go_loop [6, 7] (fun d i => ∃ k : Nat, k ≤ ops.length ∧ i = .int .i64 k ∧ d = .int .i64 ((ops.take k).countP (·.done) : Nat)) (fun _ i => ops.length - (intOf i).toNat)
  case atStart => exact ⟨0, by omega, rfl, rfl⟩
  case round =>
    obtain ⟨k, hk, rfl, rfl⟩ := hrel
    have hcp : (ops.take k).countP (·.done) ≤ k := Nat.le_trans List.countP_le_length (by simp; omega)
    by_cases hlt : k < ops.length
    · obtain ⟨b, o, rfl, -, p0, p1, p2, p3, p4, p5, p6, p7⟩ := s3.op hlt
      have Ht := Lib.hid (take_countP hlt)
      cases hd : (nth ops k).done with
      | true =>
        rw [hd] at p7
        have Hd := Lib.hid hd
        clear hd
        go_wp2_with fail
        go_round
        case rel => exact ⟨k + 1, by omega, by go_num, by rw [Ht.out, Hd.out]; go_num⟩
        case measure => simp [intOf]; omega
      | false =>
        rw [hd] at p7
        have Hd := Lib.hid hd
        clear hd
        go_wp2_with fail
        go_round
        case rel => exact ⟨k + 1, by omega, by go_num, by rw [Ht.out, Hd.out]; go_num⟩
        case measure => simp [intOf]; omega
    · obtain rfl : k = ops.length := by omega
      rw [List.take_length] at hcp ⊢
      have e1 : ((ops.length : Int) == reqs.length) = true := by have := D2.out; simp; omega
      have e2 : ((ops.length : Int) + (ops.countP (·.done) : Nat) == obs.length) = true := by have := D1.out; simp; omega
      go_wp2_with fail
      refine (hCheck_any _ _ ops _ s3 D4.out (by omega)).mono ?_
      rintro e w3 ⟨rfl, hb3⟩
      rw [D3.out]
      go_wp2_with fail
      refine (lives20_any _).mono ?_
      rintro e w4 ⟨rfl, hb4⟩
      go_wp2_with fail
      go_ret
      exact ⟨by simp, bext (bext (bext hb1 hb2) hb3) hb4⟩
end Go.Proofs.Ythijndjgchbeoaa
