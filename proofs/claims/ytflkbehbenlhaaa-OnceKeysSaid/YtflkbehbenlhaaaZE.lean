/-
  Some texts as one: Observed, Events, RefOf, HistOf, HistPlain, SoundPlain, GenPlain, Same, Picks, Appends.
-/
import Derived.Test.YtflkbehbenlhaaaZD
import Derived.Deep.RegionHeld3
import Derived.Deep.DrawnRows
import Derived.Deep.DeepCutAuto
/-
  simproofref20.Observed: observations of sequential processes, made from numbers.
-/
namespace Go.Proofs.Ytflkbehbenlhaaa
set_option linter.unusedVariables false
open Go.RowKit
attribute [local go_sem ↓] Go.wp_at_zero Go.wp_at_succ

end Go.Proofs.Ytflkbehbenlhaaa
/-
  simproofref20.events: calls and returns of sequential processes, made from numbers.
-/
namespace Go.Proofs.Ytflkbehbenlhaaa
set_option linter.unusedVariables false
open Go.RowKit
attribute [local go_sem ↓] Go.wp_at_zero Go.wp_at_succ

structure EvV where
  p : Int
  inv : Bool
  n : Int
  deriving DecidableEq, Inhabited
def EvV.vals (o : EvV) : List Value := [.int .i64 o.p, .bool o.inv, .int .i64 o.n]
theorem EvV.wide : Wide 3 EvV.vals := fun _ => rfl
theorem EvV.one (o : EvV) : ∀ u ∈ o.vals, u.oneCell' = true := by intro u hu; simp [EvV.vals] at hu; rcases hu with rfl | rfl | rfl <;> rfl
section
variable {w : World} {B : Nat} {A : Option Addr}
theorem Sl.ev {l : List EvV} (h : Sl EvV.vals w B A l) {i : Nat} (hi : i < l.length) : ∃ b off, A = some ⟨b, off, none⟩ ∧ b < B ∧
    w.cell? ⟨b, off + i * 3, none⟩ = some (.int .i64 (nth l i).p) ∧ w.cell? ⟨b, off + i * 3 + 1, none⟩ = some (.bool (nth l i).inv) ∧ w.cell? ⟨b, off + i * 3 + 2, none⟩ = some (.int .i64 (nth l i).n) := by
  obtain ⟨b, off, rfl, hb, hc⟩ := h.get EvV.wide hi
  rw [← nth_eq hi] at hc
  exact ⟨b, off, rfl, hb, hc 0 _ (by omega) rfl, hc 1 _ (by omega) rfl, hc 2 _ (by omega) rfl⟩
end

structure EvSt where
  out : List EvV
  pend : List Int
  calls : Nat
def evInit : EvSt := ⟨[], [0, 0, 0, 0], 0⟩
def evNum (most n : Int) (p : Nat) (s : EvSt) : EvSt :=
  if nth s.pend p = 0 ∧ (s.calls : Int) < most then ⟨s.out ++ [⟨p, true, n / 4⟩], s.pend.set p 1, s.calls + 1⟩
  else if nth s.pend p = 1 ∧ n / 4 % 11 = 10 then { s with pend := s.pend.set p 2 }
  else if nth s.pend p = 1 then { s with pend := s.pend.set p 0, out := s.out ++ [⟨p, false, n / 4⟩] }
  else s
def evStep (l : List Int) (most : Int) (i : Nat) (s : EvSt) : EvSt := evNum most (around (nth l i) 1000000) (around (nth l i) 1000000 % 4).toNat s
def evTo (l : List Int) (most : Int) (k : Nat) : EvSt := loopN (evStep l most) evInit k
def events (l : List Int) (most : Int) : List EvV := (evTo l most (min l.length 40)).out
end Go.Proofs.Ytflkbehbenlhaaa
/-
  simproofref20.Of: the operations of a sequence of observations, by the reference.
-/
namespace Go.Proofs.Ytflkbehbenlhaaa
set_option linter.unusedVariables false
open Go.RowKit
attribute [local go_sem ↓] Go.wp_at_zero Go.wp_at_succ

end Go.Proofs.Ytflkbehbenlhaaa
/-
  history.Of: the operations of a sequence of observations.
-/
namespace Go.Proofs.Ytflkbehbenlhaaa
set_option linter.unusedVariables false
open Go.RowKit
attribute [local go_sem ↓] Go.wp_at_zero Go.wp_at_succ

def invs (obs : List ObsV) : Nat → Nat
  | 0 => 0
  | k + 1 => invs obs k + if (nth obs k).reply then 0 else 1
def ObsSeq (obs : List ObsV) : Prop := ∀ i, i < obs.length → if (nth obs i).reply then 0 ≤ (nth obs i).req ∧ (nth obs i).req < invs obs i else (nth obs i).req = invs obs i
end Go.Proofs.Ytflkbehbenlhaaa
/-
  The plain law of histories: what history.Of computes is what the reference computes, for observations of sequential processes.
-/
namespace Go.Proofs.Ytflkbehbenlhaaa
set_option linter.unusedVariables false

/-! ### the observations made from numbers are of sequential processes -/
end Go.Proofs.Ytflkbehbenlhaaa
/-
  The plain law: the operations of observations of sequential processes are a history, one for each invocation.
-/
namespace Go.Proofs.Ytflkbehbenlhaaa
set_option linter.unusedVariables false

/-! ### replies and invocations of observations made from numbers -/
structure SeqOk (obs : List ObsV) (ep wt : List Int) : Prop where
  e2 : ep.length = 2
  w2 : wt.length = 2
  node : ∀ i, i < obs.length → 0 ≤ (nth obs i).node ∧ (nth obs i).node < 2
  epo : ∀ i, i < obs.length → (nth obs i).epoch ≤ nth ep (nth obs i).node.toNat
  /-- an invocation of the current epoch that does not wait has been answered -/
  ans : ∀ i, i < obs.length → (nth obs i).reply = false → (nth obs i).epoch = nth ep (nth obs i).node.toNat → (nth obs i).req ≠ nth wt (nth obs i).node.toNat →
    ∃ k, i < k ∧ k < obs.length ∧ (nth obs k).reply = true ∧ (nth obs k).req = (nth obs i).req
  /-- no request is answered twice -/
  one : ∀ k m, k < m → m < obs.length → (nth obs k).reply = true → (nth obs m).reply = true → (nth obs k).req ≠ (nth obs m).req
  /-- between two invocations of a process the first is answered -/
  btw : ∀ i j, i < j → j < obs.length → (nth obs i).reply = false → (nth obs j).reply = false → (nth obs i).node = (nth obs j).node → (nth obs i).epoch = (nth obs j).epoch →
    ∃ k, i < k ∧ k < j ∧ (nth obs k).reply = true ∧ (nth obs k).req = (nth obs i).req
  /-- what waits has not been answered -/
  wait : ∀ p, p < 2 → 0 ≤ nth wt p → ∀ k, k < obs.length → (nth obs k).reply = true → (nth obs k).req ≠ nth wt p

theorem nth_snoc_lt {α : Type} [Inhabited α] {l : List α} {a : α} {i : Nat} (h : i < l.length) : nth (l ++ [a]) i = nth l i := nth_append_left h
theorem SeqOk.call {obs : List ObsV} {ep wt : List Int} (h : SeqOk obs ep wt) (hs : ObsSeq obs) {p : Nat} (hp : p < 2) (hw : nth wt p < 0) (c : Int) (hc : c = invs obs obs.length) :
    SeqOk (obs ++ [⟨false, c, p, nth ep p, 0⟩]) ep (wt.set p c) := by
  have lst : nth (obs ++ [(⟨false, c, p, nth ep p, 0⟩ : ObsV)]) obs.length = ⟨false, c, p, nth ep p, 0⟩ := nth_append_len
  have len : (obs ++ [(⟨false, c, p, nth ep p, 0⟩ : ObsV)]).length = obs.length + 1 := by simp
  have old : ∀ i, i < obs.length → nth (obs ++ [(⟨false, c, p, nth ep p, 0⟩ : ObsV)]) i = nth obs i := fun i hi => nth_snoc_lt hi
  have small : ∀ i, i < obs.length → 0 ≤ (nth obs i).req ∧ (nth obs i).req < c := fun i hi => by
    have := hs i hi
    have hm : invs obs (i + 1) ≤ invs obs obs.length := by
      have mono : ∀ a b, a ≤ b → invs obs a ≤ invs obs b := fun a b hab => by
        induction b with
        | zero => have : a = 0 := by omega
                  subst this; exact Nat.le_refl _
        | succ b ih =>
          rcases Nat.lt_or_ge a (b + 1) with h1 | h1
          · exact Nat.le_trans (ih (by omega)) (by simp only [invs]; omega)
          · have : a = b + 1 := by omega
            subst this; exact Nat.le_refl _
      exact mono _ _ (by omega)
    cases hr : (nth obs i).reply with
    | true => rw [if_pos hr] at this; simp only [invs, hr, if_true, Nat.add_zero] at hm; omega
    | false => rw [if_neg (by simp [hr])] at this; simp only [invs, hr] at hm; simp at hm; omega
  refine ⟨h.e2, by simp [h.w2], fun i hi => ?_, fun i hi => ?_, fun i hi hr he hw2 => ?_, fun k m hkm hm hk1 hm1 => ?_, fun i j hij hj hi1 hj1 hn he => ?_, fun q hq h0 k hk hr => ?_⟩
  · rcases Nat.lt_or_ge i obs.length with h1 | h1
    · rw [old i h1]; exact h.node i h1
    · have : i = obs.length := by omega
      subst this; rw [lst]; dsimp only; omega
  · rcases Nat.lt_or_ge i obs.length with h1 | h1
    · rw [old i h1]; exact h.epo i h1
    · have : i = obs.length := by omega
      subst this; rw [lst]; simp
  · rcases Nat.lt_or_ge i obs.length with h1 | h1
    · rw [old i h1] at hr he hw2 ⊢
      have hn := h.node i h1
      have hne : (nth obs i).req ≠ nth wt (nth obs i).node.toNat := by
        by_cases hpq : p = (nth obs i).node.toNat
        · rw [← hpq]; have := (small i h1).1; omega
        · rwa [nth_set_other hpq] at hw2
      obtain ⟨k, h2, h3, h4, h5⟩ := h.ans i h1 hr he hne
      exact ⟨k, h2, by omega, by rw [old k h3]; exact h4, by rw [old k h3]; exact h5⟩
    · have : i = obs.length := by omega
      subst this; rw [lst] at hw2
      simp only [Int.toNat_natCast] at hw2
      rw [nth_set_same (by rw [h.w2]; exact hp)] at hw2
      exact absurd rfl hw2
  · rcases Nat.lt_or_ge m obs.length with h1 | h1
    · rw [old m h1] at hm1 ⊢; rw [old k (by omega)] at hk1 ⊢
      exact h.one k m hkm h1 hk1 hm1
    · have : m = obs.length := by omega
      subst this; rw [lst] at hm1; simp at hm1
  · rcases Nat.lt_or_ge j obs.length with h1 | h1
    · rw [old j h1] at hj1 hn he; rw [old i (by omega)] at hi1 hn he ⊢
      obtain ⟨k, h2, h3, h4, h5⟩ := h.btw i j hij h1 hi1 hj1 hn he
      exact ⟨k, h2, h3, by rw [old k (by omega)]; exact h4, by rw [old k (by omega)]; exact h5⟩
    · have : j = obs.length := by omega
      subst this; rw [lst] at hn he; rw [old i hij] at hi1 hn he ⊢
      dsimp only at hn he
      have hp2 : (nth obs i).node.toNat = p := by omega
      obtain ⟨k, h2, h3, h4, h5⟩ := h.ans i hij hi1 (by rw [hp2]; exact he) (by rw [hp2]; have := (small i hij).1; omega)
      exact ⟨k, h2, h3, by rw [old k h3]; exact h4, by rw [old k h3]; exact h5⟩
  · rcases Nat.lt_or_ge k obs.length with h1 | h1
    · rw [old k h1] at hr ⊢
      by_cases hpq : p = q
      · subst hpq; rw [nth_set_same (by rw [h.w2]; exact hp)]; have := (small k h1).2; omega
      · rw [nth_set_other hpq] at h0 ⊢; exact h.wait q hq h0 k h1 hr
    · have : k = obs.length := by omega
      subst this; rw [lst] at hr; simp at hr

theorem SeqOk.reply {obs : List ObsV} {ep wt : List Int} (h : SeqOk obs ep wt) {p : Nat} (hp : p < 2) (hw : 0 ≤ nth wt p) (v : Int)
    (hdiff : ∀ q, q < 2 → q ≠ p → nth wt q ≠ nth wt p) : SeqOk (obs ++ [⟨true, nth wt p, p, nth ep p, v⟩]) ep (wt.set p (-1)) := by
  have lst : nth (obs ++ [(⟨true, nth wt p, p, nth ep p, v⟩ : ObsV)]) obs.length = ⟨true, nth wt p, p, nth ep p, v⟩ := nth_append_len
  have len : (obs ++ [(⟨true, nth wt p, p, nth ep p, v⟩ : ObsV)]).length = obs.length + 1 := by simp
  have old : ∀ i, i < obs.length → nth (obs ++ [(⟨true, nth wt p, p, nth ep p, v⟩ : ObsV)]) i = nth obs i := fun i hi => nth_snoc_lt hi
  refine ⟨h.e2, by simp [h.w2], fun i hi => ?_, fun i hi => ?_, fun i hi hr he hw2 => ?_, fun k m hkm hm hk1 hm1 => ?_, fun i j hij hj hi1 hj1 hn he => ?_, fun q hq h0 k hk hr => ?_⟩
  · rcases Nat.lt_or_ge i obs.length with h1 | h1
    · rw [old i h1]; exact h.node i h1
    · have : i = obs.length := by omega
      subst this; rw [lst]; dsimp only; omega
  · rcases Nat.lt_or_ge i obs.length with h1 | h1
    · rw [old i h1]; exact h.epo i h1
    · have : i = obs.length := by omega
      subst this; rw [lst]; simp
  · rcases Nat.lt_or_ge i obs.length with h1 | h1
    · rw [old i h1] at hr he hw2 ⊢
      have hn := h.node i h1
      by_cases hx : (nth obs i).req = nth wt (nth obs i).node.toNat
      · by_cases hpq : p = (nth obs i).node.toNat
        · exact ⟨obs.length, h1, by omega, by rw [lst], by rw [lst]; dsimp only; rw [hx, ← hpq]⟩
        · rw [nth_set_other hpq] at hw2; exact absurd hx hw2
      · obtain ⟨k, h2, h3, h4, h5⟩ := h.ans i h1 hr he hx
        exact ⟨k, h2, by omega, by rw [old k h3]; exact h4, by rw [old k h3]; exact h5⟩
    · have : i = obs.length := by omega
      subst this; rw [lst] at hr; simp at hr
  · rcases Nat.lt_or_ge m obs.length with h1 | h1
    · rw [old m h1] at hm1 ⊢; rw [old k (by omega)] at hk1 ⊢
      exact h.one k m hkm h1 hk1 hm1
    · have : m = obs.length := by omega
      subst this; rw [lst]; rw [old k hkm] at hk1 ⊢
      exact h.wait p hp hw k hkm hk1
  · rcases Nat.lt_or_ge j obs.length with h1 | h1
    · rw [old j h1] at hj1 hn he; rw [old i (by omega)] at hi1 hn he ⊢
      obtain ⟨k, h2, h3, h4, h5⟩ := h.btw i j hij h1 hi1 hj1 hn he
      exact ⟨k, h2, h3, by rw [old k (by omega)]; exact h4, by rw [old k (by omega)]; exact h5⟩
    · have : j = obs.length := by omega
      subst this; rw [lst] at hj1; simp at hj1
  · by_cases hpq : p = q
    · subst hpq; rw [nth_set_same (by rw [h.w2]; exact hp)] at h0; omega
    · rw [nth_set_other hpq] at h0 ⊢
      rcases Nat.lt_or_ge k obs.length with h1 | h1
      · rw [old k h1] at hr ⊢; exact h.wait q hq h0 k h1 hr
      · have : k = obs.length := by omega
        subst this; rw [lst]; exact fun e => hdiff q hq (fun e => hpq e.symm) e.symm

/-! ### what an operation looks like -/
/-! ### how many are done -/
end Go.Proofs.Ytflkbehbenlhaaa
/-
  The plain law of the generators of histories: calls and returns of sequential processes make a history.
-/
namespace Go.Proofs.Ytflkbehbenlhaaa
set_option linter.unusedVariables false

def pend (ev : List EvV) : Nat → Int → Bool
  | 0, _ => false
  | k + 1, p => if (nth ev k).p = p then (nth ev k).inv else pend ev k p
def invsE (ev : List EvV) : Nat → Nat
  | 0 => 0
  | k + 1 => invsE ev k + if (nth ev k).inv then 1 else 0
def EvGood (ev : List EvV) : Prop := ∀ k, k < ev.length → (0 ≤ (nth ev k).p ∧ (nth ev k).p < 4) ∧ (0 ≤ (nth ev k).n ∧ (nth ev k).n ≤ 250000) ∧ (nth ev k).inv = !pend ev k (nth ev k).p
theorem pend_app (ev : List EvV) (a : EvV) : ∀ k p, k ≤ ev.length → pend (ev ++ [a]) k p = pend ev k p
  | 0, _, _ => rfl
  | k + 1, p, h => by
    unfold pend
    rw [nth_append_left (by omega), pend_app ev a k p (by omega)]
theorem EvGood.app {ev : List EvV} (h : EvGood ev) {a : EvV} (h1 : 0 ≤ a.p ∧ a.p < 4) (h2 : 0 ≤ a.n ∧ a.n ≤ 250000) (h3 : a.inv = !pend ev ev.length a.p) : EvGood (ev ++ [a]) := by
  intro k hk
  rw [List.length_append, List.length_singleton] at hk
  by_cases e : k < ev.length
  · rw [nth_append_left e, pend_app ev a k _ (by omega)]
    exact h k e
  · have : k = ev.length := by omega
    subst this
    rw [nth_append_len, pend_app ev a _ _ (Nat.le_refl _)]
    exact ⟨h1, h2, h3⟩

structure GenOk (ev : List EvV) (k : Nat) (out : List OpV) (opn : List Int) : Prop where
  lop : opn.length = 4
  len : out.length = invsE ev k
  call : ∀ j, j < out.length → ∃ c : Nat, (nth out j).call = c ∧ c < k ∧ (nth ev c).inv = true ∧ (nth out j).p = (nth ev c).p
  mono : ∀ i j, i < j → j < out.length → (nth out i).call < (nth out j).call
  ret : ∀ j, j < out.length → (nth out j).done = true → ∃ r : Nat, (nth out j).ret = r ∧ r < k ∧ (nth ev r).inv = false ∧ (nth out j).call < r
  stay : ∀ j, j < out.length → (nth out j).done = false → (nth out j).ret = ev.length ∧ (nth out j).res = 0 ∧ pend ev k (nth out j).p = true
  one : ∀ i j, i < j → j < out.length → (nth out i).done = true → (nth out j).done = true → (nth out i).ret ≠ (nth out j).ret
  seq : ∀ i j, i < j → j < out.length → (nth out i).p = (nth out j).p → (nth out i).done = true ∧ (nth out i).ret < (nth out j).call
  opn : ∀ p : Nat, p < 4 → pend ev k p = true → ∃ j : Nat, nth opn p = j ∧ j < out.length ∧ (nth out j).p = p ∧ (nth out j).done = false

theorem GenOk.zero (ev : List EvV) : GenOk ev 0 [] [0, 0, 0, 0] :=
  ⟨rfl, rfl, fun _ h => by simp at h, fun _ _ _ h => by simp at h, fun _ h => by simp at h, fun _ h => by simp at h, fun _ _ _ h => by simp at h, fun _ _ _ h => by simp at h, fun _ _ h => by simp [pend] at h⟩

theorem GenOk.add {ev : List EvV} {k : Nat} {out : List OpV} {opn : List Int} (h : GenOk ev k out opn) (hg : EvGood ev) (hk : k < ev.length) (hi : (nth ev k).inv = true) {o : OpV} (h1 : o.p = (nth ev k).p) (h2 : o.call = k) (h3 : o.ret = ev.length) (h4 : o.done = false) (h5 : o.res = 0) {p : Nat} (hp : (nth ev k).p = p) :
    GenOk ev (k + 1) (out ++ [o]) (opn.set p out.length) := by
  obtain ⟨⟨g1, g2⟩, _, g3⟩ := hg k hk
  have hpend : pend ev k (nth ev k).p = false := by rw [hi] at g3; simpa using g3
  have hp4 : p < 4 := by omega
  have old : ∀ i, i < out.length → nth (out ++ [o]) i = nth out i := fun i hi => nth_append_left hi
  have new : nth (out ++ [o]) out.length = o := nth_append_len
  have hlen : (out ++ [o]).length = out.length + 1 := by simp
  have free : ∀ j, j < out.length → (nth out j).p = (nth ev k).p → (nth out j).done = true := by
    intro j hj he
    cases hd : (nth out j).done with
    | true => rfl
    | false => have := (h.stay j hj hd).2.2; rw [he, hpend] at this; cases this
  refine ⟨by simpa using h.lop, ?_, fun j hj => ?_, fun i j hij hj => ?_, fun j hj hd => ?_, fun j hj hd => ?_, fun i j hij hj hdi hdj => ?_, fun i j hij hj he => ?_, fun q hq hpq => ?_⟩
  · rw [hlen, h.len, invsE, hi]; rfl
  · by_cases e : j < out.length
    · rw [old j e]; obtain ⟨c, a1, a2, a3, a4⟩ := h.call j e; exact ⟨c, a1, by omega, a3, a4⟩
    · obtain rfl : j = out.length := by omega
      rw [new]; exact ⟨k, h2, by omega, hi, h1⟩
  · rw [old i (by omega)]
    by_cases e : j < out.length
    · rw [old j e]; exact h.mono i j hij e
    · obtain rfl : j = out.length := by omega
      rw [new, h2]; obtain ⟨c, a1, a2, _⟩ := h.call i hij; omega
  · by_cases e : j < out.length
    · rw [old j e] at hd ⊢; obtain ⟨r, a1, a2, a3, a4⟩ := h.ret j e hd; exact ⟨r, a1, by omega, a3, a4⟩
    · obtain rfl : j = out.length := by omega
      rw [new, h4] at hd; cases hd
  · by_cases e : j < out.length
    · rw [old j e] at hd ⊢
      obtain ⟨a1, a2, a3⟩ := h.stay j e hd
      refine ⟨a1, a2, ?_⟩
      rw [pend]
      split
      · exact hi
      · exact a3
    · obtain rfl : j = out.length := by omega
      rw [new]; exact ⟨h3, h5, by rw [pend, h1, if_pos rfl, hi]⟩
  · rw [old i (by omega)] at hdi ⊢
    by_cases e : j < out.length
    · rw [old j e] at hdj ⊢; exact h.one i j hij e hdi hdj
    · obtain rfl : j = out.length := by omega
      rw [new, h4] at hdj; cases hdj
  · rw [old i (by omega)] at he ⊢
    by_cases e : j < out.length
    · rw [old j e] at he ⊢; exact h.seq i j hij e he
    · obtain rfl : j = out.length := by omega
      rw [new] at he ⊢
      have hd := free i hij (he.trans h1)
      obtain ⟨r, a1, a2, _⟩ := h.ret i hij hd
      exact ⟨hd, by omega⟩
  · rw [pend] at hpq
    by_cases e : q = p
    · subst e
      exact ⟨out.length, nth_set_same (by rw [h.lop]; exact hq), by omega, by rw [new, h1, hp], by rw [new, h4]⟩
    · rw [if_neg (by omega)] at hpq
      obtain ⟨j, a1, a2, a3, a4⟩ := h.opn q hq hpq
      exact ⟨j, by rw [nth_set_other (fun e2 => e e2.symm)]; exact a1, by omega, by rw [old j a2]; exact a3, by rw [old j a2]; exact a4⟩

theorem GenOk.at_ {ev : List EvV} {k : Nat} {out : List OpV} {opn : List Int} (h : GenOk ev k out opn) (hg : EvGood ev) (hk : k < ev.length) (hi : (nth ev k).inv = false) {p : Nat} (hp : (nth ev k).p = p) :
    ∃ j : Nat, nth opn p = j ∧ j < out.length ∧ (nth out j).p = p ∧ (nth out j).done = false := by
  obtain ⟨⟨g1, g2⟩, _, g3⟩ := hg k hk
  refine h.opn p (by omega) ?_
  rw [hi, hp] at g3
  simpa using g3

theorem GenOk.put {ev : List EvV} {k : Nat} {out : List OpV} {opn : List Int} (h : GenOk ev k out opn) (hk : k < ev.length) (hi : (nth ev k).inv = false) {j : Nat} (hj : j < out.length) (hjp : (nth out j).p = (nth ev k).p) (hjd : (nth out j).done = false)
    {o : OpV} (h1 : o.p = (nth out j).p) (h2 : o.call = (nth out j).call) (h3 : o.ret = k) (h4 : o.done = true) : GenOk ev (k + 1) (out.set j o) opn := by
  have other : ∀ i, i ≠ j → nth (out.set j o) i = nth out i := fun i hi => nth_set_other (fun e => hi e.symm)
  have here : nth (out.set j o) j = o := nth_set_same hj
  have hlen : (out.set j o).length = out.length := by simp
  have pc : ∀ i, (nth (out.set j o) i).p = (nth out i).p ∧ (nth (out.set j o) i).call = (nth out i).call := by
    intro i
    by_cases e : i = j
    · subst e; rw [here]; exact ⟨h1, h2⟩
    · rw [other i e]; exact ⟨rfl, rfl⟩
  have uniq : ∀ i, i < out.length → i ≠ j → (nth out i).p = (nth out j).p → (nth out i).done = true := by
    intro i hi he hpe
    rcases Nat.lt_or_ge i j with e | e
    · exact (h.seq i j e hj hpe).1
    · have := (h.seq j i (by omega) hi hpe.symm).1
      rw [hjd] at this; cases this
  have retlt : ∀ i, i < out.length → (nth out i).done = true → (nth out i).ret < k := by
    intro i hi hd; obtain ⟨r, a1, a2, _⟩ := h.ret i hi hd; omega
  refine ⟨h.lop, ?_, fun i hi2 => ?_, fun a b hab hb => ?_, fun i hi2 hd => ?_, fun i hi2 hd => ?_, fun a b hab hb hda hdb => ?_, fun a b hab hb he => ?_, fun q hq hpq => ?_⟩
  · rw [hlen, h.len, invsE, hi]; rfl
  · rw [hlen] at hi2
    obtain ⟨c, a1, a2, a3, a4⟩ := h.call i hi2
    exact ⟨c, by rw [(pc i).2]; exact a1, by omega, a3, by rw [(pc i).1]; exact a4⟩
  · rw [hlen] at hb; rw [(pc a).2, (pc b).2]; exact h.mono a b hab hb
  · rw [hlen] at hi2
    by_cases e : i = j
    · subst e
      rw [here]
      obtain ⟨c, a1, a2, _⟩ := h.call i hi2
      exact ⟨k, h3, by omega, hi, by omega⟩
    · rw [other i e] at hd ⊢; obtain ⟨r, a1, a2, a3, a4⟩ := h.ret i hi2 hd; exact ⟨r, a1, by omega, a3, a4⟩
  · rw [hlen] at hi2
    by_cases e : i = j
    · subst e; rw [here, h4] at hd; cases hd
    · rw [other i e] at hd ⊢
      obtain ⟨a1, a2, a3⟩ := h.stay i hi2 hd
      refine ⟨a1, a2, ?_⟩
      rw [pend, if_neg]
      · exact a3
      · intro e2
        have := uniq i hi2 e (e2.symm.trans hjp.symm)
        rw [hd] at this; cases this
  · rw [hlen] at hb
    by_cases ea : a = j
    · subst ea
      rw [other b (by omega)] at hdb ⊢
      rw [here, h3]
      have := retlt b hb hdb; omega
    · rw [other a ea] at hda ⊢
      by_cases eb : b = j
      · subst eb
        rw [here, h3]
        have := retlt a (by omega) hda; omega
      · rw [other b eb] at hdb ⊢; exact h.one a b hab hb hda hdb
  · rw [hlen] at hb
    rw [(pc a).1, (pc b).1] at he
    rw [(pc b).2]
    obtain ⟨s1, s2⟩ := h.seq a b hab hb he
    by_cases ea : a = j
    · subst ea; rw [hjd] at s1; cases s1
    · rw [other a ea]; exact ⟨s1, s2⟩
  · rw [pend] at hpq
    split at hpq
    · rw [hi] at hpq; cases hpq
    · rename_i hne
      obtain ⟨i, a1, a2, a3, a4⟩ := h.opn q hq hpq
      have hij : i ≠ j := by
        intro e; subst e
        exact hne (by rw [← hjp, a3])
      exact ⟨i, a1, by rw [hlen]; exact a2, by rw [other i hij]; exact a3, by rw [other i hij]; exact a4⟩

end Go.Proofs.Ytflkbehbenlhaaa
/-
  simproofref20.Same answers whether two lists of operations are equal.
-/
namespace Go.Proofs.Ytflkbehbenlhaaa
set_option linter.unusedVariables false
open Go.RowKit

end Go.Proofs.Ytflkbehbenlhaaa
/-
  Small functions of the references: Has, Pick, SameInts, Ints; chosen and popped.
-/
namespace Go.Proofs.Ytflkbehbenlhaaa
set_option linter.unusedVariables false
open Go.RowKit
attribute [local go_sem ↓] Go.wp_at_zero Go.wp_at_succ

def pick0 (l : List Int) (most : Int) : Int := if l.length = 0 then 0 else around (nth l 0) most
/-! ### chosen -/
def ownOf (ws : List Int) (key : Int) : Nat → List Int
  | 0 => [0]
  | k + 1 => if nth ws k = key then ownOf ws key k ++ [(k : Int) + 1] else ownOf ws key k
def chosenV (ws : List Int) (key n latest : Int) (fresh : Bool) : Int :=
  if fresh = true ∧ 0 < n % 7 then latest
  else if n % 13 = 12 then 1 + n / 13 % 12
  else nth (ownOf ws key ws.length) (n / 2 % (ownOf ws key ws.length).length).toNat
/-! ### popped -/
def popFrom (pushed taken : List Int) (key : Int) (k : Nat) : Nat → Int
  | 0 => 0
  | m + 1 => if nth pushed k = key ∧ ¬ ((k : Int) + 1) ∈ taken then (k : Int) + 1 else popFrom pushed taken key (k + 1) m
def poppedV (pushed taken : List Int) (key n : Int) : Int :=
  if n % 9 = 8 then n / 9 % 9 else if 0 < n % 5 then popFrom pushed taken key 0 pushed.length else 0
end Go.Proofs.Ytflkbehbenlhaaa
/-
  Append of a whole list, which may be nil, to a row of one's own.
-/
namespace Go.Proofs.Ytflkbehbenlhaaa
set_option linter.unusedVariables false
open Go.RowKit

end Go.Proofs.Ytflkbehbenlhaaa
