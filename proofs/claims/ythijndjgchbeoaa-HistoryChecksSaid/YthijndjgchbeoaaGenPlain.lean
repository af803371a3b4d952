/-
  The plain law of the generators of histories: calls and returns of sequential processes make a history.
-/
import Derived.Test.YthijndjgchbeoaaEvents
import Derived.Test.YthijndjgchbeoaaSoundPlain
namespace Go.Proofs.Ythijndjgchbeoaa
set_option linter.unusedVariables false

/-- after k events process p has called and not returned -/
def pend (ev : List EvV) : Nat → Int → Bool
  | 0, _ => false
  | k + 1, p => if (nth ev k).p = p then (nth ev k).inv else pend ev k p
def invsE (ev : List EvV) : Nat → Nat
  | 0 => 0
  | k + 1 => invsE ev k + if (nth ev k).inv then 1 else 0
def EvGood (ev : List EvV) : Prop := ∀ k, k < ev.length → (0 ≤ (nth ev k).p ∧ (nth ev k).p < 4) ∧ (0 ≤ (nth ev k).n ∧ (nth ev k).n ≤ 250000) ∧ (nth ev k).inv = !pend ev k (nth ev k).p
theorem pend_app (ev : List EvV) (a : EvV) : ∀ k p, k ≤ ev.length → pend (ev ++ [a]) k p = pend ev k p
  | 0, _, _ => rfl
  | k + 1, p, h => by
    unfold pend
    rw [nth_append_left (by omega), pend_app ev a k p (by omega)]
theorem invsE_app (ev : List EvV) (a : EvV) : ∀ k, k ≤ ev.length → invsE (ev ++ [a]) k = invsE ev k
  | 0, _ => rfl
  | k + 1, h => by
    unfold invsE
    rw [nth_append_left (by omega), invsE_app ev a k (by omega)]
theorem pend_end (ev : List EvV) (a : EvV) (p : Int) : pend (ev ++ [a]) (ev ++ [a]).length p = if a.p = p then a.inv else pend ev ev.length p := by
  rw [List.length_append, List.length_singleton, pend, nth_append_len, pend_app ev a _ _ (Nat.le_refl _)]
theorem invsE_end (ev : List EvV) (a : EvV) : invsE (ev ++ [a]) (ev ++ [a]).length = invsE ev ev.length + if a.inv then 1 else 0 := by
  rw [List.length_append, List.length_singleton, invsE, nth_append_len, invsE_app ev a _ (Nat.le_refl _)]
theorem EvGood.app {ev : List EvV} (h : EvGood ev) {a : EvV} (h1 : 0 ≤ a.p ∧ a.p < 4) (h2 : 0 ≤ a.n ∧ a.n ≤ 250000) (h3 : a.inv = !pend ev ev.length a.p) : EvGood (ev ++ [a]) := by
  intro k hk
  rw [List.length_append, List.length_singleton] at hk
  by_cases e : k < ev.length
  · rw [nth_append_left e, pend_app ev a k _ (by omega)]
    exact h k e
  · have : k = ev.length := by omega
    subst this
    rw [nth_append_len, pend_app ev a _ _ (Nat.le_refl _)]
    exact ⟨h1, h2, h3⟩

structure EvInv (most : Int) (s : EvSt) : Prop where
  good : EvGood s.out
  lp : s.pend.length = 4
  pe : ∀ p : Nat, p < 4 → (nth s.pend p = 0 ∧ pend s.out s.out.length p = false ∨ (nth s.pend p = 1 ∨ nth s.pend p = 2) ∧ pend s.out s.out.length p = true)
  cnt : invsE s.out s.out.length = s.calls
  le : s.calls = 0 ∨ (s.calls : Int) ≤ most

theorem evTo_inv (l : List Int) (most : Int) (k : Nat) : EvInv most (evTo l most k) := by
  induction k with
  | zero =>
    refine ⟨fun k hk => by simp [evTo, loopN, evInit] at hk, rfl, fun p hp => .inl ⟨?_, rfl⟩, rfl, .inl rfl⟩
    match p, hp with
    | 0, _ => rfl
    | 1, _ => rfl
    | 2, _ => rfl
    | 3, _ => rfl
  | succ k ih =>
    have hs : evTo l most (k + 1) = evStep l most k (evTo l most k) := rfl
    rw [hs]
    generalize evTo l most k = s at ih
    unfold evStep
    have hn0 := around_lo (n := nth l k) (most := 1000000) (by omega)
    have hn1 := around_hi (n := nth l k) (most := 1000000) (by omega)
    generalize around (nth l k) 1000000 = n at hn0 hn1
    obtain ⟨p, hp⟩ : ∃ p : Nat, (n % 4).toNat = p := ⟨_, rfl⟩
    rw [hp]
    have hp4 : p < 4 := by omega
    obtain ⟨h1, h2, h3, h4, h5⟩ := ih
    have hq : ∀ (x : Int) (q : Nat), q < 4 → nth (s.pend.set p x) q = if q = p then x else nth s.pend q := by
      intro x q hq4
      by_cases e : q = p
      · subst e; rw [if_pos rfl, nth_set_same (by omega)]
      · rw [if_neg e, nth_set_other (fun h => e h.symm)]
    by_cases c1 : nth s.pend p = 0
    · have hpe : pend s.out s.out.length p = false := by rcases h3 p hp4 with ⟨_, h⟩ | ⟨h, _⟩; exact h; omega
      by_cases c2 : (s.calls : Int) < most
      · rw [evNum_call c1 c2]
        refine ⟨h1.app ⟨by dsimp only; omega, by dsimp only; omega⟩ ⟨by dsimp only; omega, by dsimp only; omega⟩ (by dsimp only; rw [hpe]; rfl), by simpa using h2, fun q hq4 => ?_, ?_, .inr (by dsimp only; omega)⟩
        · dsimp only
          rw [hq _ _ hq4, pend_end]
          by_cases e : q = p
          · subst e; right; simp
          · have e2 : ¬ ((p : Int) = (q : Int)) := by omega
            simp only [if_neg e, if_neg e2]; exact h3 q hq4
        · dsimp only; rw [invsE_end, h4]; rfl
      · rw [evNum_full c1 c2]; exact ⟨h1, h2, h3, h4, h5⟩
    · by_cases c3 : nth s.pend p = 1
      · have hpe : pend s.out s.out.length p = true := by rcases h3 p hp4 with ⟨h, _⟩ | ⟨_, h⟩; omega; exact h
        by_cases c4 : n / 4 % 11 = 10
        · rw [evNum_stay c3 c4]
          refine ⟨h1, by simpa using h2, fun q hq4 => ?_, h4, h5⟩
          dsimp only
          rw [hq _ _ hq4]
          by_cases e : q = p
          · subst e; right; simp [hpe]
          · simp only [if_neg e]; exact h3 q hq4
        · rw [evNum_ret c3 c4]
          refine ⟨h1.app ⟨by dsimp only; omega, by dsimp only; omega⟩ ⟨by dsimp only; omega, by dsimp only; omega⟩ (by dsimp only; rw [hpe]; rfl), by simpa using h2, fun q hq4 => ?_, ?_, h5⟩
          · dsimp only
            rw [hq _ _ hq4, pend_end]
            by_cases e : q = p
            · subst e; left; simp
            · have e2 : ¬ ((p : Int) = (q : Int)) := by omega
              simp only [if_neg e, if_neg e2]; exact h3 q hq4
          · dsimp only; rw [invsE_end, h4]; rfl
      · rw [evNum_gone c1 c3]; exact ⟨h1, h2, h3, h4, h5⟩
theorem events_good (l : List Int) (most : Int) : EvGood (events l most) := (evTo_inv l most _).good
theorem events_len (l : List Int) (most : Int) : (events l most).length ≤ 40 := by have := (evTo_ok l most (min l.length 40)).lo; unfold events; omega
theorem events_invs (l : List Int) {most : Int} (h : 0 ≤ most) : (invsE (events l most) (events l most).length : Int) ≤ most := by
  have h1 := (evTo_inv l most (min l.length 40)).cnt
  have h2 := (evTo_inv l most (min l.length 40)).le
  unfold events
  omega

/-- the operations after k events -/
structure GenOk (ev : List EvV) (k : Nat) (out : List OpV) (opn : List Int) : Prop where
  lop : opn.length = 4
  len : out.length = invsE ev k
  call : ∀ j, j < out.length → ∃ c : Nat, (nth out j).call = c ∧ c < k ∧ (nth ev c).inv = true ∧ (nth out j).p = (nth ev c).p
  mono : ∀ i j, i < j → j < out.length → (nth out i).call < (nth out j).call
  ret : ∀ j, j < out.length → (nth out j).done = true → ∃ r : Nat, (nth out j).ret = r ∧ r < k ∧ (nth ev r).inv = false ∧ (nth out j).call < r
  stay : ∀ j, j < out.length → (nth out j).done = false → (nth out j).ret = ev.length ∧ (nth out j).res = 0 ∧ pend ev k (nth out j).p = true
  one : ∀ i j, i < j → j < out.length → (nth out i).done = true → (nth out j).done = true → (nth out i).ret ≠ (nth out j).ret
  seq : ∀ i j, i < j → j < out.length → (nth out i).p = (nth out j).p → (nth out i).done = true ∧ (nth out i).ret < (nth out j).call
  opn : ∀ p : Nat, p < 4 → pend ev k p = true → ∃ j : Nat, nth opn p = j ∧ j < out.length ∧ (nth out j).p = p ∧ (nth out j).done = false

theorem GenOk.zero (ev : List EvV) : GenOk ev 0 [] [0, 0, 0, 0] :=
  ⟨rfl, rfl, fun _ h => by simp at h, fun _ _ _ h => by simp at h, fun _ h => by simp at h, fun _ h => by simp at h, fun _ _ _ h => by simp at h, fun _ _ _ h => by simp at h, fun _ _ h => by simp [pend] at h⟩

theorem GenOk.add {ev : List EvV} {k : Nat} {out : List OpV} {opn : List Int} (h : GenOk ev k out opn) (hg : EvGood ev) (hk : k < ev.length) (hi : (nth ev k).inv = true) {o : OpV} (h1 : o.p = (nth ev k).p) (h2 : o.call = k) (h3 : o.ret = ev.length) (h4 : o.done = false) (h5 : o.res = 0) {p : Nat} (hp : (nth ev k).p = p) :
    GenOk ev (k + 1) (out ++ [o]) (opn.set p out.length) := by
  obtain ⟨⟨g1, g2⟩, _, g3⟩ := hg k hk
  have hpend : pend ev k (nth ev k).p = false := by rw [hi] at g3; simpa using g3
  have hp4 : p < 4 := by omega
  have old : ∀ i, i < out.length → nth (out ++ [o]) i = nth out i := fun i hi => nth_append_left hi
  have new : nth (out ++ [o]) out.length = o := nth_append_len
  have hlen : (out ++ [o]).length = out.length + 1 := by simp
  have free : ∀ j, j < out.length → (nth out j).p = (nth ev k).p → (nth out j).done = true := by
    intro j hj he
    cases hd : (nth out j).done with
    | true => rfl
    | false => have := (h.stay j hj hd).2.2; rw [he, hpend] at this; cases this
  refine ⟨by simpa using h.lop, ?_, fun j hj => ?_, fun i j hij hj => ?_, fun j hj hd => ?_, fun j hj hd => ?_, fun i j hij hj hdi hdj => ?_, fun i j hij hj he => ?_, fun q hq hpq => ?_⟩
  · rw [hlen, h.len, invsE, hi]; rfl
  · by_cases e : j < out.length
    · rw [old j e]; obtain ⟨c, a1, a2, a3, a4⟩ := h.call j e; exact ⟨c, a1, by omega, a3, a4⟩
    · obtain rfl : j = out.length := by omega
      rw [new]; exact ⟨k, h2, by omega, hi, h1⟩
  · rw [old i (by omega)]
    by_cases e : j < out.length
    · rw [old j e]; exact h.mono i j hij e
    · obtain rfl : j = out.length := by omega
      rw [new, h2]; obtain ⟨c, a1, a2, _⟩ := h.call i hij; omega
  · by_cases e : j < out.length
    · rw [old j e] at hd ⊢; obtain ⟨r, a1, a2, a3, a4⟩ := h.ret j e hd; exact ⟨r, a1, by omega, a3, a4⟩
    · obtain rfl : j = out.length := by omega
      rw [new, h4] at hd; cases hd
  · by_cases e : j < out.length
    · rw [old j e] at hd ⊢
      obtain ⟨a1, a2, a3⟩ := h.stay j e hd
      refine ⟨a1, a2, ?_⟩
      rw [pend]
      split
      · exact hi
      · exact a3
    · obtain rfl : j = out.length := by omega
      rw [new]; exact ⟨h3, h5, by rw [pend, h1, if_pos rfl, hi]⟩
  · rw [old i (by omega)] at hdi ⊢
    by_cases e : j < out.length
    · rw [old j e] at hdj ⊢; exact h.one i j hij e hdi hdj
    · obtain rfl : j = out.length := by omega
      rw [new, h4] at hdj; cases hdj
  · rw [old i (by omega)] at he ⊢
    by_cases e : j < out.length
    · rw [old j e] at he ⊢; exact h.seq i j hij e he
    · obtain rfl : j = out.length := by omega
      rw [new] at he ⊢
      have hd := free i hij (he.trans h1)
      obtain ⟨r, a1, a2, _⟩ := h.ret i hij hd
      exact ⟨hd, by omega⟩
  · rw [pend] at hpq
    by_cases e : q = p
    · subst e
      exact ⟨out.length, nth_set_same (by rw [h.lop]; exact hq), by omega, by rw [new, h1, hp], by rw [new, h4]⟩
    · rw [if_neg (by omega)] at hpq
      obtain ⟨j, a1, a2, a3, a4⟩ := h.opn q hq hpq
      exact ⟨j, by rw [nth_set_other (fun e2 => e e2.symm)]; exact a1, by omega, by rw [old j a2]; exact a3, by rw [old j a2]; exact a4⟩

theorem GenOk.at_ {ev : List EvV} {k : Nat} {out : List OpV} {opn : List Int} (h : GenOk ev k out opn) (hg : EvGood ev) (hk : k < ev.length) (hi : (nth ev k).inv = false) {p : Nat} (hp : (nth ev k).p = p) :
    ∃ j : Nat, nth opn p = j ∧ j < out.length ∧ (nth out j).p = p ∧ (nth out j).done = false := by
  obtain ⟨⟨g1, g2⟩, _, g3⟩ := hg k hk
  refine h.opn p (by omega) ?_
  rw [hi, hp] at g3
  simpa using g3

theorem GenOk.put {ev : List EvV} {k : Nat} {out : List OpV} {opn : List Int} (h : GenOk ev k out opn) (hk : k < ev.length) (hi : (nth ev k).inv = false) {j : Nat} (hj : j < out.length) (hjp : (nth out j).p = (nth ev k).p) (hjd : (nth out j).done = false)
    {o : OpV} (h1 : o.p = (nth out j).p) (h2 : o.call = (nth out j).call) (h3 : o.ret = k) (h4 : o.done = true) : GenOk ev (k + 1) (out.set j o) opn := by
  have other : ∀ i, i ≠ j → nth (out.set j o) i = nth out i := fun i hi => nth_set_other (fun e => hi e.symm)
  have here : nth (out.set j o) j = o := nth_set_same hj
  have hlen : (out.set j o).length = out.length := by simp
  have pc : ∀ i, (nth (out.set j o) i).p = (nth out i).p ∧ (nth (out.set j o) i).call = (nth out i).call := by
    intro i
    by_cases e : i = j
    · subst e; rw [here]; exact ⟨h1, h2⟩
    · rw [other i e]; exact ⟨rfl, rfl⟩
  have uniq : ∀ i, i < out.length → i ≠ j → (nth out i).p = (nth out j).p → (nth out i).done = true := by
    intro i hi he hpe
    rcases Nat.lt_or_ge i j with e | e
    · exact (h.seq i j e hj hpe).1
    · have := (h.seq j i (by omega) hi hpe.symm).1
      rw [hjd] at this; cases this
  have retlt : ∀ i, i < out.length → (nth out i).done = true → (nth out i).ret < k := by
    intro i hi hd; obtain ⟨r, a1, a2, _⟩ := h.ret i hi hd; omega
  refine ⟨h.lop, ?_, fun i hi2 => ?_, fun a b hab hb => ?_, fun i hi2 hd => ?_, fun i hi2 hd => ?_, fun a b hab hb hda hdb => ?_, fun a b hab hb he => ?_, fun q hq hpq => ?_⟩
  · rw [hlen, h.len, invsE, hi]; rfl
  · rw [hlen] at hi2
    obtain ⟨c, a1, a2, a3, a4⟩ := h.call i hi2
    exact ⟨c, by rw [(pc i).2]; exact a1, by omega, a3, by rw [(pc i).1]; exact a4⟩
  · rw [hlen] at hb; rw [(pc a).2, (pc b).2]; exact h.mono a b hab hb
  · rw [hlen] at hi2
    by_cases e : i = j
    · subst e
      rw [here]
      obtain ⟨c, a1, a2, _⟩ := h.call i hi2
      exact ⟨k, h3, by omega, hi, by omega⟩
    · rw [other i e] at hd ⊢; obtain ⟨r, a1, a2, a3, a4⟩ := h.ret i hi2 hd; exact ⟨r, a1, by omega, a3, a4⟩
  · rw [hlen] at hi2
    by_cases e : i = j
    · subst e; rw [here, h4] at hd; cases hd
    · rw [other i e] at hd ⊢
      obtain ⟨a1, a2, a3⟩ := h.stay i hi2 hd
      refine ⟨a1, a2, ?_⟩
      rw [pend, if_neg]
      · exact a3
      · intro e2
        have := uniq i hi2 e (e2.symm.trans hjp.symm)
        rw [hd] at this; cases this
  · rw [hlen] at hb
    by_cases ea : a = j
    · subst ea
      rw [other b (by omega)] at hdb ⊢
      rw [here, h3]
      have := retlt b hb hdb; omega
    · rw [other a ea] at hda ⊢
      by_cases eb : b = j
      · subst eb
        rw [here, h3]
        have := retlt a (by omega) hda; omega
      · rw [other b eb] at hdb ⊢; exact h.one a b hab hb hda hdb
  · rw [hlen] at hb
    rw [(pc a).1, (pc b).1] at he
    rw [(pc b).2]
    obtain ⟨s1, s2⟩ := h.seq a b hab hb he
    by_cases ea : a = j
    · subst ea; rw [hjd] at s1; cases s1
    · rw [other a ea]; exact ⟨s1, s2⟩
  · rw [pend] at hpq
    split at hpq
    · rw [hi] at hpq; cases hpq
    · rename_i hne
      obtain ⟨i, a1, a2, a3, a4⟩ := h.opn q hq hpq
      have hij : i ≠ j := by
        intro e; subst e
        exact hne (by rw [← hjp, a3])
      exact ⟨i, a1, by rw [hlen]; exact a2, by rw [other i hij]; exact a3, by rw [other i hij]; exact a4⟩

/-- such operations are a history -/
theorem GenOk.history {ev : List EvV} {k : Nat} {out : List OpV} {opn : List Int} (h : GenOk ev k out opn) (hg : EvGood ev) (hk : k ≤ ev.length) (hlen : out.length ≤ 300) (hkind : ∀ o ∈ out, 0 ≤ o.k ∧ o.k ≤ 4) : hCheck out = 0 := by
  rw [hCheck, if_neg (by omega)]
  refine hCheckFrom_zero _ _ fun j _ hj => ?_
  have hj : j < out.length := by omega
  obtain ⟨c, c1, c2, c3, c4⟩ := h.call j hj
  have hkj := hkind _ (nth_mem hj)
  have hgc := (hg c (by omega)).1
  have hwf : wfB (nth out j) = true := by
    simp only [wfB, Bool.and_eq_true, decide_eq_true_eq, Bool.or_eq_true]
    cases hd : (nth out j).done with
    | true =>
      obtain ⟨r, a1, a2, a3, a4⟩ := h.ret j hj hd
      exact ⟨⟨⟨⟨⟨by omega, by omega⟩, by omega⟩, by omega⟩, by omega⟩, .inl rfl⟩
    | false =>
      obtain ⟨a1, a2, a3⟩ := h.stay j hj hd
      exact ⟨⟨⟨⟨⟨by omega, by omega⟩, by omega⟩, by omega⟩, by omega⟩, .inr a2⟩
  unfold errK
  rw [if_neg (by rw [hwf]; simp), if_neg, if_neg, if_neg]
  · rintro ⟨hsome, hbad⟩
    obtain ⟨o, ho⟩ := Option.isSome_iff_exists.1 hsome
    rw [ho] at hbad
    simp only [Option.getD_some] at hbad
    obtain ⟨m, hm, hmo, hmp⟩ := lastOf_some ho
    subst hmo
    obtain ⟨s1, s2⟩ := h.seq m j hm hj hmp
    rcases hbad with e | e
    · rw [s1] at e; cases e
    · omega
  · intro hdup
    simp only [Bool.or_eq_true, Bool.and_eq_true] at hdup
    rcases hdup with e | ⟨hd, e | e⟩
    · obtain ⟨m, h1, h2, h3⟩ := any_take e
      simp only [Bool.and_eq_true, beq_iff_eq] at h3
      obtain ⟨r, a1, a2, a3, a4⟩ := h.ret m h2 h3.1
      have : r = c := by omega
      subst this
      rw [a3] at c3; cases c3
    · obtain ⟨m, h1, h2, h3⟩ := any_take e
      simp only [Bool.and_eq_true, beq_iff_eq] at h3
      exact h.one m j h1 hj h3.1 hd h3.2
    · obtain ⟨m, h1, h2, h3⟩ := any_take e
      simp only [beq_iff_eq] at h3
      obtain ⟨r, a1, a2, a3, a4⟩ := h.ret j hj hd
      obtain ⟨c', b1, b2, b3, b4⟩ := h.call m h2
      have : r = c' := by omega
      subst this
      rw [a3] at b3; cases b3
  · rintro ⟨h0, hle⟩
    have := h.mono (j - 1) j (by omega) hj
    omega
end Go.Proofs.Ythijndjgchbeoaa
