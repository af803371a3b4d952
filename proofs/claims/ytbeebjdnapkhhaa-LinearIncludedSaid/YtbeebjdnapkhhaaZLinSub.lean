/-
  The class of a key in a sublist that keeps the key's included operations, in plain Lean.
-/
import Derived.Test.YtbeebjdnapkhhaaZS
namespace Go.Proofs.Ytbeebjdnapkhhaa
set_option linter.unusedVariables false

open Classical in
noncomputable def zkI (l : List OpV) (c : Int) : Int :=
 if (∃ i, i < l.length ∧ Yv l c i = true) then 2 else if (∃ i, i < l.length ∧ yX l c i = true) then 3 else if WC l c then 4 else 0
theorem zd3 {l : List OpV} {c : Int} (D : zX l) (hin : ∀ o ∈ l, zaf o) : (YX l c).cls = zkI l c := by
 unfold YX zkI
 cases h1 : (List.range l.length).find? (Yv l c) with
 | some i =>
  rw [List.find?_range_eq_some] at h1
  show (2 : Int) = _
  rw [if_pos ⟨i, List.mem_range.1 h1.2.1, h1.1⟩]
 | none =>
  have n1 : ¬ ∃ i, i < l.length ∧ Yv l c i = true := fun ⟨i, hi, h⟩ => List.find?_eq_none.1 h1 i (List.mem_range.2 hi) h
  rw [if_neg n1]
  dsimp only
  cases h2 : (List.range l.length).find? (yX l c) with
  | some i =>
   rw [List.find?_range_eq_some] at h2
   show (3 : Int) = _
   rw [if_pos ⟨i, List.mem_range.1 h2.2.1, h2.1⟩]
  | none =>
   have n2 : ¬ ∃ i, i < l.length ∧ yX l c i = true := fun ⟨i, hi, h⟩ => List.find?_eq_none.1 h2 i (List.mem_range.2 hi) h
   rw [if_neg n2]
   dsimp only
   by_cases h3 : Vl l c = []
   ·rw [if_pos h3, if_neg (fun hz => by have := (ziZ D hin).1 h3; rw [Xn.2 hz] at this; cases this)]
   ·rw [if_neg h3, if_pos (Xn.1 (Bool.of_not_eq_false fun h => h3 ((ziZ D hin).2 h)))]
structure xa (l : List OpV) (J : List Nat) (c : Int) : Prop where
 inc : J.Pairwise (· < ·)
 rng : ∀ x ∈ J, x < l.length
 all : ∀ i, i < l.length → (nth l i).key = c → zR l i = true → i ∈ J
def Xt (l : List OpV) (J : List Nat) : List OpV := J.map (nth l)
section
variable {l : List OpV} {J : List Nat} {c : Int}
theorem yP : (Xt l J).length = J.length := by simp [Xt]
theorem yj {i : Nat} (hi : i < J.length) : nth (Xt l J) i = nth l (nth J i) := by
 unfold Xt
 rw [zg (by simpa using hi), zg hi, List.getElem_map]
theorem xa.pos (K : xa l J c) {i : Nat} (hi : i < l.length) (hk : (nth l i).key = c) (hc : zR l i = true) : ∃ p, p < J.length ∧ nth J p = i := by
 obtain ⟨p, hp, e⟩ := List.getElem_of_mem (K.all i hi hk hc)
 exact ⟨p, hp, by rw [zg hp, e]⟩
theorem xa.at (K : xa l J c) {p : Nat} (hp : p < J.length) : nth J p < l.length := K.rng _ (zA hp)
theorem xa.lt (K : xa l J c) {p q : Nat} (hp : p < J.length) (hq : q < J.length) : p < q ↔ nth J p < nth J q := by
 have key : ∀ a b, a < b → b < J.length → nth J a < nth J b := fun a b hab hb => by
  rw [zg hb, zg (show a < J.length by omega)]
  exact List.pairwise_iff_getElem.1 K.inc a b (by omega) hb hab
 constructor
 ·intro h; exact key p q h hq
 ·intro h
  refine Nat.lt_of_not_le fun hle => ?_
  rcases Nat.lt_or_eq_of_le hle with h2 | h2
  ·have := key q p h2 hp; omega
  ·subst h2; omega
theorem xa.incl (K : xa l J c) {p : Nat} (hp : p < J.length) (hk : (nth l (nth J p)).key = c) : zR (Xt l J) p = zR l (nth J p) := by
 unfold zR
 rw [yj hp]
 congr 1
 congr 1
 rw [Bool.eq_iff_iff, Zm, Zm]
 constructor
 ·rintro ⟨q, hq, h⟩
  rw [yP] at hq
  rw [yj hq] at h
  exact ⟨nth J q, K.at hq, h⟩
 ·rintro ⟨i, hi, h⟩
  have hh := yD.1 h
  obtain ⟨q, hq, e⟩ := K.pos hi (hh.2.2.1.trans hk) (xN hh.2.1)
  exact ⟨q, by rw [yP]; exact hq, by rw [yj hq, e]; exact h⟩
theorem xa.bf (p q : Nat) (hp : p < J.length) (hq : q < J.length) : bef (Xt l J) p q = bef l (nth J p) (nth J q) := by
 unfold bef
 rw [yj hp, yj hq]
theorem xa.dom (K : xa l J c) (D : zX l) : zX (Xt l J) := fun p hp => by
 rw [yP] at hp
 have hi := K.at hp
 unfold okW
 rw [yj hp]
 rcases D _ hi with h | ⟨h1, h2, h3⟩
 ·exact .inl h
 ·refine .inr ⟨h1, h2, fun q hq => ?_⟩
  rw [yj (by omega)]
  exact h3 _ ((K.lt (by omega) hp).1 hq)
theorem xa.cl (K : xa l J c) {v : Int} {p : Nat} (hp : p < J.length) : zfc (Xt l J) c v p ↔ zfc l c v (nth J p) := by
 unfold zfc
 rw [yP, yj hp]
 constructor
 ·rintro ⟨_, h2, h3, h4⟩
  exact ⟨K.at hp, h2, h3, by rw [← K.incl hp h2]; exact h4⟩
 ·rintro ⟨_, h2, h3, h4⟩
  exact ⟨hp, h2, h3, by rw [K.incl hp h2]; exact h4⟩
theorem xa.goes (K : xa l J c) {v w : Int} : goes (Xt l J) c v w ↔ goes l c v w := by
 unfold Go.Proofs.Ytbeebjdnapkhhaa.goes
 constructor
 ·rintro ⟨p, q, hp, hq, hb⟩
  have p1 := hp.1
  have q1 := hq.1
  rw [yP] at p1 q1
  exact ⟨_, _, (K.cl p1).1 hp, (K.cl q1).1 hq, by rw [← xa.bf p q p1 q1]; exact hb⟩
 ·rintro ⟨i, k, hi, hk, hb⟩
  obtain ⟨p, hp, e1⟩ := K.pos hi.1 hi.2.1 hi.2.2.2
  obtain ⟨q, hq, e2⟩ := K.pos hk.1 hk.2.1 hk.2.2.2
  subst e1; subst e2
  exact ⟨p, q, (K.cl hp).2 hi, (K.cl hq).2 hk, by rw [xa.bf p q hp hq]; exact hb⟩
theorem xa.wr (K : xa l J c) {p : Nat} (hp : p < J.length) : wrI (Xt l J) c p ↔ wrI l c (nth J p) := by
 unfold wrI
 rw [yP, yj hp]
 constructor
 ·rintro ⟨_, h2, h3, h4⟩
  exact ⟨K.at hp, h2, h3, by rw [← K.incl hp h2]; exact h4⟩
 ·rintro ⟨_, h2, h3, h4⟩
  exact ⟨hp, h2, h3, by rw [K.incl hp h2]; exact h4⟩
theorem xa.zones (K : xa l J c) : WC (Xt l J) c ↔ WC l c := by
 unfold WC
 constructor
 ·rintro ⟨p, hw, h⟩
  have p1 := hw.1
  rw [yP] at p1
  rw [yj p1] at h
  refine ⟨nth J p, (K.wr p1).1 hw, ?_⟩
  rcases h with h | ⟨q, hqp, hwq, h1, h2⟩
  ·exact .inl (K.goes.1 h)
  ·have q1 : q < J.length := by omega
   rw [yj q1] at h1 h2
   exact .inr ⟨nth J q, (K.lt q1 p1).1 hqp, (K.wr q1).1 hwq, K.goes.1 h1, K.goes.1 h2⟩
 ·rintro ⟨i, hw, h⟩
  obtain ⟨p, hp, rfl⟩ := K.pos hw.1 hw.2.1 hw.2.2.2
  refine ⟨p, (K.wr hp).2 hw, ?_⟩
  rw [yj hp]
  rcases h with h | ⟨k, hk, hwk, h1, h2⟩
  ·exact .inl (K.goes.2 h)
  ·obtain ⟨q, hq, rfl⟩ := K.pos hwk.1 hwk.2.1 hwk.2.2.2
   refine .inr ⟨q, (K.lt hq hp).2 hk, (K.wr hq).2 hwk, ?_, ?_⟩
   ·rw [yj hq]; exact K.goes.2 h1
   ·rw [yj hq]; exact K.goes.2 h2
theorem xa.wix (K : xa l J c) (D : zX l) {p : Nat} (hp : p < J.length) (hk : (nth l (nth J p)).key = c) (h0 : (nth l (nth J p)).k = 0) (hd : (nth l (nth J p)).done = true) :
  (wIx (Xt l J) c (nth l (nth J p)).res = none ∧ wIx l c (nth l (nth J p)).res = none) ∨ ∃ q, q < J.length ∧ wIx (Xt l J) c (nth l (nth J p)).res = some q ∧ wIx l c (nth l (nth J p)).res = some (nth J q) := by
 have D' := K.dom D
 cases h : wIx l c (nth l (nth J p)).res with
 | none =>
  left
  refine ⟨?_, rfl⟩
  cases h' : wIx (Xt l J) c (nth l (nth J p)).res with
  | none => rfl
  | some q =>
   obtain ⟨q1, q2, _⟩ := xG h'
   rw [yP] at q1
   rw [yj q1] at q2
   have := VI h _ (K.at q1)
   rw [q2] at this; cases this
 | some w =>
  right
  obtain ⟨w1, w2, _⟩ := xG h
  have hw := Yw.1 w2
  have hwi := zdQ (K.at hp) h0 hd w1 hw.1 (hw.2.1.trans hk.symm) hw.2.2
  obtain ⟨q, hq, e⟩ := K.pos w1 hw.2.1 hwi
  refine ⟨q, hq, ?_, by rw [e]⟩
  have hn : nth (Xt l J) q = nth l w := by rw [yj hq, e]
  have := zhC D' (w := q) (by rw [yP]; exact hq) (by rw [hn]; exact hw.1)
  rw [hn, hw.2.1, hw.2.2] at this
  exact this
theorem xa.thin (K : xa l J c) (D : zX l) : (∃ i, i < (Xt l J).length ∧ Yv (Xt l J) c i = true) ↔ ∃ i, i < l.length ∧ Yv l c i = true := by
 have one : ∀ p, p < J.length → (Yv (Xt l J) c p = true ↔ Yv l c (nth J p) = true) := fun p hp => by
  unfold Yv zc3
  rw [yj hp]
  simp only [Bool.and_eq_true, decide_eq_true_eq]
  constructor
  ·rintro ⟨hk, h0, hd, hr, hn⟩
   refine ⟨hk, h0, hd, hr, ?_⟩
   rw [hk] at hn ⊢
   rcases K.wix D hp hk h0 hd with ⟨_, e⟩ | ⟨q, _, e, _⟩
   ·rw [e]; rfl
   ·rw [e] at hn; cases hn
  ·rintro ⟨hk, h0, hd, hr, hn⟩
   refine ⟨hk, h0, hd, hr, ?_⟩
   rw [hk] at hn ⊢
   rcases K.wix D hp hk h0 hd with ⟨e, _⟩ | ⟨q, _, _, e⟩
   ·rw [e]; rfl
   ·rw [e] at hn; cases hn
 constructor
 ·rintro ⟨p, hp, h⟩
  rw [yP] at hp
  exact ⟨_, K.at hp, (one p hp).1 h⟩
 ·rintro ⟨i, hi, h⟩
  have h' := h
  unfold Yv zc3 at h'
  simp only [Bool.and_eq_true, decide_eq_true_eq] at h'
  obtain ⟨p, hp, rfl⟩ := K.pos hi h'.1 (xN h'.2.2.1)
  exact ⟨p, by rw [yP]; exact hp, (one p hp).2 h⟩
theorem xa.early (K : xa l J c) (D : zX l) : (∃ i, i < (Xt l J).length ∧ yX (Xt l J) c i = true) ↔ ∃ i, i < l.length ∧ yX l c i = true := by
 have one : ∀ p, p < J.length → (yX (Xt l J) c p = true ↔ yX l c (nth J p) = true) := fun p hp => by
  unfold yX zb7
  rw [yj hp]
  simp only [Bool.and_eq_true, decide_eq_true_eq]
  constructor
  ·rintro ⟨hk, h0, hd, hr, hn⟩
   refine ⟨hk, h0, hd, hr, ?_⟩
   rw [hk] at hn ⊢
   rcases K.wix D hp hk h0 hd with ⟨e, _⟩ | ⟨q, hq, e, e2⟩
   ·rw [e] at hn; cases hn
   ·rw [e] at hn
    rw [e2]
    dsimp only at hn ⊢
    rw [← xa.bf p q hp hq]; exact hn
  ·rintro ⟨hk, h0, hd, hr, hn⟩
   refine ⟨hk, h0, hd, hr, ?_⟩
   rw [hk] at hn ⊢
   rcases K.wix D hp hk h0 hd with ⟨_, e⟩ | ⟨q, hq, e, e2⟩
   ·rw [e] at hn; cases hn
   ·rw [e2] at hn
    rw [e]
    dsimp only at hn ⊢
    rw [xa.bf p q hp hq]; exact hn
 constructor
 ·rintro ⟨p, hp, h⟩
  rw [yP] at hp
  exact ⟨_, K.at hp, (one p hp).1 h⟩
 ·rintro ⟨i, hi, h⟩
  have h' := h
  unfold yX zb7 at h'
  simp only [Bool.and_eq_true, decide_eq_true_eq] at h'
  obtain ⟨p, hp, rfl⟩ := K.pos hi h'.1 (xN h'.2.2.1)
  exact ⟨p, by rw [yP]; exact hp, (one p hp).2 h⟩
theorem xa.cls (K : xa l J c) (D : zX l) (hin : ∀ o ∈ l, zaf o) : (YX (Xt l J) c).cls = (YX l c).cls := by
 have hin' : ∀ o ∈ Xt l J, zaf o := fun o ho => by
  obtain ⟨x, hx, rfl⟩ := List.mem_map.1 ho
  exact hin _ (zA (K.rng x hx))
 rw [zd3 D hin, zd3 (K.dom D) hin']
 unfold zkI
 simp only [K.thin D, K.early D]
 split
 ·rfl
 ·split
  ·rfl
  ·by_cases h : WC l c
   ·rw [if_pos h, if_pos (K.zones.2 h)]
   ·rw [if_neg h, if_neg (fun h2 => h (K.zones.1 h2))]
end
end Go.Proofs.Ytbeebjdnapkhhaa
