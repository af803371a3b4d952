/-
  The class of a key in a sublist that keeps the key's included operations, in plain Lean.
-/
import Derived.Test.YtbeebjdnapkhhaaZS
namespace Go.Proofs.Ytbeebjdnapkhhaa
set_option linter.unusedVariables false

open Classical in
noncomputable def zkI (l : List OpV) (c : Int) : Int :=
 if (∃ i, i < l.length ∧ Yu l c i = true) then 2 else if (∃ i, i < l.length ∧ yW l c i = true) then 3 else if Wy l c then 4 else 0
theorem zd1 {l : List OpV} {c : Int} (D : zU l) (hin : ∀ o ∈ l, VG o) : (YD l c).cls = zkI l c := by
 unfold YD zkI
 cases h1 : (List.range l.length).find? (Yu l c) with
 | some i =>
  rw [List.find?_range_eq_some] at h1
  show (2 : Int) = _
  rw [if_pos ⟨i, List.mem_range.1 h1.2.1, h1.1⟩]
 | none =>
  have n1 : ¬ ∃ i, i < l.length ∧ Yu l c i = true := fun ⟨i, hi, h⟩ => List.find?_eq_none.1 h1 i (List.mem_range.2 hi) h
  rw [if_neg n1]
  dsimp only
  cases h2 : (List.range l.length).find? (yW l c) with
  | some i =>
   rw [List.find?_range_eq_some] at h2
   show (3 : Int) = _
   rw [if_pos ⟨i, List.mem_range.1 h2.2.1, h2.1⟩]
  | none =>
   have n2 : ¬ ∃ i, i < l.length ∧ yW l c i = true := fun ⟨i, hi, h⟩ => List.find?_eq_none.1 h2 i (List.mem_range.2 hi) h
   rw [if_neg n2]
   dsimp only
   by_cases h3 : Vg l c = []
   ·rw [if_pos h3, if_neg (fun hz => by have := (ziY D hin).1 h3; rw [Xl.2 hz] at this; cases this)]
   ·rw [if_neg h3, if_pos (Xl.1 (Bool.of_not_eq_false fun h => h3 ((ziY D hin).2 h)))]
structure yZ (l : List OpV) (J : List Nat) (c : Int) : Prop where
 inc : J.Pairwise (· < ·)
 rng : ∀ x ∈ J, x < l.length
 all : ∀ i, i < l.length → (nth l i).key = c → yb l i = true → i ∈ J
def YC (l : List OpV) (J : List Nat) : List OpV := J.map (nth l)
section
variable {l : List OpV} {J : List Nat} {c : Int}
theorem yF : (YC l J).length = J.length := by simp [YC]
theorem yg {i : Nat} (hi : i < J.length) : nth (YC l J) i = nth l (nth J i) := by
 unfold YC
 rw [zg (by simpa using hi), zg hi, List.getElem_map]
theorem yZ.pos (K : yZ l J c) {i : Nat} (hi : i < l.length) (hk : (nth l i).key = c) (hc : yb l i = true) : ∃ p, p < J.length ∧ nth J p = i := by
 obtain ⟨p, hp, e⟩ := List.getElem_of_mem (K.all i hi hk hc)
 exact ⟨p, hp, by rw [zg hp, e]⟩
theorem yZ.at (K : yZ l J c) {p : Nat} (hp : p < J.length) : nth J p < l.length := K.rng _ (zy hp)
theorem yZ.lt (K : yZ l J c) {p q : Nat} (hp : p < J.length) (hq : q < J.length) : p < q ↔ nth J p < nth J q := by
 have key : ∀ a b, a < b → b < J.length → nth J a < nth J b := fun a b hab hb => by
  rw [zg hb, zg (show a < J.length by omega)]
  exact List.pairwise_iff_getElem.1 K.inc a b (by omega) hb hab
 constructor
 ·intro h; exact key p q h hq
 ·intro h
  refine Nat.lt_of_not_le fun hle => ?_
  rcases Nat.lt_or_eq_of_le hle with h2 | h2
  ·have := key q p h2 hp; omega
  ·subst h2; omega
theorem yZ.incl (K : yZ l J c) {p : Nat} (hp : p < J.length) (hk : (nth l (nth J p)).key = c) : yb (YC l J) p = yb l (nth J p) := by
 unfold yb
 rw [yg hp]
 congr 1
 congr 1
 rw [Bool.eq_iff_iff, Yi, Yi]
 constructor
 ·rintro ⟨q, hq, h⟩
  rw [yF] at hq
  rw [yg hq] at h
  exact ⟨nth J q, K.at hq, h⟩
 ·rintro ⟨i, hi, h⟩
  have hh := yD.1 h
  obtain ⟨q, hq, e⟩ := K.pos hi (hh.2.2.1.trans hk) (xN hh.2.1)
  exact ⟨q, by rw [yF]; exact hq, by rw [yg hq, e]; exact h⟩
theorem yZ.bf (p q : Nat) (hp : p < J.length) (hq : q < J.length) : bef (YC l J) p q = bef l (nth J p) (nth J q) := by
 unfold bef
 rw [yg hp, yg hq]
theorem yZ.dom (K : yZ l J c) (D : zU l) : zU (YC l J) := fun p hp => by
 rw [yF] at hp
 have hi := K.at hp
 unfold okW
 rw [yg hp]
 rcases D _ hi with h | ⟨h1, h2, h3⟩
 ·exact .inl h
 ·refine .inr ⟨h1, h2, fun q hq => ?_⟩
  rw [yg (by omega)]
  exact h3 _ ((K.lt (by omega) hp).1 hq)
theorem yZ.cl (K : yZ l J c) {v : Int} {p : Nat} (hp : p < J.length) : zfb (YC l J) c v p ↔ zfb l c v (nth J p) := by
 unfold zfb
 rw [yF, yg hp]
 constructor
 ·rintro ⟨_, h2, h3, h4⟩
  exact ⟨K.at hp, h2, h3, by rw [← K.incl hp h2]; exact h4⟩
 ·rintro ⟨_, h2, h3, h4⟩
  exact ⟨hp, h2, h3, by rw [K.incl hp h2]; exact h4⟩
theorem yZ.goes (K : yZ l J c) {v w : Int} : goes (YC l J) c v w ↔ goes l c v w := by
 unfold Go.Proofs.Ytbeebjdnapkhhaa.goes
 constructor
 ·rintro ⟨p, q, hp, hq, hb⟩
  have p1 := hp.1
  have q1 := hq.1
  rw [yF] at p1 q1
  exact ⟨_, _, (K.cl p1).1 hp, (K.cl q1).1 hq, by rw [← yZ.bf p q p1 q1]; exact hb⟩
 ·rintro ⟨i, k, hi, hk, hb⟩
  obtain ⟨p, hp, e1⟩ := K.pos hi.1 hi.2.1 hi.2.2.2
  obtain ⟨q, hq, e2⟩ := K.pos hk.1 hk.2.1 hk.2.2.2
  subst e1; subst e2
  exact ⟨p, q, (K.cl hp).2 hi, (K.cl hq).2 hk, by rw [yZ.bf p q hp hq]; exact hb⟩
theorem yZ.wr (K : yZ l J c) {p : Nat} (hp : p < J.length) : wrI (YC l J) c p ↔ wrI l c (nth J p) := by
 unfold wrI
 rw [yF, yg hp]
 constructor
 ·rintro ⟨_, h2, h3, h4⟩
  exact ⟨K.at hp, h2, h3, by rw [← K.incl hp h2]; exact h4⟩
 ·rintro ⟨_, h2, h3, h4⟩
  exact ⟨hp, h2, h3, by rw [K.incl hp h2]; exact h4⟩
theorem yZ.zones (K : yZ l J c) : Wy (YC l J) c ↔ Wy l c := by
 unfold Wy
 constructor
 ·rintro ⟨p, hw, h⟩
  have p1 := hw.1
  rw [yF] at p1
  rw [yg p1] at h
  refine ⟨nth J p, (K.wr p1).1 hw, ?_⟩
  rcases h with h | ⟨q, hqp, hwq, h1, h2⟩
  ·exact .inl (K.goes.1 h)
  ·have q1 : q < J.length := by omega
   rw [yg q1] at h1 h2
   exact .inr ⟨nth J q, (K.lt q1 p1).1 hqp, (K.wr q1).1 hwq, K.goes.1 h1, K.goes.1 h2⟩
 ·rintro ⟨i, hw, h⟩
  obtain ⟨p, hp, rfl⟩ := K.pos hw.1 hw.2.1 hw.2.2.2
  refine ⟨p, (K.wr hp).2 hw, ?_⟩
  rw [yg hp]
  rcases h with h | ⟨k, hk, hwk, h1, h2⟩
  ·exact .inl (K.goes.2 h)
  ·obtain ⟨q, hq, rfl⟩ := K.pos hwk.1 hwk.2.1 hwk.2.2.2
   refine .inr ⟨q, (K.lt hq hp).2 hk, (K.wr hq).2 hwk, ?_, ?_⟩
   ·rw [yg hq]; exact K.goes.2 h1
   ·rw [yg hq]; exact K.goes.2 h2
theorem yZ.wix (K : yZ l J c) (D : zU l) {p : Nat} (hp : p < J.length) (hk : (nth l (nth J p)).key = c) (h0 : (nth l (nth J p)).k = 0) (hd : (nth l (nth J p)).done = true) :
  (wIx (YC l J) c (nth l (nth J p)).res = none ∧ wIx l c (nth l (nth J p)).res = none) ∨ ∃ q, q < J.length ∧ wIx (YC l J) c (nth l (nth J p)).res = some q ∧ wIx l c (nth l (nth J p)).res = some (nth J q) := by
 have D' := K.dom D
 cases h : wIx l c (nth l (nth J p)).res with
 | none =>
  left
  refine ⟨?_, rfl⟩
  cases h' : wIx (YC l J) c (nth l (nth J p)).res with
  | none => rfl
  | some q =>
   obtain ⟨q1, q2, _⟩ := xG h'
   rw [yF] at q1
   rw [yg q1] at q2
   have := VD h _ (K.at q1)
   rw [q2] at this; cases this
 | some w =>
  right
  obtain ⟨w1, w2, _⟩ := xG h
  have hw := Yv.1 w2
  have hwi := zdO (K.at hp) h0 hd w1 hw.1 (hw.2.1.trans hk.symm) hw.2.2
  obtain ⟨q, hq, e⟩ := K.pos w1 hw.2.1 hwi
  refine ⟨q, hq, ?_, by rw [e]⟩
  have hn : nth (YC l J) q = nth l w := by rw [yg hq, e]
  have := zhC D' (w := q) (by rw [yF]; exact hq) (by rw [hn]; exact hw.1)
  rw [hn, hw.2.1, hw.2.2] at this
  exact this
theorem yZ.thin (K : yZ l J c) (D : zU l) : (∃ i, i < (YC l J).length ∧ Yu (YC l J) c i = true) ↔ ∃ i, i < l.length ∧ Yu l c i = true := by
 have one : ∀ p, p < J.length → (Yu (YC l J) c p = true ↔ Yu l c (nth J p) = true) := fun p hp => by
  unfold Yu zc2
  rw [yg hp]
  simp only [Bool.and_eq_true, decide_eq_true_eq]
  constructor
  ·rintro ⟨hk, h0, hd, hr, hn⟩
   refine ⟨hk, h0, hd, hr, ?_⟩
   rw [hk] at hn ⊢
   rcases K.wix D hp hk h0 hd with ⟨_, e⟩ | ⟨q, _, e, _⟩
   ·rw [e]; rfl
   ·rw [e] at hn; cases hn
  ·rintro ⟨hk, h0, hd, hr, hn⟩
   refine ⟨hk, h0, hd, hr, ?_⟩
   rw [hk] at hn ⊢
   rcases K.wix D hp hk h0 hd with ⟨e, _⟩ | ⟨q, _, _, e⟩
   ·rw [e]; rfl
   ·rw [e] at hn; cases hn
 constructor
 ·rintro ⟨p, hp, h⟩
  rw [yF] at hp
  exact ⟨_, K.at hp, (one p hp).1 h⟩
 ·rintro ⟨i, hi, h⟩
  have h' := h
  unfold Yu zc2 at h'
  simp only [Bool.and_eq_true, decide_eq_true_eq] at h'
  obtain ⟨p, hp, rfl⟩ := K.pos hi h'.1 (xN h'.2.2.1)
  exact ⟨p, by rw [yF]; exact hp, (one p hp).2 h⟩
theorem yZ.early (K : yZ l J c) (D : zU l) : (∃ i, i < (YC l J).length ∧ yW (YC l J) c i = true) ↔ ∃ i, i < l.length ∧ yW l c i = true := by
 have one : ∀ p, p < J.length → (yW (YC l J) c p = true ↔ yW l c (nth J p) = true) := fun p hp => by
  unfold yW zb6
  rw [yg hp]
  simp only [Bool.and_eq_true, decide_eq_true_eq]
  constructor
  ·rintro ⟨hk, h0, hd, hr, hn⟩
   refine ⟨hk, h0, hd, hr, ?_⟩
   rw [hk] at hn ⊢
   rcases K.wix D hp hk h0 hd with ⟨e, _⟩ | ⟨q, hq, e, e2⟩
   ·rw [e] at hn; cases hn
   ·rw [e] at hn
    rw [e2]
    dsimp only at hn ⊢
    rw [← yZ.bf p q hp hq]; exact hn
  ·rintro ⟨hk, h0, hd, hr, hn⟩
   refine ⟨hk, h0, hd, hr, ?_⟩
   rw [hk] at hn ⊢
   rcases K.wix D hp hk h0 hd with ⟨_, e⟩ | ⟨q, hq, e, e2⟩
   ·rw [e] at hn; cases hn
   ·rw [e2] at hn
    rw [e]
    dsimp only at hn ⊢
    rw [yZ.bf p q hp hq]; exact hn
 constructor
 ·rintro ⟨p, hp, h⟩
  rw [yF] at hp
  exact ⟨_, K.at hp, (one p hp).1 h⟩
 ·rintro ⟨i, hi, h⟩
  have h' := h
  unfold yW zb6 at h'
  simp only [Bool.and_eq_true, decide_eq_true_eq] at h'
  obtain ⟨p, hp, rfl⟩ := K.pos hi h'.1 (xN h'.2.2.1)
  exact ⟨p, by rw [yF]; exact hp, (one p hp).2 h⟩
theorem yZ.cls (K : yZ l J c) (D : zU l) (hin : ∀ o ∈ l, VG o) : (YD (YC l J) c).cls = (YD l c).cls := by
 have hin' : ∀ o ∈ YC l J, VG o := fun o ho => by
  obtain ⟨x, hx, rfl⟩ := List.mem_map.1 ho
  exact hin _ (zy (K.rng x hx))
 rw [zd1 D hin, zd1 (K.dom D) hin']
 unfold zkI
 simp only [K.thin D, K.early D]
 split
 ·rfl
 ·split
  ·rfl
  ·by_cases h : Wy l c
   ·rw [if_pos h, if_pos (K.zones.2 h)]
   ·rw [if_neg h, if_neg (fun h2 => h (K.zones.1 h2))]
end
end Go.Proofs.Ytbeebjdnapkhhaa
