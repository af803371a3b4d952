/-
  Histories of queues that take effect between call and return deliver every element once, after its push was called.
-/
import Derived.Test.YthijndjgchbeoaaOncePlain
namespace Go.Proofs.Ythijndjgchbeoaa
set_option linter.unusedVariables false

/-! ### lists made from a range -/
theorem fm_same {n : Nat} {f g : Nat → Option Int} (h : ∀ q, q < n → g q = f q) : (List.range n).filterMap g = (List.range n).filterMap f := by
  induction n with
  | zero => rfl
  | succ n ih =>
    rw [List.range_succ, List.filterMap_append, List.filterMap_append, ih fun q hq => h q (by omega)]
    simp [List.filterMap_cons, h n (by omega)]
theorem fm_add {n p : Nat} {f g : Nat → Option Int} {x : Int} (hp : p < n) (hf : f p = none) (hg : g p = some x) (ho : ∀ q, q < n → q ≠ p → g q = f q) : ((List.range n).filterMap g).Perm (x :: (List.range n).filterMap f) := by
  induction n with
  | zero => omega
  | succ n ih =>
    rw [List.range_succ, List.filterMap_append, List.filterMap_append]
    by_cases e : p = n
    · subst e
      rw [fm_same (f := f) (g := g) fun q hq => ho q (by omega) (by omega)]
      simp [hf, hg]
    · have := ih (by omega) fun q hq hne => ho q (by omega) hne
      simp only [List.filterMap_cons, List.filterMap_nil, ho n (by omega) (fun e' => e e'.symm)]
      exact this.append_right _
theorem fm_drop {n p : Nat} {f g : Nat → Option Int} (hg : g p = none) (ho : ∀ q, q < n → q ≠ p → g q = f q) : ((List.range n).filterMap g).Sublist ((List.range n).filterMap f) := by
  induction n with
  | zero => exact List.Sublist.refl _
  | succ n ih =>
    rw [List.range_succ, List.filterMap_append, List.filterMap_append]
    refine (ih fun q hq hne => ho q (by omega) hne).append ?_
    by_cases e : n = p
    · subst e; simp [hg]
    · rw [show List.filterMap g [n] = List.filterMap f [n] by simp [List.filterMap_cons, ho n (by omega) e]]
      exact List.Sublist.refl _

/-! ### where the elements are -/
def tokD (c : Int) (o : OpV) : Option Int := if isDel o = true ∧ o.key = c then some o.res else none
def tokH (s : HS) (c : Int) (p : Nat) : Option Int :=
  if 0 ≤ nth s.op p ∧ nth s.ef p = true ∧ (nth s.out (nth s.op p).toNat).k = 4 ∧ (nth s.out (nth s.op p).toNat).key = c ∧ nth s.rs p ≠ 0 then some (nth s.rs p) else none
def dels (l : List OpV) (c : Int) : List Int := (List.range l.length).filterMap fun j => tokD c (nth l j)
def helds (s : HS) (c : Int) : List Int := (List.range 3).filterMap (tokH s c)
def toks (s : HS) (c : Nat) : List Int := nth s.qs c ++ (dels s.out c ++ helds s c)

structure QInv (s : HS) : Prop where
  nd : ∀ c, c < 2 → (toks s c).Nodup
  src : ∀ c, c < 2 → ∀ x ∈ toks s c, ∃ j, j < s.out.length ∧ isPushOf (c : Int) x (nth s.out j) = true ∧ ∀ p, p < 3 → nth s.op p = (j : Int) → nth s.ef p = true
  dst : ∀ j, j < s.out.length → isDel (nth s.out j) = true → ∃ i, i < s.out.length ∧ isPushOf (nth s.out j).key (nth s.out j).res (nth s.out i) = true ∧ (nth s.out i).call < (nth s.out j).ret
theorem QInv.init : QInv hsInit := by
  have h2 : ∀ c, c < 2 → c = 0 ∨ c = 1 := fun c hc => by omega
  refine ⟨fun c hc => ?_, fun c hc x hx => ?_, fun j hj => absurd hj (Nat.not_lt_zero _)⟩
  · rcases h2 c hc with rfl | rfl <;> decide
  · rcases h2 c hc with rfl | rfl <;> exact absurd hx (by show ¬ x ∈ ([] : List Int); simp)

theorem isPushOf_iff {key v : Int} {o : OpV} : isPushOf key v o = true ↔ o.k = 3 ∧ o.key = key ∧ o.arg = v := by simp [isPushOf]
theorem isDel_iff {o : OpV} : isDel o = true ↔ o.k = 4 ∧ o.done = true ∧ o.res ≠ 0 := by simp [isDel, and_assoc]
theorem HInv.other {q : Bool} {i : Nat} {s : HS} (h : HInv q i s) {p x : Nat} (hp : p < 3) (hx : x < 3) (hne : p ≠ x) (h0 : 0 ≤ nth s.op p) (h1 : 0 ≤ nth s.op x) : (nth s.op p).toNat ≠ (nth s.op x).toNat := fun e => by
  have a := (h.opn p hp h0).2.1
  have b := (h.opn x hx h1).2.1
  rw [e, b] at a
  have := h.pr p hp
  have := h.pr x hx
  omega
theorem QInv.one {s : HS} (h : QInv s) {q : Bool} {i : Nat} (hI : HInv q i s) {c : Nat} (hc : c < 2) {x : Int} (hx : x ∈ toks s c) : 1 ≤ x := by
  obtain ⟨j, hj, hp, _⟩ := h.src c hc x hx
  rw [isPushOf_iff] at hp
  have := (hI.ops j hj).w (by rw [hp.1]; rfl)
  omega

theorem QInv.open {q : Bool} {i : Nat} {s : HS} (hI : HInv q i s) (h : QInv s) (m : Int) {p : Nat} (hp : p < 3) (hop : nth s.op p < 0) : QInv (hsOpen q m p s) := by
  have lst : nth (s.out ++ [hsNew q m p s]) s.out.length = hsNew q m p s := nth_append_len
  have old : ∀ j, j < s.out.length → nth (s.out ++ [hsNew q m p s]) j = nth s.out j := fun j hj => nth_append_left hj
  have eD : ∀ c : Int, dels (s.out ++ [hsNew q m p s]) c = dels s.out c := fun c => by
    unfold dels
    rw [List.length_append, List.length_singleton, List.range_succ, List.filterMap_append]
    rw [fm_same (f := fun j => tokD c (nth s.out j)) fun j hj => by rw [old j hj]]
    have : tokD c (hsNew q m p s) = none := by unfold tokD; rw [if_neg]; rintro ⟨h1, _⟩; rw [isDel_iff] at h1; cases h1.2.1
    simp [lst, this]
  have eH : ∀ c : Int, helds (hsOpen q m p s) c = helds s c := fun c => by
    unfold helds
    refine fm_same fun x hx => ?_
    show tokH (hsOpen q m p s) c x = tokH s c x
    by_cases hx2 : p = x
    · subst hx2
      unfold tokH
      rw [if_neg, if_neg]
      · rintro ⟨h1, _⟩; omega
      · rintro ⟨_, h1, _⟩
        have h1' : nth (s.ef.set p false) p = true := h1
        rw [nth_set_same (by rw [hI.e3]; exact hx)] at h1'; cases h1'
    · have e1 : nth (hsOpen q m p s).op x = nth s.op x := nth_set_other hx2
      have e2 : nth (hsOpen q m p s).ef x = nth s.ef x := nth_set_other hx2
      unfold tokH
      rw [e1, e2]
      by_cases h0 : 0 ≤ nth s.op x
      · have e3 : nth (hsOpen q m p s).out (nth s.op x).toNat = nth s.out (nth s.op x).toNat := old _ (hI.opn x hx h0).1
        rw [e3]; rfl
      · rw [if_neg (fun hh => h0 hh.1), if_neg (fun hh => h0 hh.1)]
  have eT : ∀ c, toks (hsOpen q m p s) c = toks s c := fun c => by
    show nth s.qs c ++ (dels (s.out ++ [hsNew q m p s]) c ++ helds (hsOpen q m p s) c) = _
    rw [eD, eH]; rfl
  refine ⟨fun c hc => by rw [eT]; exact h.nd c hc, fun c hc x hx => ?_, fun j hj hd => ?_⟩
  · rw [eT] at hx
    obtain ⟨j, hj, h1, h2⟩ := h.src c hc x hx
    refine ⟨j, by show j < (s.out ++ [hsNew q m p s]).length; simp; omega, by show isPushOf _ _ (nth (s.out ++ [hsNew q m p s]) j) = true; rw [old j hj]; exact h1, fun y hy he => ?_⟩
    have he' : nth (s.op.set p (s.out.length : Int)) y = (j : Int) := he
    show nth (s.ef.set p false) y = true
    by_cases hy2 : p = y
    · subst hy2; rw [nth_set_same (by rw [hI.o3]; exact hy)] at he'; omega
    · rw [nth_set_other hy2] at he' ⊢; exact h2 y hy he'
  · have hj' : j < s.out.length + 1 := by simpa [hsOpen] using hj
    have hd' : isDel (nth (s.out ++ [hsNew q m p s]) j) = true := hd
    rcases Nat.lt_or_ge j s.out.length with h1 | h1
    · rw [old j h1] at hd'
      obtain ⟨k, hk, h2, h3⟩ := h.dst j h1 hd'
      refine ⟨k, by show k < (s.out ++ [hsNew q m p s]).length; simp; omega, ?_⟩
      show isPushOf (nth (s.out ++ [hsNew q m p s]) j).key (nth (s.out ++ [hsNew q m p s]) j).res (nth (s.out ++ [hsNew q m p s]) k) = true ∧ (nth (s.out ++ [hsNew q m p s]) k).call < (nth (s.out ++ [hsNew q m p s]) j).ret
      rw [old j h1, old k hk]
      exact ⟨h2, h3⟩
    · have : j = s.out.length := by omega
      subst this
      rw [lst, isDel_iff] at hd'; cases hd'.2.1
theorem QInv.lost {q : Bool} {i : Nat} {s : HS} (hI : HInv q i s) (h : QInv s) {p : Nat} (hp : p < 3) : QInv (hsLost p s) := by
  have sT : ∀ c, (toks (hsLost p s) c).Sublist (toks s c) := fun c => by
    refine (List.Sublist.refl _).append ((List.Sublist.refl _).append ?_)
    refine fm_drop (p := p) ?_ fun x hx hne => ?_
    · unfold tokH
      rw [if_neg]
      rintro ⟨h1, _⟩
      have h1' : 0 ≤ nth (s.op.set p (-1)) p := h1
      rw [nth_set_same (by rw [hI.o3]; exact hp)] at h1'; omega
    · have e1 : nth (hsLost p s).op x = nth s.op x := nth_set_other (fun e => hne e.symm)
      unfold tokH
      rw [e1]; rfl
  refine ⟨fun c hc => (sT c).nodup (h.nd c hc), fun c hc x hx => ?_, h.dst⟩
  obtain ⟨j, hj, h1, h2⟩ := h.src c hc x ((sT c).subset hx)
  refine ⟨j, hj, h1, fun y hy he => ?_⟩
  have he' : nth (s.op.set p (-1)) y = (j : Int) := he
  by_cases hy2 : p = y
  · subst hy2; rw [nth_set_same (by rw [hI.o3]; exact hy)] at he'; omega
  · rw [nth_set_other hy2] at he'; exact h2 y hy he'
theorem QInv.done {q : Bool} {i : Nat} {s : HS} (hI : HInv q i s) (h : QInv s) {p : Nat} (hp : p < 3) (hop : 0 ≤ nth s.op p) (hef : nth s.ef p = true) : QInv (hsDone p s) := by
  obtain ⟨hj0, hpj, hdj⟩ := hI.opn p hp hop
  generalize hjj : (nth s.op p).toNat = j0 at hj0 hpj hdj
  have hout : (hsDone p s).out = s.out.set j0 { nth s.out j0 with done := true, res := nth s.rs p, ret := (s.time : Int) } := by unfold hsDone; rw [hjj]
  have hlen : (hsDone p s).out.length = s.out.length := by rw [hout]; simp
  have same : nth (hsDone p s).out j0 = { nth s.out j0 with done := true, res := nth s.rs p, ret := (s.time : Int) } := by rw [hout, nth_set_same hj0]
  have oth : ∀ j, j0 ≠ j → nth (hsDone p s).out j = nth s.out j := fun j hj => by rw [hout, nth_set_other hj]
  have fld : ∀ j, (nth (hsDone p s).out j).k = (nth s.out j).k ∧ (nth (hsDone p s).out j).key = (nth s.out j).key ∧ (nth (hsDone p s).out j).arg = (nth s.out j).arg ∧ (nth (hsDone p s).out j).call = (nth s.out j).call := fun j => by
    by_cases e : j0 = j
    · subst e; rw [same]; exact ⟨rfl, rfl, rfl, rfl⟩
    · rw [oth j e]; exact ⟨rfl, rfl, rfl, rfl⟩
  have push : ∀ a b j, isPushOf a b (nth (hsDone p s).out j) = isPushOf a b (nth s.out j) := fun a b j => by
    unfold isPushOf; obtain ⟨e1, e2, e3, _⟩ := fld j; rw [e1, e2, e3]
  have eq0 : ∀ c : Int, tokD c (nth (hsDone p s).out j0) = tokH s c p := fun c => by
    rw [same]
    unfold tokD tokH
    rw [hjj]
    by_cases hh : (nth s.out j0).k = 4 ∧ (nth s.out j0).key = c ∧ nth s.rs p ≠ 0
    · rw [if_pos ⟨isDel_iff.2 ⟨hh.1, rfl, hh.2.2⟩, hh.2.1⟩, if_pos ⟨hop, hef, hh⟩]
    · rw [if_neg, if_neg]
      · rintro ⟨_, _, h3⟩; exact hh h3
      · rintro ⟨h1, h2⟩
        rw [isDel_iff] at h1
        exact hh ⟨h1.1, h2, h1.2.2⟩
  have old0 : ∀ c : Int, tokD c (nth s.out j0) = none := fun c => by
    unfold tokD; rw [if_neg]; rintro ⟨h1, _⟩; rw [isDel_iff, hdj] at h1; cases h1.2.1
  have newH : ∀ c : Int, tokH (hsDone p s) c p = none := fun c => by
    unfold tokH
    rw [if_neg]
    rintro ⟨h1, _⟩
    have h1' : 0 ≤ nth (s.op.set p (-1)) p := h1
    rw [nth_set_same (by rw [hI.o3]; exact hp)] at h1'; omega
  have othH : ∀ (c : Int) x, x < 3 → x ≠ p → tokH (hsDone p s) c x = tokH s c x := fun c x hx hne => by
    have e1 : nth (hsDone p s).op x = nth s.op x := nth_set_other (fun e => hne e.symm)
    unfold tokH
    rw [e1]
    by_cases h0 : 0 ≤ nth s.op x
    · have := hI.other hp hx (fun e => hne e.symm) hop h0
      rw [hjj] at this
      rw [oth _ this]; rfl
    · rw [if_neg (fun hh => h0 hh.1), if_neg (fun hh => h0 hh.1)]
  have pT : ∀ c : Nat, (toks (hsDone p s) c).Perm (toks s c) := fun c => by
    refine List.Perm.append_left _ ?_
    unfold dels helds
    rw [hlen]
    cases hx : tokH s c p with
    | none =>
      rw [fm_same (f := fun j => tokD c (nth s.out j)) (g := fun j => tokD c (nth (hsDone p s).out j)) fun j hj => ?_, fm_same (f := tokH s c) (g := tokH (hsDone p s) c) fun x hx2 => ?_]
      · by_cases e : x = p
        · subst e; rw [newH, hx]
        · exact othH c x hx2 e
      · by_cases e : j0 = j
        · subst e; rw [eq0, hx, old0]
        · rw [oth j e]
    | some v =>
      have a := fm_add (n := s.out.length) (p := j0) (f := fun j => tokD c (nth s.out j)) (g := fun j => tokD c (nth (hsDone p s).out j)) (x := v) hj0 (old0 c) (by rw [eq0, hx]) fun j hj hne => by rw [oth j (fun e => hne e.symm)]
      have b := fm_add (n := 3) (p := p) (f := tokH (hsDone p s) c) (g := tokH s c) (x := v) hp (newH c) hx fun x hx2 hne => (othH c x hx2 hne).symm
      refine (a.append_right _).trans ?_
      refine List.Perm.trans ?_ (b.append_left _).symm
      rw [List.cons_append]
      exact List.perm_middle.symm
  refine ⟨fun c hc => (pT c).nodup_iff.2 (h.nd c hc), fun c hc x hx => ?_, fun j hj hd => ?_⟩
  · obtain ⟨j, hj, h1, h2⟩ := h.src c hc x ((pT c).mem_iff.1 hx)
    refine ⟨j, by rw [hlen]; exact hj, by rw [push]; exact h1, fun y hy he => ?_⟩
    have he' : nth (s.op.set p (-1)) y = (j : Int) := he
    by_cases hy2 : p = y
    · subst hy2; rw [nth_set_same (by rw [hI.o3]; exact hy)] at he'; omega
    · rw [nth_set_other hy2] at he'; exact h2 y hy he'
  · rw [hlen] at hj ⊢
    by_cases e : j0 = j
    · subst e
      have hk := hI.ops j0 hj0
      have hkey := hk.key
      have hd2 := hd
      rw [same, isDel_iff] at hd2
      have hm : nth s.rs p ∈ toks s (nth s.out j0).key.toNat := by
        refine List.mem_append_right _ (List.mem_append_right _ ?_)
        refine List.mem_filterMap.2 ⟨p, by simpa using hp, ?_⟩
        unfold tokH
        rw [hjj, if_pos ⟨hop, hef, hd2.1, by omega, hd2.2.2⟩]
      obtain ⟨k, hk1, hk2, _⟩ := h.src _ (by omega) _ hm
      refine ⟨k, hk1, ?_, ?_⟩
      · rw [push, same]
        dsimp only
        rw [show (((nth s.out j0).key.toNat : Nat) : Int) = (nth s.out j0).key by omega] at hk2
        exact hk2
      · rw [(fld k).2.2.2, same]
        exact (hI.ops k hk1).c0.2
    · rw [oth j e] at hd ⊢
      obtain ⟨k, hk1, hk2, hk3⟩ := h.dst j hj hd
      exact ⟨k, hk1, by rw [push]; exact hk2, by rw [(fld k).2.2.2]; exact hk3⟩

theorem push_uniq {l : List OpV} (h : l.Pairwise fun a b => hsW a.k = true → hsW b.k = true → a.arg < b.arg) {i j : Nat} (hi : i < l.length) (hj : j < l.length) (h1 : (nth l i).k = 3) (h2 : (nth l j).k = 3) (e : (nth l i).arg = (nth l j).arg) : i = j := by
  have key : ∀ a b, a < b → b < l.length → (nth l a).k = 3 → (nth l b).k = 3 → (nth l a).arg < (nth l b).arg := fun a b hab hb ha3 hb3 => by
    have := List.pairwise_iff_getElem.1 h a b (by omega) hb hab
    rw [← nth_eq hb, ← nth_eq (show a < l.length by omega)] at this
    exact this (by rw [ha3]; rfl) (by rw [hb3]; rfl)
  rcases Nat.lt_trichotomy i j with h3 | h3 | h3
  · have := key i j h3 hj h1 h2; omega
  · exact h3
  · have := key j i h3 hi h2 h1; omega
theorem QInv.eff {i : Nat} {s : HS} (hI : HInv true i s) (h : QInv s) {p : Nat} (hp : p < 3) (hop : 0 ≤ nth s.op p) (hef : nth s.ef p ≠ true) : QInv (hsEff (nth s.out (nth s.op p).toNat) p s) := by
  obtain ⟨hj0, hpj, hdj⟩ := hI.opn p hp hop
  have hO := hI.ops _ hj0
  have hk := hO.k
  have hkey := hO.key
  have hk34 : (nth s.out (nth s.op p).toNat).k = 3 ∨ (nth s.out (nth s.op p).toNat).k = 4 := by rcases hk with e | e <;> rw [e] <;> simp [hsKind]
  have s1 := hsEff_same (nth s.out (nth s.op p).toNat) p s
  have hold : ∀ c : Int, tokH s c p = none := fun c => by unfold tokH; rw [if_neg]; rintro ⟨_, h1, _⟩; exact hef h1
  generalize ho : nth s.out (nth s.op p).toNat = o at s1 hO hk34 hkey
  -- a state that differs in ef, rs and qs alone
  have main : ∀ (rs' : List Int) (qs' : List (List Int)), (∀ x, x ≠ p → nth rs' x = nth s.rs x) → (∀ c, c < 2 → (toks { s with ef := s.ef.set p true, rs := rs', qs := qs' } c).Nodup ∧ ∀ x ∈ toks { s with ef := s.ef.set p true, rs := rs', qs := qs' } c, x ∈ toks s c ∨ (isPushOf (c : Int) x o = true)) →
      QInv { s with ef := s.ef.set p true, rs := rs', qs := qs' } := fun rs' qs' hr ht => by
    have efx : ∀ y, y < 3 → nth s.ef y = true → nth (s.ef.set p true) y = true := fun y hy he => by
      by_cases e : p = y
      · subst e; rw [nth_set_same (by rw [hI.e3]; exact hy)]
      · rw [nth_set_other e]; exact he
    refine ⟨fun c hc => (ht c hc).1, fun c hc x hx => ?_, h.dst⟩
    rcases (ht c hc).2 x hx with h1 | h1
    · obtain ⟨j, hj, h2, h3⟩ := h.src c hc x h1
      exact ⟨j, hj, h2, fun y hy he => efx y hy (h3 y hy he)⟩
    · refine ⟨(nth s.op p).toNat, hj0, by show isPushOf _ _ (nth s.out _) = true; rw [ho]; exact h1, fun y hy he => ?_⟩
      show nth (s.ef.set p true) y = true
      by_cases e : p = y
      · subst e; rw [nth_set_same (by rw [hI.e3]; exact hy)]
      · have he' : nth s.op y = ((nth s.op p).toNat : Int) := he
        exact absurd (by omega) (hI.other hp hy e hop (by omega))
  have othH : ∀ (rs' : List Int) (qs' : List (List Int)), (∀ x, x ≠ p → nth rs' x = nth s.rs x) → ∀ (c : Int) x, x < 3 → x ≠ p → tokH { s with ef := s.ef.set p true, rs := rs', qs := qs' } c x = tokH s c x := fun rs' qs' hr c x hx hne => by
    unfold tokH
    dsimp only
    rw [nth_set_other (fun e => hne e.symm), hr x hne]
  have sameT : ∀ (rs' : List Int), (∀ x, x ≠ p → nth rs' x = nth s.rs x) → (o.k = 3 ∨ nth rs' p = 0) → ∀ (qs' : List (List Int)) (c : Int), helds { s with ef := s.ef.set p true, rs := rs', qs := qs' } c = helds s c := fun rs' hr h0 qs' c => by
    unfold helds
    refine fm_same fun x hx => ?_
    by_cases e : x = p
    · subst e
      rw [hold]
      unfold tokH
      rw [if_neg]
      rintro ⟨_, _, h3, _, h5⟩
      have h3' : (nth s.out (nth s.op x).toNat).k = 4 := h3
      rw [ho] at h3'
      rcases h0 with h0 | h0
      · omega
      · exact h5 h0
    · exact othH rs' qs' hr c x hx e
  have setR : ∀ v x, x ≠ p → nth (s.rs.set p v) x = nth s.rs x := fun v x hx => nth_set_other (fun e => hx e.symm)
  have setP : ∀ v, nth (s.rs.set p v) p = v := fun v => nth_set_same (by rw [hI.r3]; exact hp)
  have hkn : o.key.toNat < 2 := by omega
  unfold hsEff
  rw [if_neg (by rcases hk34 with e | e <;> omega), if_neg (by rcases hk34 with e | e <;> omega)]
  rcases hk34 with e3 | e4
  · rw [if_pos e3]
    refine main _ _ (setR 0) fun c hc => ?_
    have eT : toks { s with ef := s.ef.set p true, rs := s.rs.set p 0, qs := s.qs.set o.key.toNat (nth s.qs o.key.toNat ++ [o.arg]) } c = nth (s.qs.set o.key.toNat (nth s.qs o.key.toNat ++ [o.arg])) c ++ (dels s.out c ++ helds s c) := by
      unfold toks
      dsimp only
      rw [sameT _ (setR 0) (.inl e3)]
    rw [eT]
    by_cases ec : o.key.toNat = c
    · subst ec
      rw [nth_set_same (by rw [hI.q2]; exact hc)]
      have hnm : o.arg ∉ toks s o.key.toNat := fun hm => by
        obtain ⟨j, hj, h1, h2⟩ := h.src _ hc _ hm
        rw [isPushOf_iff] at h1
        have : j = (nth s.op p).toNat := push_uniq (hI.rel.imp fun hab => hab.2) hj hj0 h1.1 (by rw [ho]; exact e3) (by rw [ho]; exact h1.2.2)
        exact hef (h2 p hp (by omega))
      have pm : (nth s.qs o.key.toNat ++ [o.arg] ++ (dels s.out (o.key.toNat : Nat) ++ helds s (o.key.toNat : Nat))).Perm (o.arg :: toks s o.key.toNat) := by
        rw [List.append_assoc]
        exact List.perm_middle
      refine ⟨pm.nodup_iff.2 (List.nodup_cons.2 ⟨hnm, h.nd _ hc⟩), fun x hx => ?_⟩
      rcases List.mem_cons.1 (pm.mem_iff.1 hx) with rfl | hx
      · exact .inr (isPushOf_iff.2 ⟨e3, by omega, rfl⟩)
      · exact .inl hx
    · rw [nth_set_other ec]
      exact ⟨h.nd c hc, fun x hx => .inl hx⟩
  · rw [if_neg (by omega)]
    cases hq : nth s.qs o.key.toNat with
    | nil =>
      refine main _ _ (setR 0) fun c hc => ?_
      have eT : toks { s with ef := s.ef.set p true, rs := s.rs.set p 0 } c = toks s c := by
        unfold toks
        dsimp only
        rw [sameT _ (setR 0) (.inr (setP 0)) s.qs]
      rw [eT]
      exact ⟨h.nd c hc, fun x hx => .inl hx⟩
    | cons x r =>
      refine main _ _ (setR x) fun c hc => ?_
      by_cases ec : o.key.toNat = c
      · subst ec
        have hx1 : 1 ≤ x := h.one hI hc (List.mem_append_left _ (by rw [hq]; exact List.mem_cons_self))
        have pm : (toks { s with ef := s.ef.set p true, rs := s.rs.set p x, qs := s.qs.set o.key.toNat r } o.key.toNat).Perm (toks s o.key.toNat) := by
          unfold toks
          dsimp only
          rw [nth_set_same (by rw [hI.q2]; exact hc), hq]
          have b := fm_add (n := 3) (p := p) (f := tokH s (o.key.toNat : Nat)) (g := tokH { s with ef := s.ef.set p true, rs := s.rs.set p x, qs := s.qs.set o.key.toNat r } (o.key.toNat : Nat)) (x := x) hp (hold _)
            (by unfold tokH; dsimp only; rw [if_pos ⟨hop, nth_set_same (by rw [hI.e3]; exact hp), by rw [ho]; exact e4, by rw [ho]; omega, by rw [setP]; omega⟩, setP]) fun y hy hne => othH _ _ (setR x) _ y hy hne
          refine List.Perm.trans ((b.append_left _).append_left _) ?_
          rw [List.cons_append]
          refine (List.Perm.append_left _ List.perm_middle).trans ?_
          exact List.perm_middle
        exact ⟨pm.nodup_iff.2 (h.nd _ hc), fun y hy => .inl (pm.mem_iff.1 hy)⟩
      · have eT : toks { s with ef := s.ef.set p true, rs := s.rs.set p x, qs := s.qs.set o.key.toNat r } c = toks s c := by
          unfold toks
          dsimp only
          rw [nth_set_other ec]
          congr 2
          unfold helds
          refine fm_same fun y hy => ?_
          by_cases e : y = p
          · subst e
            rw [hold]
            unfold tokH
            dsimp only
            rw [if_neg]
            rintro ⟨_, _, _, h4, _⟩
            rw [ho] at h4
            omega
          · exact othH _ _ (setR x) _ y hy e
        rw [eT]
        exact ⟨h.nd c hc, fun y hy => .inl hy⟩
theorem QInv.step {i : Nat} {s : HS} (hI : HInv true i s) (h : QInv s) (x : Int) : QInv (hsStep true x s) := by
  unfold hsStep
  have hn : 0 ≤ around x 1000000 := around_lo (by decide)
  have hp : (around x 1000000 % 3).toNat < 3 := by omega
  split
  · rename_i hop
    exact QInv.open hI h _ hp hop
  · rename_i hop
    have h1 := hI.effM (around x 1000000 % 3).toNat
    have he : (hsEffM (around x 1000000 % 3).toNat s).op = s.op := (hsEffM_same _ _).2.2.1
    have h2 : QInv (hsEffM (around x 1000000 % 3).toNat s) ∧ nth (hsEffM (around x 1000000 % 3).toNat s).ef (around x 1000000 % 3).toNat = true := by
      unfold hsEffM
      split
      · rename_i h3; exact ⟨h, h3⟩
      · rename_i h3
        exact ⟨QInv.eff hI h hp (by omega) h3, by rw [(hsEff_same _ _ _).2.2.2.2.2.1, nth_set_same (by rw [hI.e3]; exact hp)]⟩
    unfold hsEnd
    split
    · exact QInv.lost h1 h2.1 hp
    · split
      · exact QInv.done h1 h2.1 hp (by rw [he]; omega) h2.2
      · exact h2.1
theorem hsTo_q (l : List Int) : ∀ i, QInv (hsTo true l i)
  | 0 => QInv.init
  | i + 1 => (hsTo_q l i).step (hsTo_inv true l i) _

/-! ### the history -/
theorem nth_map_fix (t : Nat) {l : List OpV} {j : Nat} (hj : j < l.length) : nth (l.map (hsFix t)) j = hsFix t (nth l j) := by
  rw [nth_eq (by simpa using hj), nth_eq hj]; simp
theorem isDel_fix (t : Nat) (o : OpV) : isDel (hsFix t o) = isDel o := by
  obtain ⟨_, e2, _, _, e5, _, e7, _⟩ := hsFix_same t o
  unfold isDel; rw [e2, e5, e7]
theorem histQ_dst (l : List Int) {j : Nat} (hj : j < (histQ true l).length) (hd : isDel (nth (histQ true l) j) = true) :
    ∃ i, i < (histQ true l).length ∧ isPushOf (nth (histQ true l) j).key (nth (histQ true l) j).res (nth (histQ true l) i) = true ∧ (nth (histQ true l) i).call < (nth (histQ true l) j).ret := by
  have h := hsTo_q l (min l.length 60)
  unfold histQ at hj hd ⊢
  generalize hsTo true l (min l.length 60) = s at h hj hd ⊢
  have hj' : j < s.out.length := by simpa using hj
  rw [nth_map_fix _ hj'] at hd ⊢
  rw [isDel_fix] at hd
  obtain ⟨i, hi, h1, h2⟩ := h.dst j hj' hd
  refine ⟨i, by simpa using hi, ?_⟩
  rw [nth_map_fix _ hi]
  obtain ⟨_, _, a3, _, a5, _, a7, a8, _⟩ := hsFix_same s.time (nth s.out j)
  obtain ⟨_, b2, b3, b4, _, b6, _⟩ := hsFix_same s.time (nth s.out i)
  rw [a3, a5, a8 (isDel_iff.1 hd).2.1, b6]
  refine ⟨?_, h2⟩
  unfold isPushOf at h1 ⊢
  rw [b2, b3, b4]; exact h1
theorem dels_fix (t : Nat) (l : List OpV) (c : Int) : dels (l.map (hsFix t)) c = dels l c := by
  unfold dels
  rw [List.length_map]
  refine fm_same fun j hj => ?_
  rw [nth_map_fix _ hj]
  unfold tokD
  rw [isDel_fix, (hsFix_same t _).2.2.1, (hsFix_same t _).2.2.2.2.1]
theorem histQ_nodup (l : List Int) {c : Nat} (hc : c < 2) : (dels (histQ true l) c).Nodup := by
  have h := (hsTo_q l (min l.length 60)).nd c hc
  unfold histQ
  rw [dels_fix]
  exact (List.sublist_append_of_sublist_right (List.sublist_append_left _ _)).nodup h
theorem fm_two {n j k : Nat} {f : Nat → Option Int} {x : Int} (hjk : j < k) (hk : k < n) (h1 : f j = some x) (h2 : f k = some x) : ¬ ((List.range n).filterMap f).Nodup := by
  induction n with
  | zero => omega
  | succ n ih =>
    intro hn
    rw [List.range_succ, List.filterMap_append, List.nodup_append] at hn
    by_cases e : k = n
    · subst e
      refine hn.2.2 x (List.mem_filterMap.2 ⟨j, by simpa using hjk, h1⟩) x ?_ rfl
      simp [h2]
    · exact ih (by omega) hn.1
theorem dels_two {l : List OpV} {c : Int} {j k : Nat} (hjk : j < k) (hk : k < l.length) {x : Int} (h1 : tokD c (nth l j) = some x) (h2 : tokD c (nth l k) = some x) : ¬ (dels l c).Nodup :=
  fm_two hjk hk h1 h2
theorem histQ_dom (l : List Int) : dom24 (histQ true l) := by
  rw [dom24_iff]
  refine ⟨fun o ho => ?_, (histQ_args true l).imp fun {a b} hab h1 h2 h3 => ?_⟩
  · have h := histQ_op true l o ho
    rcases h.k with ⟨_, h1 | h1⟩ | ⟨h1, _⟩
    · exact .inr ⟨h1, by have := h.w (by rw [h1]; rfl); omega⟩
    · exact .inl h1
    · cases h1
  · have := hab (by rw [h1]; rfl) (by rw [h2]; rfl)
    omega
theorem histQ_once (l : List Int) : onceV (histQ true l) = ⟨7, 0, 0, []⟩ := by
  rcases onceV_or (histQ true l) with ⟨_, h⟩ | ⟨k, hk, h, _⟩
  · exact h
  · exfalso
    unfold verAt at h
    split at h
    · cases h
    · rename_i hd
      have hd : isDel (nth (histQ true l) k) = true := by simpa using hd
      obtain ⟨i, hi, h1, h2⟩ := histQ_dst l hk hd
      have hpi : pushIx (histQ true l) (nth (histQ true l) k).key (nth (histQ true l) k).res = i := by
        rcases pushIx_or (histQ true l) (nth (histQ true l) k).key (nth (histQ true l) k).res with ⟨_, h4⟩ | ⟨m, h3, h4, h5, _⟩
        · rw [h4 i hi] at h1; cases h1
        · rw [isPushOf_iff] at h1 h5
          rw [h3, push_uniq (histQ_args true l) h4 hi h5.1 h1.1 (by rw [h5.2.2, h1.2.2])]
      rw [hpi, if_neg (by omega), Int.toNat_natCast] at h
      rw [if_neg (by unfold bef; simp; intro _; omega)] at h
      split at h
      · rename_i h3
        rcases firstIx_or hk with ⟨h4, _⟩ | ⟨_, h4, _⟩
        · omega
        · simp only [isDelOf, Bool.and_eq_true, decide_eq_true_eq] at h4
          have hkey := (histQ_op true l _ (nth_mem hk)).key
          refine dels_two (c := (nth (histQ true l) k).key) (x := (nth (histQ true l) k).res) h3 hk ?_ ?_ ?_
          · unfold tokD; rw [if_pos ⟨h4.1, h4.2.1⟩, h4.2.2]
          · unfold tokD; rw [if_pos ⟨hd, rfl⟩]
          · have := histQ_nodup l (c := (nth (histQ true l) k).key.toNat) (by omega)
            rwa [show (((nth (histQ true l) k).key.toNat : Nat) : Int) = (nth (histQ true l) k).key by omega] at this
      · cases h
theorem nodup_len : ∀ {l m : List Int}, l.Nodup → (∀ x ∈ l, x ∈ m) → l.length ≤ m.length
  | [], _, _, _ => Nat.zero_le _
  | x :: l, m, hn, hm => by
    rw [List.nodup_cons] at hn
    have hx := hm x List.mem_cons_self
    have := nodup_len (l := l) (m := m.erase x) hn.2 fun y hy => (List.mem_erase_of_ne fun e => hn.1 (by rw [← e]; exact hy)).2 (hm y (List.mem_cons_of_mem _ hy))
    rw [List.length_erase_of_mem hx] at this
    have h0 : 0 < m.length := List.length_pos_of_mem hx
    simp only [List.length_cons]
    omega
def delB (c : Int) (o : OpV) : Bool := decide (o.key = c) && isDel o
def pushB (c : Int) (o : OpV) : Bool := decide (o.key = c) && decide (o.k = 3)
def cntTo (f : OpV → Bool) (l : List OpV) (k : Nat) : Nat := (List.range k).countP fun j => f (nth l j)
theorem cntTo_succ (f : OpV → Bool) (l : List OpV) (k : Nat) : cntTo f l (k + 1) = cntTo f l k + if f (nth l k) = true then 1 else 0 := by
  unfold cntTo
  rw [List.range_succ, List.countP_append]
  simp [List.countP_cons]
theorem cntTo_le (f : OpV → Bool) (l : List OpV) (k : Nat) : cntTo f l k ≤ k := by
  unfold cntTo
  exact Nat.le_trans (List.countP_le_length) (by simp)
theorem fm_len {n : Nat} {f : Nat → Option Int} {g : Nat → Bool} (h : ∀ j, j < n → (f j).isSome = g j) : ((List.range n).filterMap f).length = (List.range n).countP g := by
  induction n with
  | zero => rfl
  | succ n ih =>
    rw [List.range_succ, List.filterMap_append, List.length_append, List.countP_append, ih fun j hj => h j (by omega)]
    congr 1
    have := h n (by omega)
    cases hf : f n with
    | none => rw [hf] at this; simp [hf, ← this]
    | some x => rw [hf] at this; simp [hf, ← this]
theorem histQ_count (l : List Int) {c : Nat} (hc : c < 2) : cntTo (delB c) (histQ true l) (histQ true l).length ≤ cntTo (pushB c) (histQ true l) (histQ true l).length := by
  have hn := histQ_nodup l hc
  have h1 : (dels (histQ true l) c).length = cntTo (delB c) (histQ true l) (histQ true l).length := by
    refine fm_len fun j hj => ?_
    unfold tokD delB
    by_cases h : isDel (nth (histQ true l) j) = true ∧ (nth (histQ true l) j).key = c
    · rw [if_pos h]; simp [h.1, h.2]
    · rw [if_neg h]
      symm
      simp only [Option.isSome_none, Bool.and_eq_false_iff, decide_eq_false_iff_not]
      by_cases h2 : (nth (histQ true l) j).key = c
      · right
        cases h3 : isDel (nth (histQ true l) j) with
        | false => rfl
        | true => exact absurd ⟨h3, h2⟩ h
      · exact .inl h2
  have h2 : ((List.range (histQ true l).length).filterMap fun j => if pushB c (nth (histQ true l) j) = true then some (nth (histQ true l) j).arg else none).length = cntTo (pushB c) (histQ true l) (histQ true l).length := by
    refine fm_len fun j hj => ?_
    cases pushB c (nth (histQ true l) j) <;> rfl
  rw [← h1, ← h2]
  refine nodup_len hn fun x hx => ?_
  obtain ⟨j, hj, hx⟩ := List.mem_filterMap.1 hx
  have hj' : j < (histQ true l).length := by simpa using hj
  unfold tokD at hx
  split at hx
  · rename_i hh
    injection hx with hx
    obtain ⟨i, hi, h3, _⟩ := histQ_dst l hj' hh.1
    rw [isPushOf_iff] at h3
    refine List.mem_filterMap.2 ⟨i, by simpa using hi, ?_⟩
    rw [if_pos (by unfold pushB; simp [h3.1, h3.2.1, hh.2]), h3.2.2, hx]
  · cases hx
end Go.Proofs.Ythijndjgchbeoaa
