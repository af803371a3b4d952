/-
  Serializability, in plain Lean: the dependencies, the serial orders.
-/
import Derived.Test.YtfegkbmnclhljaaZG
namespace Go.Proofs.Ytfegkbmnclhljaa
set_option linter.unusedVariables false

def incl22 (o : OpV) : Bool := o.done && (decide (o.k = 0) || decide (o.k = 2))
def wroteB (a b : OpV) (kind : Int) : Bool := decide (a.k = 2) && decide (a.key = b.key) && decide (a.arg = b.res) && decide (b.k = kind)
def precB (i k : Nat) (a b : OpV) : Bool := decide (i ≠ k) && decide (a.key = b.key) && decide (a.res = b.res) && decide (b.k = 2)
def optB (b : Bool) (w : Int) : List Int := if b = true then [w] else []
def whys (l : List OpV) (strict : Bool) (i k : Nat) : List Int :=
  optB (wroteB (nth l i) (nth l k) 0) 2 ++ (optB (wroteB (nth l i) (nth l k) 2) 3 ++ (optB (precB i k (nth l i) (nth l k)) 4 ++ optB (strict && bef l i k) 5))
def why22 (l : List OpV) (strict : Bool) (i k : Nat) : List Int := if (incl22 (nth l i) && incl22 (nth l k)) = true then whys l strict i k else []
abbrev EdV := Nat × Nat × Int
def edRow (l : List OpV) (strict : Bool) (i k : Nat) : List EdV := (why22 l strict i k).map fun w => (i, k, w)
def edRows (l : List OpV) (strict : Bool) (i k : Nat) : List EdV := (List.range k).flatMap fun j => edRow l strict i j
def edTo (l : List OpV) (strict : Bool) (i : Nat) : List EdV := (List.range i).flatMap fun j => edRows l strict j l.length
def edges22 (l : List OpV) (strict : Bool) : List EdV := edTo l strict l.length
def prs (E : List EdV) : List (Nat × Nat) := E.map fun e => (e.1, e.2.1)

theorem optB_len (b : Bool) (w : Int) : (optB b w).length ≤ 1 := by unfold optB; split <;> simp
theorem optB_nil {b : Bool} {w : Int} : optB b w ≠ [] ↔ b = true := by unfold optB; split <;> simp_all
theorem optB_mem {b : Bool} {w x : Int} : x ∈ optB b w ↔ b = true ∧ x = w := by unfold optB; split <;> simp_all
theorem whys_len (l : List OpV) (strict : Bool) (i k : Nat) : (whys l strict i k).length ≤ 4 := by
  unfold whys
  simp only [List.length_append]
  have := optB_len (wroteB (nth l i) (nth l k) 0) 2
  have := optB_len (wroteB (nth l i) (nth l k) 2) 3
  have := optB_len (precB i k (nth l i) (nth l k)) 4
  have := optB_len (strict && bef l i k) 5
  omega
theorem why22_len (l : List OpV) (strict : Bool) (i k : Nat) : (why22 l strict i k).length ≤ 4 := by
  unfold why22; split
  · exact whys_len l strict i k
  · simp
theorem edRow_len (l : List OpV) (strict : Bool) (i k : Nat) : (edRow l strict i k).length ≤ 4 := by unfold edRow; rw [List.length_map]; exact why22_len l strict i k
theorem edRows_succ (l : List OpV) (strict : Bool) (i k : Nat) : edRows l strict i (k + 1) = edRows l strict i k ++ edRow l strict i k := by
  unfold edRows; rw [List.range_succ, List.flatMap_append]; simp
theorem edTo_succ (l : List OpV) (strict : Bool) (i : Nat) : edTo l strict (i + 1) = edTo l strict i ++ edRows l strict i l.length := by
  unfold edTo; rw [List.range_succ, List.flatMap_append]; simp
theorem edRows_len (l : List OpV) (strict : Bool) (i : Nat) : ∀ k, (edRows l strict i k).length ≤ 4 * k
  | 0 => by simp [edRows]
  | k + 1 => by
    rw [edRows_succ, List.length_append]
    have := edRows_len l strict i k
    have := edRow_len l strict i k
    omega
theorem edTo_len (l : List OpV) (strict : Bool) : ∀ i, (edTo l strict i).length ≤ 4 * l.length * i
  | 0 => by simp [edTo]
  | i + 1 => by
    rw [edTo_succ, List.length_append, Nat.mul_succ]
    have := edTo_len l strict i
    have := edRows_len l strict i l.length
    omega
theorem edges22_mem {l : List OpV} {strict : Bool} {e : EdV} : e ∈ edges22 l strict ↔ e.1 < l.length ∧ e.2.1 < l.length ∧ e.2.2 ∈ why22 l strict e.1 e.2.1 := by
  unfold edges22 edTo edRows edRow
  simp only [List.mem_flatMap, List.mem_map, List.mem_range]
  constructor
  · rintro ⟨a, ha, b, hb, w, hw, rfl⟩; exact ⟨ha, hb, hw⟩
  · rintro ⟨h1, h2, h3⟩; exact ⟨e.1, h1, e.2.1, h2, e.2.2, h3, rfl⟩
theorem prs_mem {l : List OpV} {strict : Bool} {a b : Nat} : (a, b) ∈ prs (edges22 l strict) ↔ a < l.length ∧ b < l.length ∧ why22 l strict a b ≠ [] := by
  unfold prs
  rw [List.mem_map]
  constructor
  · rintro ⟨e, he, h⟩
    injection h with h1 h2
    subst h1; subst h2
    obtain ⟨h1, h2, h3⟩ := edges22_mem.1 he
    exact ⟨h1, h2, fun h => by rw [h] at h3; cases h3⟩
  · rintro ⟨h1, h2, h3⟩
    obtain ⟨w, hw⟩ := List.exists_mem_of_ne_nil _ h3
    exact ⟨(a, b, w), edges22_mem.2 ⟨h1, h2, hw⟩, rfl⟩
theorem why22_iff {l : List OpV} {strict : Bool} {a b : Nat} : why22 l strict a b ≠ [] ↔ incl22 (nth l a) = true ∧ incl22 (nth l b) = true ∧ (wroteB (nth l a) (nth l b) 0 = true ∨ wroteB (nth l a) (nth l b) 2 = true ∨ precB a b (nth l a) (nth l b) = true ∨ (strict = true ∧ bef l a b = true)) := by
  have n1 := optB_nil (b := wroteB (nth l a) (nth l b) 0) (w := 2)
  have n2 := optB_nil (b := wroteB (nth l a) (nth l b) 2) (w := 3)
  have n3 := optB_nil (b := precB a b (nth l a) (nth l b)) (w := 4)
  have n4 := optB_nil (b := strict && bef l a b) (w := 5)
  rw [show (strict && bef l a b) = true ↔ strict = true ∧ bef l a b = true by simp] at n4
  unfold why22 whys
  by_cases h : (incl22 (nth l a) && incl22 (nth l b)) = true
  · rw [if_pos h, ← n1, ← n2, ← n3, ← n4]
    have h' := Bool.and_eq_true_iff.1 h
    clear n1 n2 n3 n4
    generalize optB (wroteB (nth l a) (nth l b) 0) 2 = x1
    generalize optB (wroteB (nth l a) (nth l b) 2) 3 = x2
    generalize optB (precB a b (nth l a) (nth l b)) 4 = x3
    generalize optB (strict && bef l a b) 5 = x4
    simp only [ne_eq, List.append_eq_nil_iff, h'.1, h'.2, true_and, Classical.not_and_iff_not_or_not]
  · rw [if_neg h]
    constructor
    · intro h1; exact absurd rfl h1
    · rintro ⟨h1, h2, _⟩; exact absurd (by rw [h1, h2]; rfl) h
structure Dom22 (l : List OpV) : Prop where
  kind : ∀ i, i < l.length → (nth l i).k = 0 ∨ (nth l i).k = 2
  arg : ∀ i, i < l.length → (nth l i).k = 2 → (nth l i).arg ≠ 0
  uniq : ∀ i j, i < l.length → j < l.length → (nth l i).k = 2 → (nth l j).k = 2 → (nth l i).key = (nth l j).key → (nth l i).arg = (nth l j).arg → i = j
  pend : ∀ i k, i < l.length → k < l.length → (nth l k).k = 2 → (nth l k).key = (nth l i).key → (nth l i).done = true → (nth l k).arg = (nth l i).res → (nth l k).done = true
def Writ (l : List OpV) : Prop := ∀ v, v < l.length → incl22 (nth l v) = true → (nth l v).res ≠ 0 → ∃ w, w < l.length ∧ (nth l w).k = 2 ∧ (nth l w).key = (nth l v).key ∧ (nth l w).arg = (nth l v).res

def iswB (l : List OpV) (key x : Int) : Bool := decide ((nth l x.toNat).k = 2) && decide ((nth l x.toNat).key = key)
def valTo (l : List OpV) (key : Int) (o : List Int) : Int := o.foldl (fun v x => if iswB l key x = true then (nth l x.toNat).arg else v) 0
theorem valTo_snoc (l : List OpV) (key : Int) (o : List Int) (x : Int) : valTo l key (o ++ [x]) = if iswB l key x = true then (nth l x.toNat).arg else valTo l key o := by
  unfold valTo; rw [List.foldl_append]; rfl
theorem take_snoc {o : List Int} {i : Nat} (h : i < o.length) : o.take (i + 1) = o.take i ++ [nth o i] := by
  rw [List.take_succ_eq_append_getElem h, nth_eq h]
theorem valTo_last (l : List OpV) (key : Int) (o : List Int) : ∀ i, i ≤ o.length → (valTo l key (o.take i) = 0 ∧ ∀ j, j < i → iswB l key (nth o j) = false) ∨
    ∃ j, j < i ∧ iswB l key (nth o j) = true ∧ valTo l key (o.take i) = (nth l (nth o j).toNat).arg ∧ ∀ q, j < q → q < i → iswB l key (nth o q) = false
  | 0, _ => .inl ⟨rfl, fun j hj => by omega⟩
  | i + 1, hi => by
    rw [take_snoc (show i < o.length by omega), valTo_snoc]
    by_cases h : iswB l key (nth o i) = true
    · rw [if_pos h]
      exact .inr ⟨i, by omega, h, rfl, fun q h1 h2 => by omega⟩
    · rw [if_neg h]
      have h' : iswB l key (nth o i) = false := by simpa using h
      rcases valTo_last l key o i (by omega) with ⟨h1, h2⟩ | ⟨j, h1, h2, h3, h4⟩
      · refine .inl ⟨h1, fun j hj => ?_⟩
        by_cases e : j = i
        · subst e; exact h'
        · exact h2 j (by omega)
      · refine .inr ⟨j, by omega, h2, h3, fun q q1 q2 => ?_⟩
        by_cases e : q = i
        · subst e; exact h'
        · exact h4 q q1 (by omega)
structure SerOrd (l : List OpV) (strict : Bool) (o : List Int) : Prop where
  rng : ∀ x ∈ o, 0 ≤ x ∧ x < l.length
  nd : o.Nodup
  inc : ∀ x ∈ o, incl22 (nth l x.toNat) = true
  all : ∀ v : Nat, v < l.length → incl22 (nth l v) = true → (v : Int) ∈ o
  val : ∀ i, i < o.length → (nth l (nth o i).toNat).res = valTo l (nth l (nth o i).toNat).key (o.take i)
  rt : strict = true → ∀ i j, i < o.length → j < i → bef l (nth o i).toNat (nth o j).toNat = false
theorem nd_inj {o : List Int} (h : o.Nodup) {i j : Nat} (hi : i < o.length) (hj : j < o.length) (e : nth o i = nth o j) : i = j := by
  rw [nth_eq hi, nth_eq hj] at e
  exact (List.getElem_inj h).1 e
theorem mem_pos {o : List Int} {x : Int} (h : x ∈ o) : ∃ p, p < o.length ∧ nth o p = x := by
  obtain ⟨p, hp, e⟩ := List.getElem_of_mem h
  exact ⟨p, hp, by rw [nth_eq hp, e]⟩
theorem incl22_done {o : OpV} (h : incl22 o = true) : o.done = true := by unfold incl22 at h; simp only [Bool.and_eq_true] at h; exact h.1
theorem incl22_swap {o : OpV} (h : o.done = true) (hk : o.k = 2) : incl22 o = true := by unfold incl22; simp [h, hk]
section
variable {l : List OpV} {strict : Bool} {o : List Int}
theorem SerOrd.of_fwd (hD : Dom22 l) (hW : Writ l) (rng : ∀ x ∈ o, 0 ≤ x ∧ x < l.length) (nd : o.Nodup) (inc : ∀ x ∈ o, incl22 (nth l x.toNat) = true) (all : ∀ v : Nat, v < l.length → incl22 (nth l v) = true → (v : Int) ∈ o)
    (fwd : ∀ i j, i < o.length → j < o.length → why22 l strict (nth o i).toNat (nth o j).toNat ≠ [] → i < j) : SerOrd l strict o where
  rng := rng
  nd := nd
  inc := inc
  all := all
  rt hs i j hi hj := by
    cases h : bef l (nth o i).toNat (nth o j).toNat with
    | false => rfl
    | true =>
      have := fwd i j hi (by omega) (why22_iff.2 ⟨inc _ (nth_mem hi), inc _ (nth_mem (by omega)), .inr (.inr (.inr ⟨hs, h⟩))⟩)
      omega
  val i hi := by
    induction i using Nat.strongRecOn with
    | ind i IH =>
      obtain ⟨b, hb⟩ : ∃ b, nth o i = b := ⟨_, rfl⟩
      rw [hb]
      have hbm : b ∈ o := hb ▸ nth_mem hi
      have hbr := rng b hbm
      have hbi := inc b hbm
      have hbn : b.toNat < l.length := by omega
      -- no swap of the key stands between
      have step : ∀ j, j < i → valTo l (nth l b.toNat).key (o.take j) = (nth l b.toNat).res → iswB l (nth l b.toNat).key (nth o j) = false := fun j hj hv => by
        cases h : iswB l (nth l b.toNat).key (nth o j) with
        | false => rfl
        | true =>
          exfalso
          have hjo : j < o.length := by omega
          unfold iswB at h
          simp only [Bool.and_eq_true, decide_eq_true_eq] at h
          have hr := IH j hj hjo
          rw [h.2, hv] at hr
          have hne : b.toNat ≠ (nth o j).toNat := fun e => by
            have h1 := rng _ (nth_mem hjo)
            have : i = j := nd_inj nd hi hjo (by rw [hb]; omega)
            omega
          have := fwd i j hi hjo (why22_iff.2 ⟨by rw [hb]; exact hbi, inc _ (nth_mem hjo), .inr (.inr (.inl (by rw [hb]; unfold precB; simp [hne, h.1, h.2, hr])))⟩)
          omega
      have climb : ∀ p, p ≤ i → valTo l (nth l b.toNat).key (o.take p) = (nth l b.toNat).res → ∀ d, p + d ≤ i → valTo l (nth l b.toNat).key (o.take (p + d)) = (nth l b.toNat).res := fun p hp h0 d => by
        induction d with
        | zero => exact fun _ => h0
        | succ d ih =>
          intro hd
          have h1 := ih (by omega)
          rw [← Nat.add_assoc, take_snoc (by omega), valTo_snoc, if_neg (by rw [step (p + d) (by omega) h1]; decide)]
          exact h1
      by_cases hr : (nth l b.toNat).res = 0
      · have := climb 0 (Nat.zero_le _) (by rw [hr]; rfl) i (by omega)
        rw [Nat.zero_add] at this
        exact this.symm
      · obtain ⟨w, hw, w1, w2, w3⟩ := hW b.toNat hbn hbi hr
        have hwd := hD.pend b.toNat w hbn hw w1 w2 (incl22_done hbi) w3
        have hwi := incl22_swap hwd w1
        obtain ⟨p, hp, hpe⟩ := mem_pos (all w hw hwi)
        have hpi : p < i := by
          refine fwd p i hp hi (why22_iff.2 ⟨by rw [hpe]; exact hwi, by rw [hb]; exact hbi, ?_⟩)
          rw [hpe, hb, Int.toNat_natCast]
          rcases hD.kind b.toNat hbn with hk | hk
          · left; unfold wroteB; simp [w1, w2, w3, hk]
          · right; left; unfold wroteB; simp [w1, w2, w3, hk]
        have h0 : valTo l (nth l b.toNat).key (o.take (p + 1)) = (nth l b.toNat).res := by
          rw [take_snoc hp, valTo_snoc, hpe, Int.toNat_natCast, if_pos (by unfold iswB; rw [Int.toNat_natCast]; simp [w1, w2])]
          exact w3
        have := climb (p + 1) hpi h0 (i - (p + 1)) (by omega)
        rw [show p + 1 + (i - (p + 1)) = i by omega] at this
        exact this.symm
theorem SerOrd.writ (h : SerOrd l strict o) : Writ l := fun v hv hi hr => by
  obtain ⟨p, hp, he⟩ := mem_pos (h.all v hv hi)
  have hval := h.val p hp
  rw [he, Int.toNat_natCast] at hval
  rcases valTo_last l (nth l v).key o p (by omega) with ⟨h1, _⟩ | ⟨j, h1, h2, h3, _⟩
  · rw [h1] at hval; exact absurd hval hr
  · have h4 := h.rng _ (nth_mem (show j < o.length by omega))
    unfold iswB at h2
    simp only [Bool.and_eq_true, decide_eq_true_eq] at h2
    exact ⟨(nth o j).toNat, by omega, h2.1, h2.2, by rw [hval, h3]⟩
theorem SerOrd.fwd (h : SerOrd l strict o) (hD : Dom22 l) (hwf : ∀ i, i < l.length → (nth l i).call < (nth l i).ret) {p q : Nat} (hp : p < o.length) (hq : q < o.length) (hw : why22 l strict (nth o p).toNat (nth o q).toNat ≠ []) : p < q := by
  obtain ⟨_, _, hc⟩ := why22_iff.1 hw
  have hpr := h.rng _ (nth_mem hp)
  have hqr := h.rng _ (nth_mem hq)
  obtain ⟨a, ha⟩ : ∃ a : Nat, nth o p = a := ⟨(nth o p).toNat, by omega⟩
  obtain ⟨b, hb⟩ : ∃ b : Nat, nth o q = b := ⟨(nth o q).toNat, by omega⟩
  rw [ha, hb, Int.toNat_natCast, Int.toNat_natCast] at hc
  rw [ha] at hpr
  rw [hb] at hqr
  have hvq := h.val q hq
  rw [hb, Int.toNat_natCast] at hvq
  have nat : ∀ j, j < o.length → ∃ x : Nat, nth o j = x ∧ x < l.length := fun j hj => by
    have := h.rng _ (nth_mem hj)
    exact ⟨(nth o j).toNat, by omega, by omega⟩
  have wr : ∀ kd, wroteB (nth l a) (nth l b) kd = true → p < q := fun kd hk => by
    unfold wroteB at hk
    simp only [Bool.and_eq_true, decide_eq_true_eq] at hk
    obtain ⟨⟨⟨k1, k2⟩, k3⟩, _⟩ := hk
    rcases valTo_last l (nth l b).key o q (by omega) with ⟨h1, _⟩ | ⟨j, h1, h2, h3, _⟩
    · have := hD.arg a (by omega) k1
      rw [k3, hvq, h1] at this
      exact absurd rfl this
    · obtain ⟨x, hx, hxl⟩ := nat j (by omega)
      rw [hx, Int.toNat_natCast] at h3
      unfold iswB at h2
      simp only [Bool.and_eq_true, decide_eq_true_eq, hx, Int.toNat_natCast] at h2
      have := hD.uniq a x (by omega) hxl k1 h2.1 (k2.trans h2.2.symm) (by rw [k3, hvq, h3])
      have : p = j := nd_inj h.nd hp (by omega) (by rw [ha, hx]; omega)
      omega
  rcases hc with hc | hc | hc | ⟨hs, hc⟩
  · exact wr 0 hc
  · exact wr 2 hc
  · unfold precB at hc
    simp only [Bool.and_eq_true, decide_eq_true_eq] at hc
    obtain ⟨⟨⟨k1, k2⟩, k3⟩, k4⟩ := hc
    have hpq : p ≠ q := fun e => by subst e; rw [ha] at hb; exact k1 (by omega)
    rcases Nat.lt_or_ge p q with hlt | hge
    · exact hlt
    exfalso
    have hvp := h.val p hp
    rw [ha, Int.toNat_natCast, k2] at hvp
    have hqs : iswB l (nth l b).key (nth o q) = true := by rw [hb]; unfold iswB; simp [k4]
    rcases valTo_last l (nth l b).key o p (by omega) with ⟨_, h1⟩ | ⟨j, h1, h2, h3, h4⟩
    · rw [h1 q (by omega)] at hqs; cases hqs
    · have hjq : q ≤ j := Nat.le_of_not_lt fun hlt => by rw [h4 q hlt (by omega)] at hqs; cases hqs
      obtain ⟨x, hx, hxl⟩ := nat j (by omega)
      rw [hx, Int.toNat_natCast] at h3
      unfold iswB at h2
      simp only [Bool.and_eq_true, decide_eq_true_eq, hx, Int.toNat_natCast] at h2
      have hxr : (nth l x).arg = valTo l (nth l b).key (o.take q) := by rw [← h3, ← hvp, k3, hvq]
      rcases valTo_last l (nth l b).key o q (by omega) with ⟨g1, _⟩ | ⟨j', g1, g2, g3, _⟩
      · exact hD.arg x hxl h2.1 (hxr.trans g1)
      · obtain ⟨y, hy, hyl⟩ := nat j' (by omega)
        rw [hy, Int.toNat_natCast] at g3
        unfold iswB at g2
        simp only [Bool.and_eq_true, decide_eq_true_eq, hy, Int.toNat_natCast] at g2
        have := hD.uniq x y hxl hyl h2.1 g2.1 (h2.2.trans g2.2.symm) (hxr.trans g3)
        have : j = j' := nd_inj h.nd (by omega) (by omega) (by rw [hx, hy]; omega)
        omega
  · rcases Nat.lt_trichotomy p q with hlt | he | hgt
    · exact hlt
    · exfalso
      subst he
      have hab : a = b := by rw [ha] at hb; omega
      subst hab
      unfold bef at hc
      simp only [Bool.and_eq_true, decide_eq_true_eq] at hc
      have := hwf a (by omega)
      omega
    · have := h.rt hs p q hp hgt
      rw [ha, hb, Int.toNat_natCast, Int.toNat_natCast, hc] at this
      cases this
end
end Go.Proofs.Ytfegkbmnclhljaa
