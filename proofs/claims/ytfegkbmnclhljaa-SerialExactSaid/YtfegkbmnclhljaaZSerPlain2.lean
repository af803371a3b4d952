/-
  Serializability: the verdict, in plain Lean.
-/
import Derived.Test.YtfegkbmnclhljaaZSerPlain
import Derived.Test.YtfegkbmnclhljaaZAcyPlain
namespace Go.Proofs.Ytfegkbmnclhljaa
set_option linter.unusedVariables false

theorem prs_in (l : List OpV) (strict : Bool) : InN l.length (prs (edges22 l strict)) := fun e he => by
  have := prs_mem.1 (show (e.1, e.2) ∈ _ from he)
  exact ⟨this.1, this.2.1⟩
section
variable {l : List OpV} {strict : Bool}
theorem Ord.ser {T : List Int} (hT : Ord l.length (prs (edges22 l strict)) T) (hD : Dom22 l) (hW : Writ l) : SerOrd l strict (T.filter fun x => incl22 (nth l x.toNat)) := by
  have hP : T.Pairwise fun x y => why22 l strict y.toNat x.toNat = [] := by
    rw [List.pairwise_iff_getElem]
    intro i j hi hj hij
    refine Classical.byContradiction fun hne => ?_
    have h1 := hT.rng _ (List.getElem_mem hi)
    have h2 := hT.rng _ (List.getElem_mem hj)
    have hl := hT.len
    have := hT.fwd (T[j].toNat, T[i].toNat) (prs_mem.2 ⟨by omega, by omega, hne⟩) j i (by omega) (by omega) (by rw [nth_eq hj]; dsimp only; omega) (by rw [nth_eq hi]; dsimp only; omega)
    omega
  have hin : ∀ x ∈ T.filter fun x => incl22 (nth l x.toNat), x ∈ T ∧ incl22 (nth l x.toNat) = true := fun x hx => List.mem_filter.1 hx
  have hPf := List.pairwise_iff_getElem.1 (hP.sublist (List.filter_sublist (p := fun x => incl22 (nth l x.toNat))))
  refine SerOrd.of_fwd hD hW (fun x hx => hT.rng x (hin x hx).1) (hT.nd.sublist List.filter_sublist) (fun x hx => (hin x hx).2) (fun v hv hi => ?_) (fun i j hi hj hw => ?_)
  · obtain ⟨p, hp, e⟩ := hT.pos hv
    have hl := hT.len
    exact List.mem_filter.2 ⟨e ▸ nth_mem (by omega), by rw [Int.toNat_natCast]; exact hi⟩
  · rcases Nat.lt_trichotomy i j with hlt | he | hgt
    · exact hlt
    · exfalso
      subst he
      have hm := (hin _ (nth_mem hi)).1
      have hr := hT.rng _ hm
      obtain ⟨p, hp, e⟩ := hT.pos (show (nth (T.filter fun x => incl22 (nth l x.toNat)) i).toNat < l.length by omega)
      have := hT.fwd (_, _) (prs_mem.2 ⟨by omega, by omega, hw⟩) p p hp hp e e
      omega
    · have := hPf j i hj hi hgt
      rw [← nth_eq hj, ← nth_eq hi] at this
      exact absurd this hw
open Classical in
theorem SerOrd.rank {o : List Int} (h : SerOrd l strict o) (hD : Dom22 l) (hwf : ∀ i, i < l.length → (nth l i).call < (nth l i).ret) : ∃ f : Nat → Nat, ∀ e ∈ prs (edges22 l strict), f e.1 < f e.2 := by
  refine ⟨fun v => if hv : ∃ p, p < o.length ∧ nth o p = (v : Int) then hv.choose else 0, fun e he => ?_⟩
  obtain ⟨h1, h2, h3⟩ := prs_mem.1 (show (e.1, e.2) ∈ _ from he)
  obtain ⟨i1, i2, _⟩ := why22_iff.1 h3
  have e1 := mem_pos (h.all _ h1 i1)
  have e2 := mem_pos (h.all _ h2 i2)
  dsimp only
  rw [dif_pos e1, dif_pos e2]
  obtain ⟨a1, a2⟩ := e1.choose_spec
  obtain ⟨b1, b2⟩ := e2.choose_spec
  refine h.fwd hD hwf a1 b1 ?_
  rw [a2, b2, Int.toNat_natCast, Int.toNat_natCast]
  exact h3
theorem ser_iff (hD : Dom22 l) (hwf : ∀ i, i < l.length → (nth l i).call < (nth l i).ret) : (Writ l ∧ rCycle (prs (edges22 l strict)) l.length = []) ↔ ∃ o, SerOrd l strict o := by
  constructor
  · rintro ⟨hW, hc⟩
    exact ⟨_, (no_cyc_topo (prs_in l strict) hc).2.ser hD hW⟩
  · rintro ⟨o, ho⟩
    obtain ⟨f, hf⟩ := ho.rank hD hwf
    exact ⟨ho.writ, acyc_cycle (prs_in l strict) f hf⟩
end

structure SerV where
  check : Int
  cls : Int
  arg : Int
  ord : List Int
  ed : List EdV
  deriving DecidableEq
def writB (l : List OpV) (key v : Int) : Bool := l.any fun o => decide (o.k = 2) && decide (o.key = key) && decide (o.arg = v)
def thinB (l : List OpV) (v : Nat) : Bool := incl22 (nth l v) && decide ((nth l v).res ≠ 0) && !writB l (nth l v).key (nth l v).res
def firstN (p : Nat → Bool) : Nat → Nat → Option Nat
  | 0, _ => none
  | k + 1, i => if p i = true then some i else firstN p k (i + 1)
theorem firstN_some {p : Nat → Bool} : ∀ {k i v : Nat}, firstN p k i = some v → i ≤ v ∧ v < i + k ∧ p v = true
  | 0, _, _, h => by cases h
  | k + 1, i, v, h => by
    unfold firstN at h
    split at h
    · rename_i hp
      injection h with h
      subst h
      exact ⟨Nat.le_refl _, by omega, hp⟩
    · obtain ⟨h1, h2, h3⟩ := firstN_some h
      exact ⟨by omega, by omega, h3⟩
theorem firstN_none {p : Nat → Bool} : ∀ {k i : Nat}, firstN p k i = none → ∀ v, i ≤ v → v < i + k → p v = false
  | 0, _, _, v, _, _ => by omega
  | k + 1, i, h, v, h1, h2 => by
    unfold firstN at h
    split at h
    · cases h
    · rename_i hp
      by_cases e : v = i
      · subst e; simpa using hp
      · exact firstN_none h v (by omega) (by omega)
theorem writB_iff {l : List OpV} {key v : Int} : writB l key v = true ↔ ∃ w, w < l.length ∧ (nth l w).k = 2 ∧ (nth l w).key = key ∧ (nth l w).arg = v := by
  unfold writB
  rw [List.any_eq_true]
  constructor
  · rintro ⟨o, ho, h⟩
    obtain ⟨w, hw, rfl⟩ := List.getElem_of_mem ho
    simp only [Bool.and_eq_true, decide_eq_true_eq] at h
    exact ⟨w, hw, by rw [nth_eq hw]; exact h.1.1, by rw [nth_eq hw]; exact h.1.2, by rw [nth_eq hw]; exact h.2⟩
  · rintro ⟨w, hw, h1, h2, h3⟩
    exact ⟨_, nth_mem hw, by simp [h1, h2, h3]⟩
def thin22 (l : List OpV) : Option Nat := firstN (thinB l) l.length 0
theorem thin22_none {l : List OpV} : thin22 l = none ↔ Writ l := by
  constructor
  · intro h v hv hi hr
    have := firstN_none h v (Nat.zero_le _) (by omega)
    unfold thinB at this
    rw [hi] at this
    simp only [Bool.true_and, Bool.and_eq_false_iff, decide_eq_false_iff_not, Bool.not_eq_false'] at this
    rcases this with h1 | h1
    · exact absurd hr h1
    · exact writB_iff.1 h1
  · intro hW
    cases h : thin22 l with
    | none => rfl
    | some v =>
      obtain ⟨_, h2, h3⟩ := firstN_some h
      unfold thinB at h3
      simp only [Bool.and_eq_true, decide_eq_true_eq, Bool.not_eq_true'] at h3
      have := writB_iff.2 (hW v (by omega) h3.1.1 h3.1.2)
      rw [h3.2] at this
      cases this
def hd0 (l : List Int) : Int := nth l 0
def cycE (l : List OpV) (strict : Bool) (c : List Int) (k : Nat) : List EdV := (List.range k).map fun i => ((nth c i).toNat, (nth c ((i + 1) % c.length)).toNat, hd0 (why22 l strict (nth c i).toNat (nth c ((i + 1) % c.length)).toNat))
def cOf (strict : Bool) : Int := if strict = true then 4 else 3
def cyc22 (l : List OpV) (strict : Bool) : List Int := rCycle (prs (edges22 l strict)) l.length
def ord22 (l : List OpV) (strict : Bool) : List Int := (topoEnd l.length (prs (edges22 l strict))).filter fun x => incl22 (nth l x.toNat)
def serV (l : List OpV) (strict : Bool) : SerV :=
  match thin22 l with
  | some v => ⟨cOf strict, 2, (nth l v).key, [(v : Int)], []⟩
  | none => if cyc22 l strict = [] then ⟨cOf strict, 0, 0, ord22 l strict, []⟩ else ⟨cOf strict, 5, (nth l (nth (cyc22 l strict) 0).toNat).key, [], cycE l strict (cyc22 l strict) (cyc22 l strict).length⟩
theorem serV_holds {l : List OpV} {strict : Bool} : (serV l strict).cls = 0 ↔ thin22 l = none ∧ cyc22 l strict = [] := by
  unfold serV
  cases thin22 l with
  | some v => simp
  | none =>
    by_cases h : cyc22 l strict = []
    · simp [h]
    · simp [h]
theorem serV_iff {l : List OpV} {strict : Bool} (hD : Dom22 l) (hwf : ∀ i, i < l.length → (nth l i).call < (nth l i).ret) : (serV l strict).cls = 0 ↔ ∃ o, SerOrd l strict o := by
  rw [serV_holds, thin22_none]
  exact ser_iff hD hwf
end Go.Proofs.Ytfegkbmnclhljaa
