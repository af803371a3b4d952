/-
  An edge along a topological order, and an edge that closes a path.
-/
import Derived.Test.YtflkbehbenlhaaaZExtPlain
import Derived.Test.YtflkbehbenlhaaaZFmResp
namespace Go.Proofs.Ytflkbehbenlhaaa
set_option linter.unusedVariables false

theorem inN_snoc {n : Nat} {E : List (Nat × Nat)} (h : InN n E) {u v : Nat} (hu : u < n) (hv : v < n) : InN n (E ++ [(u, v)]) := fun e he => by
  rcases List.mem_append.1 he with he | he
  · exact h e he
  · obtain rfl := List.mem_singleton.1 he
    exact ⟨hu, hv⟩
theorem Ord.rank {n : Nat} {E : List (Nat × Nat)} {o : List Int} (h : Ord n E o) : ∃ f : Nat → Nat, ∀ v, v < n → f v < n ∧ nth o (f v) = (v : Int) := by
  refine ⟨fun v => if hv : v < n then (h.pos hv).choose else 0, fun v hv => ?_⟩
  dsimp only
  rw [dif_pos hv]
  exact (h.pos hv).choose_spec
theorem Ord.inj {n : Nat} {E : List (Nat × Nat)} {o : List Int} (h : Ord n E o) {i j : Nat} (hi : i < n) (hj : j < n) (e : nth o i = nth o j) : i = j := by
  have hl := h.len
  rw [nth_eq (by omega), nth_eq (by omega)] at e
  exact (List.getElem_inj h.nd).1 e
theorem Ord.more {n : Nat} {E : List (Nat × Nat)} {o : List Int} (h : Ord n E o) {i j u v : Nat} (hij : i < j) (hj : j < n) (hu : nth o i = (u : Int)) (hv : nth o j = (v : Int)) : Ord n (E ++ [(u, v)]) o where
  len := h.len
  nd := h.nd
  rng := h.rng
  fwd := fun e he a b ha hb e1 e2 => by
    rcases List.mem_append.1 he with he | he
    · exact h.fwd e he a b ha hb e1 e2
    · obtain rfl := List.mem_singleton.1 he
      have := h.inj ha (by omega) (e1.trans hu.symm)
      have := h.inj hb hj (e2.trans hv.symm)
      omega
theorem Ord.rise {n : Nat} {E : List (Nat × Nat)} {o : List Int} (h : Ord n E o) (hE : InN n E) : ∃ f : Nat → Nat, (∀ v, v < n → f v < n) ∧ ∀ e ∈ E, f e.1 < f e.2 := by
  obtain ⟨f, hf⟩ := h.rank
  refine ⟨f, fun v hv => (hf v hv).1, fun e he => ?_⟩
  have h1 := hf _ (hE e he).1
  have h2 := hf _ (hE e he).2
  exact h.fwd e he _ _ h1.1 h2.1 h1.2 h2.2
theorem Ord.topo {n : Nat} {E : List (Nat × Nat)} {o : List Int} (h : Ord n E o) (hE : InN n E) : rtK E n n [] = some (topoEnd n E) ∧ Ord n E (topoEnd n E) := by
  obtain ⟨f, _, hf⟩ := h.rise hE
  obtain ⟨h1, h2⟩ := acyc_rt hE f hf
  exact ⟨h1, topo_ord hE h2⟩
theorem rt_ord {n : Nat} {E : List (Nat × Nat)} (hE : InN n E) {o : List Int} (h : rtK E n n [] = some o) : Ord n E o := by
  rw [topo_eq hE] at h
  split at h
  · cases h
  · rename_i hlt
    cases h
    refine topo_ord hE ?_
    obtain ⟨_, hT⟩ := topoIter_end hE (n + 1) (topoStart n E) (TI.start hE) (by show n < 0 + (n + 1); omega)
    have hle : (topoEnd n E).length ≤ n := hT.le
    omega
theorem has_reach {n : Nat} {E : List (Nat × Nat)} (hE : InN n E) (fr : List Int) {j : Nat} (hj : j < n) : hasB (gReach n E fr) j = true ↔ Rch n E fr j := by
  rw [← seen_iff hE]
  unfold hasB
  rw [decide_eq_true_iff]
  simp only [gReach, outTo, List.mem_map, List.mem_filter, List.mem_range]
  constructor
  · rintro ⟨v, ⟨_, h2⟩, h3⟩
    have : v = j := by omega
    rwa [← this]
  · intro h
    exact ⟨j, ⟨hj, h⟩, rfl⟩
theorem Rch.tg {n : Nat} {E : List (Nat × Nat)} {i j : Nat} (hE : InN n E) (h : Rch n E [(i : Int)] j) : Tg n (E ++ [(j, i)]) 0 j j := by
  have key : ∀ {v}, Rch n E [(i : Int)] v → Tg n (E ++ [(j, i)]) 0 j v := by
    intro v hv
    induction hv with
    | @start v hv hm =>
      have : v = i := by simp at hm; omega
      subst this
      exact .one (succs_mem.2 ⟨(j, v), by simp, rfl, rfl⟩)
    | @step u v hu hm ih =>
      refine ih.trans (hu.lt hE) (Nat.zero_le _) (.one ?_)
      obtain ⟨e, he, h1, h2⟩ := succs_mem.1 hm
      exact succs_mem.2 ⟨e, List.mem_append_left _ he, h1, h2⟩
  exact key h
theorem closing {n : Nat} {E : List (Nat × Nat)} {o : List Int} (h : Ord n E o) (hE : InN n E) {i j : Nat} (hi : i < n) (hj : j < n) :
    (hasB (gReach n E [(i : Int)]) j = true ∧ rtK (E ++ [(j, i)]) n n [] = none ∧ rCycle (E ++ [(j, i)]) n ≠ []) ∨
    (hasB (gReach n E [(i : Int)]) j = false ∧ (∃ q, rtK (E ++ [(j, i)]) n n [] = some q) ∧ rCycle (E ++ [(j, i)]) n = []) := by
  have hC := inN_snoc hE hj hi
  cases hb : hasB (gReach n E [(i : Int)]) j with
  | true =>
    have hr := (has_reach hE _ hj).1 hb
    have hc := cyc_ne hC hj (hr.tg hE)
    refine .inl ⟨rfl, ?_, hc⟩
    cases hq : rtK (E ++ [(j, i)]) n n [] with
    | none => rfl
    | some q =>
      obtain ⟨f, _, hf⟩ := (rt_ord hC hq).rise hC
      exact absurd (acyc_cycle hC f hf) hc
  | false =>
    have hr : ¬ Rch n E [(i : Int)] j := fun hr => by
      rw [(has_reach hE _ hj).2 hr] at hb; cases hb
    obtain ⟨f, hfn, hf⟩ := h.rise hE
    have hg : ∀ e ∈ E ++ [(j, i)], (f e.1 + if hasB (gReach n E [(i : Int)]) e.1 = true then n else 0) < f e.2 + if hasB (gReach n E [(i : Int)]) e.2 = true then n else 0 := by
      intro e he
      rcases List.mem_append.1 he with he | he
      · have h1 := hf e he
        have hin := hE e he
        by_cases hu : Rch n E [(i : Int)] e.1
        · have hv : Rch n E [(i : Int)] e.2 := hu.step (succs_mem.2 ⟨e, he, rfl, rfl⟩)
          rw [if_pos ((has_reach hE _ hin.1).2 hu), if_pos ((has_reach hE _ hin.2).2 hv)]
          omega
        · rw [if_neg (fun q => hu ((has_reach hE _ hin.1).1 q))]
          omega
      · obtain rfl := List.mem_singleton.1 he
        dsimp only
        rw [if_neg (by rw [hb]; decide), if_pos ((has_reach hE _ hi).2 (.start hi (by simp)))]
        have := hfn j hj
        omega
    obtain ⟨g, hgg⟩ : ∃ g : Nat → Nat, ∀ e ∈ E ++ [(j, i)], g e.1 < g e.2 := ⟨fun v => f v + if hasB (gReach n E [(i : Int)]) v = true then n else 0, hg⟩
    obtain ⟨h1, _⟩ := acyc_rt hC g hgg
    exact .inr ⟨rfl, ⟨_, h1⟩, acyc_cycle hC g hgg⟩
end Go.Proofs.Ytflkbehbenlhaaa
