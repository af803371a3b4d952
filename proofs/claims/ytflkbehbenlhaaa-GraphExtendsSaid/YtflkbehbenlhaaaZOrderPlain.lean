/-
  A relation along which a rank rises has a topological order and no cycle; real time is one.
-/
import Derived.Test.YtflkbehbenlhaaaZM
import Derived.Test.YtflkbehbenlhaaaZCycRef
import Derived.Test.YtflkbehbenlhaaaZG
namespace Go.Proofs.Ytflkbehbenlhaaa
set_option linter.unusedVariables false

theorem all_len : ∀ (n : Nat) (out : List Int), (∀ v : Nat, v < n → (v : Int) ∈ out) → n ≤ out.length
  | 0, _, _ => Nat.zero_le _
  | n + 1, out, h => by
    have hn := h n (Nat.lt_succ_self n)
    have := all_len n (out.erase (n : Int)) fun v hv => by
      have hm := h v (by omega)
      exact (List.mem_erase_of_ne (by omega)).2 hm
    rw [List.length_erase_of_mem hn] at this
    have := List.length_pos_of_mem hn
    omega
theorem acyc_topo {n : Nat} {E : List (Nat × Nat)} (h : InN n E) (f : Nat → Nat) (hf : ∀ e ∈ E, f e.1 < f e.2) : (topoEnd n E).length = n := by
  obtain ⟨hh, hT⟩ := topoIter_end h (n + 1) (topoStart n E) (TI.start h) (by show n < 0 + (n + 1); omega)
  have hle := hT.le
  have hall : ∀ (m v : Nat), f v ≤ m → v < n → (v : Int) ∈ (topoIter E (n + 1) (topoStart n E)).out := by
    intro m
    induction m with
    | zero =>
      intro v hv hvn
      refine Classical.byContradiction fun hno => ?_
      have hc : cntP n E (topoIter E (n + 1) (topoStart n E)).out v = 0 := by
        refine List.countP_eq_zero.2 fun u hu q => ?_
        simp only [Bool.and_eq_true, decide_eq_true_eq] at q
        obtain ⟨e, he, h1, h2⟩ := succs_mem.1 q.2
        have := hf e he
        have h3 : e.2 = v := by omega
        rw [h3] at this
        omega
      have := (hT.hM (v : Int)).2 ⟨by omega, hno, by rw [Int.toNat_natCast, hT.cnt v hvn, hc]; rfl⟩
      rw [hh] at this; cases this
    | succ m ih =>
      intro v hv hvn
      refine Classical.byContradiction fun hno => ?_
      have hc : cntP n E (topoIter E (n + 1) (topoStart n E)).out v = 0 := by
        refine List.countP_eq_zero.2 fun u hu q => ?_
        simp only [Bool.and_eq_true, decide_eq_true_eq] at q
        obtain ⟨e, he, h1, h2⟩ := succs_mem.1 q.2
        have h3 := hf e he
        have h4 : e.2 = v := by omega
        rw [h4] at h3
        subst h1
        exact q.1 (ih e.1 (by omega) (h e he).1)
      have := (hT.hM (v : Int)).2 ⟨by omega, hno, by rw [Int.toNat_natCast, hT.cnt v hvn, hc]; rfl⟩
      rw [hh] at this; cases this
  have := all_len n _ fun v hv => hall (f v) v (Nat.le_refl _) hv
  show (topoIter E (n + 1) (topoStart n E)).out.length = n
  omega
theorem acyc_rt {n : Nat} {E : List (Nat × Nat)} (h : InN n E) (f : Nat → Nat) (hf : ∀ e ∈ E, f e.1 < f e.2) : rtK E n n [] = some (topoEnd n E) ∧ (topoEnd n E).length = n := by
  have hl := acyc_topo h f hf
  rw [topo_eq h, if_neg (by omega)]
  exact ⟨rfl, hl⟩
theorem wx_rank {n : Nat} {E : List (Nat × Nat)} (f : Nat → Nat) (hf : ∀ e ∈ E, f e.1 < f e.2) {s : Nat} : ∀ (k v : Nat), Wx n E s (k + 1) v → f v < f s
  | 0, v, hx => by
    obtain ⟨e, he, h1, h2⟩ := succs_mem.1 (show (s : Int) ∈ succs E v from hx)
    have := hf e he
    rw [h1, show e.2 = s by omega] at this; exact this
  | k + 1, v, hx => by
    obtain ⟨w, _, hm, _, hxw⟩ := hx
    obtain ⟨e, he, h1, h2⟩ := succs_mem.1 hm
    have h3 := hf e he
    rw [h1, show e.2 = w by omega] at h3
    have := wx_rank f hf k w hxw
    omega
theorem acyc_cycle {n : Nat} {E : List (Nat × Nat)} (h : InN n E) (f : Nat → Nat) (hf : ∀ e ∈ E, f e.1 < f e.2) : rCycle E n = [] := by
  refine cycFrom_nil n 1 fun l h1 h2 => cycRow_nil n 0 fun u _ hu => ?_
  obtain ⟨l, rfl⟩ : ∃ l', l = l' + 1 := ⟨l - 1, by omega⟩
  refine Classical.byContradiction fun hne => ?_
  have := wx_rank f hf l u ((walks_iff h (by omega) l u (by omega)).1 hne)
  omega
def rowE (h : List OpV) (i k : Nat) : List (Nat × Nat) := ((List.range k).filter fun b => bef h i b).map fun b => (i, b)
def edgesTo (h : List OpV) (n i : Nat) : List (Nat × Nat) := (List.range i).flatMap fun a => rowE h a n
theorem rowE_succ (h : List OpV) (i k : Nat) : rowE h i (k + 1) = rowE h i k ++ if bef h i k = true then [(i, k)] else [] := by
  unfold rowE
  rw [List.range_succ, List.filter_append, List.map_append]
  congr 1
  by_cases e : bef h i k = true
  · simp [e]
  · simp [e]
theorem edgesTo_succ (h : List OpV) (n i : Nat) : edgesTo h n (i + 1) = edgesTo h n i ++ rowE h i n := by
  unfold edgesTo
  rw [List.range_succ, List.flatMap_append]
  simp
theorem rowE_len (h : List OpV) (i k : Nat) : (rowE h i k).length ≤ k := by
  unfold rowE
  rw [List.length_map]
  exact Nat.le_trans (List.length_filter_le _ _) (by simp)
theorem edgesTo_len (h : List OpV) (n : Nat) : ∀ i, (edgesTo h n i).length ≤ i * n
  | 0 => by simp [edgesTo]
  | i + 1 => by
    rw [edgesTo_succ, List.length_append, Nat.succ_mul]
    have := edgesTo_len h n i
    have := rowE_len h i n
    omega
theorem edgesTo_mem {h : List OpV} {n i : Nat} {e : Nat × Nat} (he : e ∈ edgesTo h n i) : e.1 < i ∧ e.2 < n ∧ bef h e.1 e.2 = true := by
  unfold edgesTo at he
  obtain ⟨a, ha, hm⟩ := List.mem_flatMap.1 he
  unfold rowE at hm
  obtain ⟨b, hb, rfl⟩ := List.mem_map.1 hm
  obtain ⟨h1, h2⟩ := List.mem_filter.1 hb
  exact ⟨List.mem_range.1 ha, List.mem_range.1 h1, h2⟩
theorem bef_iff {h : List OpV} {i k : Nat} : bef h i k = true ↔ (nth h i).done = true ∧ (nth h i).ret < (nth h k).call := by
  unfold bef
  simp
theorem bef_irr {h : List OpV} (g : WFH h) {i : Nat} (hi : i < h.length) : bef h i i = false := by
  cases e : bef h i i with
  | false => rfl
  | true =>
    have h1 := bef_iff.1 e
    have := wfB_call (g.at hi)
    omega
theorem bef_proc {h : List OpV} (g : WFH h) {i k : Nat} (hik : i < k) (hk : k < h.length) (hp : (nth h i).p = (nth h k).p) : bef h i k = true := by
  obtain ⟨h1, h2, h3⟩ := g.pair hik hk
  obtain ⟨q1, q2⟩ := h3 hp
  have := (h2 q1).1
  exact bef_iff.2 ⟨q1, by omega⟩
theorem bef_interval {h : List OpV} {a b c d : Nat} (h1 : bef h a b = true) (h2 : bef h c d = true) (h3 : bef h a d = false) : bef h c b = true := by
  obtain ⟨p1, p2⟩ := bef_iff.1 h1
  obtain ⟨q1, q2⟩ := bef_iff.1 h2
  refine bef_iff.2 ⟨q1, ?_⟩
  have : ¬ (nth h a).ret < (nth h d).call := fun q => by
    have := bef_iff.2 ⟨p1, q⟩
    rw [this] at h3; cases h3
  omega
theorem edges_rank {h : List OpV} (g : WFH h) : ∀ e ∈ edgesTo h h.length h.length, (nth h e.1).call.toNat < (nth h e.2).call.toNat := fun e he => by
  obtain ⟨h1, h2, h3⟩ := edgesTo_mem he
  have h4 := wfB_call (g.at h1)
  have h5 := bef_iff.1 h3
  have h6 : 0 ≤ (nth h e.1).call := by
    have := g.at h1
    simp only [wfB, Bool.and_eq_true, decide_eq_true_eq] at this
    omega
  omega
end Go.Proofs.Ytflkbehbenlhaaa
