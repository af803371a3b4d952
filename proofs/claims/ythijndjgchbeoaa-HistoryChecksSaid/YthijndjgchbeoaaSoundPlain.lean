/-
  The plain law: the operations of observations of sequential processes are a history, one for each invocation.
-/
import Derived.Test.YthijndjgchbeoaaHistPlain
import Derived.Test.YthijndjgchbeoaaHCheck
namespace Go.Proofs.Ythijndjgchbeoaa
set_option linter.unusedVariables false

/-! ### replies and invocations of observations made from numbers -/
/-- what is true of the observations so far, the epochs and the requests that wait -/
structure SeqOk (obs : List ObsV) (ep wt : List Int) : Prop where
  e2 : ep.length = 2
  w2 : wt.length = 2
  node : ∀ i, i < obs.length → 0 ≤ (nth obs i).node ∧ (nth obs i).node < 2
  epo : ∀ i, i < obs.length → (nth obs i).epoch ≤ nth ep (nth obs i).node.toNat
  /-- an invocation of the current epoch that does not wait has been answered -/
  ans : ∀ i, i < obs.length → (nth obs i).reply = false → (nth obs i).epoch = nth ep (nth obs i).node.toNat → (nth obs i).req ≠ nth wt (nth obs i).node.toNat →
    ∃ k, i < k ∧ k < obs.length ∧ (nth obs k).reply = true ∧ (nth obs k).req = (nth obs i).req
  /-- no request is answered twice -/
  one : ∀ k m, k < m → m < obs.length → (nth obs k).reply = true → (nth obs m).reply = true → (nth obs k).req ≠ (nth obs m).req
  /-- between two invocations of a process the first is answered -/
  btw : ∀ i j, i < j → j < obs.length → (nth obs i).reply = false → (nth obs j).reply = false → (nth obs i).node = (nth obs j).node → (nth obs i).epoch = (nth obs j).epoch →
    ∃ k, i < k ∧ k < j ∧ (nth obs k).reply = true ∧ (nth obs k).req = (nth obs i).req
  /-- what waits has not been answered -/
  wait : ∀ p, p < 2 → 0 ≤ nth wt p → ∀ k, k < obs.length → (nth obs k).reply = true → (nth obs k).req ≠ nth wt p

theorem nth_snoc_lt {α : Type} [Inhabited α] {l : List α} {a : α} {i : Nat} (h : i < l.length) : nth (l ++ [a]) i = nth l i := nth_append_left h
theorem two_cases {l : List Int} (h : l.length = 2) (p q : Nat) (hp : p < 2) (hq : q < 2) (hpq : p ≠ q) (x : Int) : nth (l.set p x) q = nth l q := nth_set_other hpq

theorem SeqOk.crash {obs : List ObsV} {ep wt : List Int} (h : SeqOk obs ep wt) {p : Nat} (hp : p < 2) : SeqOk obs (ep.set p (nth ep p + 1)) (wt.set p (-1)) := by
  have hep : ∀ q, q < 2 → nth ep q ≤ nth (ep.set p (nth ep p + 1)) q := fun q hq => by
    by_cases hpq : p = q
    · subst hpq; rw [nth_set_same (by rw [h.e2]; exact hp)]; omega
    · rw [nth_set_other hpq]; exact Int.le_refl _
  refine ⟨by simp [h.e2], by simp [h.w2], h.node, fun i hi => ?_, fun i hi hr he hw => ?_, h.one, h.btw, fun q hq h0 k hk hr => ?_⟩
  · have := h.epo i hi
    have hn := h.node i hi
    have := hep (nth obs i).node.toNat (by omega)
    omega
  · have hn := h.node i hi
    by_cases hpq : p = (nth obs i).node.toNat
    · rw [← hpq, nth_set_same (by rw [h.e2]; exact hp)] at he
      have := h.epo i hi
      rw [← hpq] at this
      omega
    · rw [nth_set_other hpq] at he hw
      exact h.ans i hi hr he hw
  · by_cases hpq : p = q
    · subst hpq; rw [nth_set_same (by rw [h.w2]; exact hp)] at h0; omega
    · rw [nth_set_other hpq] at h0 ⊢
      exact h.wait q hq h0 k hk hr

theorem SeqOk.call {obs : List ObsV} {ep wt : List Int} (h : SeqOk obs ep wt) (hs : ObsSeq obs) {p : Nat} (hp : p < 2) (hw : nth wt p < 0) (c : Int) (hc : c = invs obs obs.length) :
    SeqOk (obs ++ [⟨false, c, p, nth ep p, 0⟩]) ep (wt.set p c) := by
  have lst : nth (obs ++ [(⟨false, c, p, nth ep p, 0⟩ : ObsV)]) obs.length = ⟨false, c, p, nth ep p, 0⟩ := nth_append_len
  have len : (obs ++ [(⟨false, c, p, nth ep p, 0⟩ : ObsV)]).length = obs.length + 1 := by simp
  have old : ∀ i, i < obs.length → nth (obs ++ [(⟨false, c, p, nth ep p, 0⟩ : ObsV)]) i = nth obs i := fun i hi => nth_snoc_lt hi
  have small : ∀ i, i < obs.length → 0 ≤ (nth obs i).req ∧ (nth obs i).req < c := fun i hi => by
    have := hs i hi
    have hm : invs obs (i + 1) ≤ invs obs obs.length := by
      have mono : ∀ a b, a ≤ b → invs obs a ≤ invs obs b := fun a b hab => by
        induction b with
        | zero => have : a = 0 := by omega
                  subst this; exact Nat.le_refl _
        | succ b ih =>
          rcases Nat.lt_or_ge a (b + 1) with h1 | h1
          · exact Nat.le_trans (ih (by omega)) (by simp only [invs]; omega)
          · have : a = b + 1 := by omega
            subst this; exact Nat.le_refl _
      exact mono _ _ (by omega)
    cases hr : (nth obs i).reply with
    | true => rw [if_pos hr] at this; simp only [invs, hr, if_true, Nat.add_zero] at hm; omega
    | false => rw [if_neg (by simp [hr])] at this; simp only [invs, hr] at hm; simp at hm; omega
  refine ⟨h.e2, by simp [h.w2], fun i hi => ?_, fun i hi => ?_, fun i hi hr he hw2 => ?_, fun k m hkm hm hk1 hm1 => ?_, fun i j hij hj hi1 hj1 hn he => ?_, fun q hq h0 k hk hr => ?_⟩
  · rcases Nat.lt_or_ge i obs.length with h1 | h1
    · rw [old i h1]; exact h.node i h1
    · have : i = obs.length := by omega
      subst this; rw [lst]; dsimp only; omega
  · rcases Nat.lt_or_ge i obs.length with h1 | h1
    · rw [old i h1]; exact h.epo i h1
    · have : i = obs.length := by omega
      subst this; rw [lst]; simp
  · rcases Nat.lt_or_ge i obs.length with h1 | h1
    · rw [old i h1] at hr he hw2 ⊢
      have hn := h.node i h1
      have hne : (nth obs i).req ≠ nth wt (nth obs i).node.toNat := by
        by_cases hpq : p = (nth obs i).node.toNat
        · rw [← hpq]; have := (small i h1).1; omega
        · rwa [nth_set_other hpq] at hw2
      obtain ⟨k, h2, h3, h4, h5⟩ := h.ans i h1 hr he hne
      exact ⟨k, h2, by omega, by rw [old k h3]; exact h4, by rw [old k h3]; exact h5⟩
    · have : i = obs.length := by omega
      subst this; rw [lst] at hw2
      simp only [Int.toNat_natCast] at hw2
      rw [nth_set_same (by rw [h.w2]; exact hp)] at hw2
      exact absurd rfl hw2
  · rcases Nat.lt_or_ge m obs.length with h1 | h1
    · rw [old m h1] at hm1 ⊢; rw [old k (by omega)] at hk1 ⊢
      exact h.one k m hkm h1 hk1 hm1
    · have : m = obs.length := by omega
      subst this; rw [lst] at hm1; simp at hm1
  · rcases Nat.lt_or_ge j obs.length with h1 | h1
    · rw [old j h1] at hj1 hn he; rw [old i (by omega)] at hi1 hn he ⊢
      obtain ⟨k, h2, h3, h4, h5⟩ := h.btw i j hij h1 hi1 hj1 hn he
      exact ⟨k, h2, h3, by rw [old k (by omega)]; exact h4, by rw [old k (by omega)]; exact h5⟩
    · have : j = obs.length := by omega
      subst this; rw [lst] at hn he; rw [old i hij] at hi1 hn he ⊢
      dsimp only at hn he
      have hp2 : (nth obs i).node.toNat = p := by omega
      obtain ⟨k, h2, h3, h4, h5⟩ := h.ans i hij hi1 (by rw [hp2]; exact he) (by rw [hp2]; have := (small i hij).1; omega)
      exact ⟨k, h2, h3, by rw [old k h3]; exact h4, by rw [old k h3]; exact h5⟩
  · rcases Nat.lt_or_ge k obs.length with h1 | h1
    · rw [old k h1] at hr ⊢
      by_cases hpq : p = q
      · subst hpq; rw [nth_set_same (by rw [h.w2]; exact hp)]; have := (small k h1).2; omega
      · rw [nth_set_other hpq] at h0 ⊢; exact h.wait q hq h0 k h1 hr
    · have : k = obs.length := by omega
      subst this; rw [lst] at hr; simp at hr

theorem SeqOk.reply {obs : List ObsV} {ep wt : List Int} (h : SeqOk obs ep wt) {p : Nat} (hp : p < 2) (hw : 0 ≤ nth wt p) (v : Int)
    (hdiff : ∀ q, q < 2 → q ≠ p → nth wt q ≠ nth wt p) : SeqOk (obs ++ [⟨true, nth wt p, p, nth ep p, v⟩]) ep (wt.set p (-1)) := by
  have lst : nth (obs ++ [(⟨true, nth wt p, p, nth ep p, v⟩ : ObsV)]) obs.length = ⟨true, nth wt p, p, nth ep p, v⟩ := nth_append_len
  have len : (obs ++ [(⟨true, nth wt p, p, nth ep p, v⟩ : ObsV)]).length = obs.length + 1 := by simp
  have old : ∀ i, i < obs.length → nth (obs ++ [(⟨true, nth wt p, p, nth ep p, v⟩ : ObsV)]) i = nth obs i := fun i hi => nth_snoc_lt hi
  refine ⟨h.e2, by simp [h.w2], fun i hi => ?_, fun i hi => ?_, fun i hi hr he hw2 => ?_, fun k m hkm hm hk1 hm1 => ?_, fun i j hij hj hi1 hj1 hn he => ?_, fun q hq h0 k hk hr => ?_⟩
  · rcases Nat.lt_or_ge i obs.length with h1 | h1
    · rw [old i h1]; exact h.node i h1
    · have : i = obs.length := by omega
      subst this; rw [lst]; dsimp only; omega
  · rcases Nat.lt_or_ge i obs.length with h1 | h1
    · rw [old i h1]; exact h.epo i h1
    · have : i = obs.length := by omega
      subst this; rw [lst]; simp
  · rcases Nat.lt_or_ge i obs.length with h1 | h1
    · rw [old i h1] at hr he hw2 ⊢
      have hn := h.node i h1
      by_cases hx : (nth obs i).req = nth wt (nth obs i).node.toNat
      · by_cases hpq : p = (nth obs i).node.toNat
        · exact ⟨obs.length, h1, by omega, by rw [lst], by rw [lst]; dsimp only; rw [hx, ← hpq]⟩
        · rw [nth_set_other hpq] at hw2; exact absurd hx hw2
      · obtain ⟨k, h2, h3, h4, h5⟩ := h.ans i h1 hr he hx
        exact ⟨k, h2, by omega, by rw [old k h3]; exact h4, by rw [old k h3]; exact h5⟩
    · have : i = obs.length := by omega
      subst this; rw [lst] at hr; simp at hr
  · rcases Nat.lt_or_ge m obs.length with h1 | h1
    · rw [old m h1] at hm1 ⊢; rw [old k (by omega)] at hk1 ⊢
      exact h.one k m hkm h1 hk1 hm1
    · have : m = obs.length := by omega
      subst this; rw [lst]; rw [old k hkm] at hk1 ⊢
      exact h.wait p hp hw k hkm hk1
  · rcases Nat.lt_or_ge j obs.length with h1 | h1
    · rw [old j h1] at hj1 hn he; rw [old i (by omega)] at hi1 hn he ⊢
      obtain ⟨k, h2, h3, h4, h5⟩ := h.btw i j hij h1 hi1 hj1 hn he
      exact ⟨k, h2, h3, by rw [old k (by omega)]; exact h4, by rw [old k (by omega)]; exact h5⟩
    · have : j = obs.length := by omega
      subst this; rw [lst] at hj1; simp at hj1
  · by_cases hpq : p = q
    · subst hpq; rw [nth_set_same (by rw [h.w2]; exact hp)] at h0; omega
    · rw [nth_set_other hpq] at h0 ⊢
      rcases Nat.lt_or_ge k obs.length with h1 | h1
      · rw [old k h1] at hr ⊢; exact h.wait q hq h0 k h1 hr
      · have : k = obs.length := by omega
        subst this; rw [lst]; exact fun e => hdiff q hq (fun e => hpq e.symm) e.symm

/-- the requests that wait are different -/
def WtOk (wt : List Int) : Prop := 0 ≤ nth wt 0 → nth wt 0 ≠ nth wt 1
theorem obTo_seqOk (l : List Int) (k : Nat) : SeqOk (obTo l k).obs (obTo l k).ep (obTo l k).wt ∧ WtOk (obTo l k).wt := by
  induction k with
  | zero => exact ⟨⟨rfl, rfl, by simp [obTo, loopN, obInit], by simp [obTo, loopN, obInit], by simp [obTo, loopN, obInit], by simp [obTo, loopN, obInit], by simp [obTo, loopN, obInit], by simp [obTo, loopN, obInit]⟩, by show WtOk [-1, -1]; unfold WtOk; decide⟩
  | succ k ih =>
    have hg := obTo_good l k
    have hs : obTo l (k + 1) = obStep l k (obTo l k) := rfl
    rw [hs]
    generalize obTo l k = s at ih hg
    unfold obStep
    generalize around (nth l k) 1000000 = n
    have hp : (n % 2).toNat < 2 := by omega
    generalize (n % 2).toNat = p at hp
    obtain ⟨h, hwt⟩ := ih
    have hw2 := hg.ok.w2
    have hlt : ∀ q, q < 2 → nth s.wt q < s.reqs.length := fun q hq => (hg.ok.wt _ (nth_mem (by omega))).2
    have wset : ∀ x : Int, (0 ≤ x → nth s.wt (1 - p) ≠ x) → WtOk (s.wt.set p x) := fun x hx h0 => by
      match p, hp with
      | 0, _ =>
        rw [nth_set_same (by omega)] at h0 ⊢
        rw [nth_set_other (by omega)]
        exact fun e => hx h0 e.symm
      | 1, _ =>
        rw [nth_set_other (by omega)] at h0 ⊢
        rw [nth_set_same (by omega)]
        intro e
        exact hx (by omega) e
    by_cases hc : n / 2 % 9 = 8
    · rw [obNum_crash hc]
      exact ⟨h.crash hp, wset _ (fun h => by omega)⟩
    · by_cases hw : nth s.wt p < 0
      · rw [obNum_call hc hw]
        exact ⟨h.call hg.seq hp hw _ (by rw [hg.cnt]), wset _ (fun _ e => by have := hlt (1 - p) (by omega); omega)⟩
      · rw [obNum_reply hc hw]
        refine ⟨h.reply hp (by omega) _ (fun q hq hqp e => ?_), wset _ (fun h => by omega)⟩
        unfold WtOk at hwt
        match p, q, hp, hq with
        | 0, 0, _, _ => exact hqp rfl
        | 1, 1, _, _ => exact hqp rfl
        | 0, 1, _, _ => exact hwt (by omega) e.symm
        | 1, 0, _, _ => exact hwt (by omega) e

/-! ### what an operation looks like -/
def Answers (obs : List ObsV) (i K : Nat) : Prop := (nth obs K).reply = true ∧ (nth obs K).req = (nth obs i).req
theorem opTo_spec (obs : List ObsV) (reqs : List ReqV) (i : Nat) : ∀ m, i + 1 ≤ m →
    (loopFT (opStep obs i) (opBase obs reqs i) (i + 1) m).p = 12 * (nth obs i).epoch + (nth obs i).node ∧
    (loopFT (opStep obs i) (opBase obs reqs i) (i + 1) m).k = (nth reqs (nth obs i).req.toNat).op ∧
    (loopFT (opStep obs i) (opBase obs reqs i) (i + 1) m).call = i ∧
    (((loopFT (opStep obs i) (opBase obs reqs i) (i + 1) m).done = false ∧ (loopFT (opStep obs i) (opBase obs reqs i) (i + 1) m).ret = obs.length ∧ (loopFT (opStep obs i) (opBase obs reqs i) (i + 1) m).res = 0 ∧ ∀ K, i < K → K < m → ¬ Answers obs i K) ∨
     ((loopFT (opStep obs i) (opBase obs reqs i) (i + 1) m).done = true ∧ ∃ K, i < K ∧ K < m ∧ Answers obs i K ∧ (loopFT (opStep obs i) (opBase obs reqs i) (i + 1) m).ret = K)) := by
  intro m hm
  induction m with
  | zero => omega
  | succ m ih =>
    rcases Nat.lt_or_ge i m with h | h
    · obtain ⟨h1, h2, h3, h4⟩ := ih (by omega)
      rw [loopFT_step _ _ (by omega)]
      generalize loopFT (opStep obs i) (opBase obs reqs i) (i + 1) m = o at *
      by_cases hc : (nth obs m).reply = true ∧ (nth obs m).req = (nth obs i).req
      · rw [opStep_yes hc.1 hc.2]
        exact ⟨h1, h2, h3, .inr ⟨rfl, m, h, by omega, hc, rfl⟩⟩
      · rw [opStep_no hc]
        refine ⟨h1, h2, h3, ?_⟩
        rcases h4 with ⟨a, b, c, d⟩ | ⟨a, K, b, c, d⟩
        · refine .inl ⟨a, b, c, fun K hK1 hK2 hK3 => ?_⟩
          rcases Nat.lt_or_ge K m with hlt | hge
          · exact d K hK1 hlt hK3
          · have : K = m := by omega
            subst this; exact hc hK3
        · exact .inr ⟨a, K, b, by omega, d⟩
    · have : m = i := by omega
      subst this
      rw [loopFT_lo]
      exact ⟨rfl, rfl, rfl, .inl ⟨rfl, rfl, rfl, fun K h1 h2 => by omega⟩⟩

theorem lastOf_some {l : List OpV} : ∀ {k : Nat} {p : Int} {o : OpV}, lastOf l k p = some o → ∃ m, m < k ∧ nth l m = o ∧ o.p = p
  | 0, _, _, h => by simp [lastOf] at h
  | k + 1, p, o, h => by
    simp only [lastOf] at h
    split at h
    · rename_i hp
      injection h with h
      exact ⟨k, by omega, h, by rw [← h, hp]⟩
    · obtain ⟨m, h1, h2⟩ := lastOf_some h
      exact ⟨m, by omega, h2⟩
theorem callsOf_lt (obs : List ObsV) (k : Nat) {a b : Nat} (hab : a < b) (hb : b < (callsOf obs k).length) : (callsOf obs k)[a] < (callsOf obs k)[b] := by
  have h : (callsOf obs k).Pairwise (· < ·) := List.Pairwise.filter _ List.pairwise_lt_range
  exact List.pairwise_iff_getElem.1 h a b (by omega) hb hab
theorem any_take {l : List OpV} {k : Nat} {f : OpV → Bool} (h : (l.take k).any f = true) : ∃ m, m < k ∧ m < l.length ∧ f (nth l m) = true := by
  obtain ⟨o, ho, hf⟩ := List.any_eq_true.1 h
  obtain ⟨m, hm, rfl⟩ := List.getElem_of_mem ho
  have hm' : m < k ∧ m < l.length := by simp at hm; omega
  refine ⟨m, hm'.1, hm'.2, ?_⟩
  rw [nth_eq hm'.2]
  simpa using hf

theorem hCheckFrom_zero {l : List OpV} : ∀ (n k : Nat), (∀ j, k ≤ j → j < k + n → errK l j = 0) → hCheckFrom l k n = 0
  | 0, _, _ => rfl
  | n + 1, k, h => by
    rw [hCheckFrom_ok (h k (Nat.le_refl _) (by omega))]
    exact hCheckFrom_zero n (k + 1) fun j h1 h2 => h j (by omega) (by omega)

/-- the requests are of the five kinds -/
theorem obTo_reqs (l : List Int) (k : Nat) : ∀ r ∈ (obTo l k).reqs, 0 ≤ r.op ∧ r.op ≤ 4 := by
  induction k with
  | zero => simp [obTo, loopN, obInit]
  | succ k ih =>
    have hs : obTo l (k + 1) = obStep l k (obTo l k) := rfl
    rw [hs]
    generalize obTo l k = s at ih
    unfold obStep
    have hn := around_lo (n := nth l k) (most := 1000000) (by omega)
    generalize around (nth l k) 1000000 = n at hn
    generalize (n % 2).toNat = p
    by_cases hc : n / 2 % 9 = 8
    · rw [obNum_crash hc]; exact ih
    · by_cases hw : nth s.wt p < 0
      · rw [obNum_call hc hw]
        intro r hr
        simp only [List.mem_append, List.mem_singleton] at hr
        rcases hr with hr | rfl
        · exact ih r hr
        · dsimp only; omega
      · rw [obNum_reply hc hw]; exact ih

theorem hOf_history (l : List Int) : hCheck (hOf (observed l).obs (observed l).reqs) = 0 := by
  have hgood := obTo_good l (min l.length 30)
  have hseqok := (obTo_seqOk l (min l.length 30)).1
  have hreqs := obTo_reqs l (min l.length 30)
  have hs := observed_seq l
  have e : observed l = obTo l (min l.length 30) := rfl
  rw [← e] at hgood hseqok hreqs
  generalize (observed l).ep = ep at hseqok
  generalize (observed l).wt = wt at hseqok
  have hcnt := hgood.cnt
  have hlo : (observed l).obs.length ≤ 30 := by have := hgood.ok.lo; omega
  have hall := hgood.all
  generalize hobs : (observed l).obs = obs at *
  generalize (observed l).reqs = reqs at *
  clear hgood e hobs
  have heq : hOf obs reqs = (callsOf obs obs.length).map fun i => loopFT (opStep obs i) (opBase obs reqs i) (i + 1) obs.length := hOfTo_eq obs reqs hs _ (Nat.le_refl _)
  have hlen : (hOf obs reqs).length = (callsOf obs obs.length).length := by rw [heq, List.length_map]
  have hcl : (callsOf obs obs.length).length ≤ obs.length := by rw [callsOf_len]; exact invs_le _ _
  have at_ : ∀ j (hj : j < (callsOf obs obs.length).length), ∃ i, i < obs.length ∧ (callsOf obs obs.length)[j] = i ∧ (nth obs i).reply = false ∧ (nth obs i).req = j ∧ nth (hOf obs reqs) j = loopFT (opStep obs i) (opBase obs reqs i) (i + 1) obs.length := by
    intro j hj
    obtain ⟨c1, c2, c3⟩ := callsOf_at obs obs.length j hj
    refine ⟨_, c2, rfl, c3, ?_, ?_⟩
    · have := hs _ c2
      rw [if_neg (by rw [c3]; simp), c1] at this
      exact this
    · rw [nth_eq (by rw [hlen]; exact hj)]
      simp only [heq, List.getElem_map]
  have hc : hCheck (hOf obs reqs) = hCheckFrom (hOf obs reqs) 0 (hOf obs reqs).length := by
    rw [hCheck, if_neg (by omega)]
  rw [hc]
  refine hCheckFrom_zero _ _ fun j _ hj => ?_
  have hj' : j < (callsOf obs obs.length).length := by omega
  obtain ⟨i, hi, hci, hrep, hreq, hop⟩ := at_ j hj'
  obtain ⟨s1, s2, s3, s4⟩ := opTo_spec obs reqs i obs.length (by omega)
  rw [← hop] at s1 s2 s3 s4
  have ha := hall _ (nth_mem hi)
  have hr2 := hreqs _ (nth_mem (l := reqs) (i := (nth obs i).req.toNat) (by omega))
  have hwf : wfB (nth (hOf obs reqs) j) = true := by
    simp only [wfB, Bool.and_eq_true, decide_eq_true_eq, Bool.or_eq_true]
    rcases s4 with ⟨d1, d2, d3, _⟩ | ⟨d1, K, d2, d3, d4, d5⟩
    · exact ⟨⟨⟨⟨⟨by omega, by omega⟩, by omega⟩, by omega⟩, by omega⟩, .inr d3⟩
    · exact ⟨⟨⟨⟨⟨by omega, by omega⟩, by omega⟩, by omega⟩, by omega⟩, .inl d1⟩
  unfold errK
  rw [if_neg (by rw [hwf]; simp), if_neg, if_neg, if_neg]
  · rintro ⟨hsome, hbad⟩
    obtain ⟨o, ho⟩ := Option.isSome_iff_exists.1 hsome
    rw [ho] at hbad
    simp only [Option.getD_some] at hbad
    obtain ⟨m, hm, hmo, hmp⟩ := lastOf_some ho
    obtain ⟨i', hi', hci', hrep', hreq', hop'⟩ := at_ m (by omega)
    obtain ⟨t1, t2, t3, t4⟩ := opTo_spec obs reqs i' obs.length (by omega)
    rw [← hop', hmo] at t1 t2 t3 t4
    have hii : i' < i := by rw [← hci, ← hci']; exact callsOf_lt obs _ hm hj'
    have ha' := hall _ (nth_mem hi')
    obtain ⟨K, k1, k2, k3, k4⟩ := hseqok.btw i' i hii hi hrep' hrep (by omega) (by omega)
    rcases t4 with ⟨_, _, _, d4⟩ | ⟨d1, K', d2, d3, d4, d5⟩
    · exact d4 K k1 (by omega) ⟨k3, k4⟩
    · have hKK : K' = K := by
        rcases Nat.lt_trichotomy K K' with h | h | h
        · exact absurd (k4.trans d4.2.symm) (hseqok.one K K' h d3 k3 d4.1)
        · exact h.symm
        · exact absurd (d4.2.trans k4.symm) (hseqok.one K' K h (by omega) d4.1 k3)
      rcases hbad with h | h
      · rw [d1] at h; cases h
      · rw [d5, s3] at h; omega
  · intro hdup
    simp only [Bool.or_eq_true, Bool.and_eq_true] at hdup
    have isReply : ∀ m, m < (hOf obs reqs).length → (nth (hOf obs reqs) m).done = true → ∃ i' K, i' < obs.length ∧ (nth obs i').req = m ∧ K < obs.length ∧ Answers obs i' K ∧ (nth (hOf obs reqs) m).ret = K := by
      intro m hm hd
      obtain ⟨i', hi', hci', hrep', hreq', hop'⟩ := at_ m (by omega)
      obtain ⟨t1, t2, t3, t4⟩ := opTo_spec obs reqs i' obs.length (by omega)
      rw [← hop'] at t4
      rcases t4 with ⟨d1, _⟩ | ⟨_, K, d2, d3, d4, d5⟩
      · rw [d1] at hd; cases hd
      · exact ⟨i', K, hi', hreq', d3, d4, d5⟩
    rcases hdup with h | ⟨hd, h | h⟩
    · obtain ⟨m, h1, h2, h3⟩ := any_take h
      simp only [Bool.and_eq_true, beq_iff_eq] at h3
      obtain ⟨i', K, _, _, hK, hA, hret⟩ := isReply m h2 h3.1
      have : K = i := by rw [hret, s3] at h3; omega
      subst this
      exact absurd (hrep.symm.trans hA.1) (by simp)
    · obtain ⟨m, h1, h2, h3⟩ := any_take h
      simp only [Bool.and_eq_true, beq_iff_eq] at h3
      obtain ⟨i', K, _, hq, hK, hA, hret⟩ := isReply m h2 h3.1
      obtain ⟨i2, K2, _, hq2, hK2, hA2, hret2⟩ := isReply j (by omega) hd
      have : K = K2 := by rw [hret, hret2] at h3; omega
      subst this
      have := hA.2.symm.trans hA2.2
      rw [hq, hq2] at this
      omega
    · obtain ⟨m, h1, h2, h3⟩ := any_take h
      simp only [beq_iff_eq] at h3
      obtain ⟨i', K, _, hq, hK, hA, hret⟩ := isReply j (by omega) hd
      obtain ⟨i2, hi2, hci2, hrep2, hreq2, hop2⟩ := at_ m (by omega)
      obtain ⟨t1, t2, t3, t4⟩ := opTo_spec obs reqs i2 obs.length (by omega)
      rw [← hop2] at t3
      have : K = i2 := by rw [hret, t3] at h3; omega
      subst this
      exact absurd (hrep2.symm.trans hA.1) (by simp)
  · rintro ⟨h0, hle⟩
    obtain ⟨i', hi', hci', hrep', hreq', hop'⟩ := at_ (j - 1) (by omega)
    obtain ⟨t1, t2, t3, t4⟩ := opTo_spec obs reqs i' obs.length (by omega)
    rw [← hop'] at t3
    have hii : i' < i := by rw [← hci, ← hci']; exact callsOf_lt obs _ (by omega) hj'
    rw [s3, t3] at hle
    omega

/-! ### how many are done -/
theorem hOfTo_done (obs : List ObsV) (reqs : List ReqV) (hs : ObsSeq obs) (hone : ∀ k m, k < m → m < obs.length → (nth obs k).reply = true → (nth obs m).reply = true → (nth obs k).req ≠ (nth obs m).req) :
    ∀ k, k ≤ obs.length → (hOfTo obs reqs k).countP (·.done) + invs obs k = k := by
  intro k
  induction k with
  | zero => intro _; rfl
  | succ k ih =>
    intro hk
    have ih := ih (by omega)
    have e : hOfTo obs reqs (k + 1) = hStep obs reqs k (hOfTo obs reqs k) := rfl
    have hq := hs k (by omega)
    have hlen := hOfTo_len obs reqs k
    cases h : (nth obs k).reply with
    | false =>
      rw [e, hStep_call h, List.countP_append]
      simp only [invs, h, List.countP_singleton, opBase]
      simp
      omega
    | true =>
      rw [if_pos h] at hq
      obtain ⟨q, hq2⟩ : ∃ q : Nat, (nth obs k).req = q := ⟨(nth obs k).req.toNat, by omega⟩
      have hql : q < (hOfTo obs reqs k).length := by omega
      rw [e, hStep_reply h hq2, List.countP_set hql]
      have hnd : ((hOfTo obs reqs k)[q]).done = false := by
        have heq := hOfTo_eq obs reqs hs k (by omega)
        have hqc : q < (callsOf obs k).length := by rw [callsOf_len]; omega
        obtain ⟨c1, c2, c3⟩ := callsOf_at obs k q hqc
        have hr := hs _ (show (callsOf obs k)[q] < obs.length by omega)
        rw [if_neg (by rw [c3]; simp), c1] at hr
        obtain ⟨_, _, _, s4⟩ := opTo_spec obs reqs (callsOf obs k)[q] k (by omega)
        simp only [heq, List.getElem_map]
        rcases s4 with ⟨d, _⟩ | ⟨_, K, d2, d3, d4, _⟩
        · exact d
        · exact absurd (d4.2.trans (hr.trans hq2.symm)) (hone K k d3 (by omega) d4.1 h)
      simp only [hnd, invs, h]
      simp
      omega
theorem hOf_done (l : List Int) : (hOf (observed l).obs (observed l).reqs).countP (·.done) + (hOf (observed l).obs (observed l).reqs).length = (observed l).obs.length := by
  have h := hOfTo_done (observed l).obs (observed l).reqs (observed_seq l) (obTo_seqOk l (min l.length 30)).1.one _ (Nat.le_refl _)
  have h2 := hOfTo_len (observed l).obs (observed l).reqs (observed l).obs.length
  unfold hOf
  omega
theorem hOf_len (l : List Int) : (hOf (observed l).obs (observed l).reqs).length = (observed l).reqs.length := by
  have h2 := hOfTo_len (observed l).obs (observed l).reqs (observed l).obs.length
  have h3 := (obTo_good l (min l.length 30)).cnt
  unfold hOf
  rw [h2]
  exact h3
end Go.Proofs.Ythijndjgchbeoaa
