/-
  The verdicts of layer 24, at plain values, and their laws.
-/
import Derived.Test.YthijndjgchbeoaaFmOnce4
import Derived.Test.YthijndjgchbeoaaHistQ
namespace Go.Proofs.Ythijndjgchbeoaa
set_option linter.unusedVariables false
open Go.RowKit

structure VerV where
  chk : Int
  cls : Int
  arg : Int
  order : List Int
  deriving DecidableEq, Inhabited
def VerV.fv (v : VerV) : List FV := [.int .i64 v.chk, .int .i64 v.cls, .int .i64 v.arg, .list 1 (v.order.map intf), .nil]
def verZ : VerV := ⟨0, 0, 0, []⟩

/-- the verdict that an operation shows -/
def verAt (l : List OpV) (i : Nat) : Option VerV :=
  if isDel (nth l i) = false then none
  else if pushIx l (nth l i).key (nth l i).res < 0 then some ⟨7, 12, (nth l i).key, [(i : Int)]⟩
  else if bef l i (pushIx l (nth l i).key (nth l i).res).toNat = true then some ⟨7, 12, (nth l i).key, [(i : Int), pushIx l (nth l i).key (nth l i).res]⟩
  else if firstIx l i < i then some ⟨7, 11, (nth l i).key, [(firstIx l i : Int), (i : Int)]⟩
  else none
def verFrom (l : List OpV) (i : Nat) : Nat → VerV
  | 0 => ⟨7, 0, 0, []⟩
  | n + 1 => (verAt l i).getD (verFrom l (i + 1) n)
def onceV (l : List OpV) : VerV := verFrom l 0 l.length
theorem verFrom_some {l : List OpV} {i : Nat} {v : VerV} (hi : i < l.length) (h : verAt l i = some v) : verFrom l i (l.length - i) = v := by
  rw [show l.length - i = (l.length - (i + 1)) + 1 by omega, verFrom, h]; rfl
theorem verFrom_none {l : List OpV} {i : Nat} (hi : i < l.length) (h : verAt l i = none) : verFrom l i (l.length - i) = verFrom l (i + 1) (l.length - (i + 1)) := by
  rw [show l.length - i = (l.length - (i + 1)) + 1 by omega, verFrom, h]; rfl
theorem verFrom_or (l : List OpV) : ∀ (n i : Nat), ((∀ j, i ≤ j → j < i + n → verAt l j = none) ∧ verFrom l i n = ⟨7, 0, 0, []⟩) ∨ ∃ k, i ≤ k ∧ k < i + n ∧ verAt l k = some (verFrom l i n) ∧ ∀ j, i ≤ j → j < k → verAt l j = none
  | 0, i => .inl ⟨fun j h1 h2 => by omega, rfl⟩
  | n + 1, i => by
    rw [verFrom]
    cases h : verAt l i with
    | some v => exact .inr ⟨i, Nat.le_refl _, by omega, by rw [h]; rfl, fun j h1 h2 => by omega⟩
    | none =>
      have cs : ∀ j, i ≤ j → (i + 1 ≤ j → verAt l j = none) → verAt l j = none := fun j hj hx => by
        rcases Nat.lt_or_ge i j with h1 | h1
        · exact hx h1
        · have : j = i := by omega
          subst this; exact h
      rcases verFrom_or l n (i + 1) with ⟨h1, h2⟩ | ⟨k, h1, h2, h3, h4⟩
      · exact .inl ⟨fun j hj hj2 => cs j hj fun hx => h1 j hx (by omega), h2⟩
      · exact .inr ⟨k, by omega, by omega, h3, fun j hj hj2 => cs j hj fun hx => h4 j hx hj2⟩
theorem onceV_or (l : List OpV) : ((∀ j, j < l.length → verAt l j = none) ∧ onceV l = ⟨7, 0, 0, []⟩) ∨ ∃ k, k < l.length ∧ verAt l k = some (onceV l) ∧ ∀ j, j < k → verAt l j = none := by
  rcases verFrom_or l l.length 0 with ⟨h1, h2⟩ | ⟨k, _, h2, h3, h4⟩
  · exact .inl ⟨fun j hj => h1 j (by omega) (by omega), h2⟩
  · exact .inr ⟨k, by omega, h3, fun j hj => h4 j (by omega) hj⟩

/-! ### what the indices mean -/
theorem pushIx_or (l : List OpV) (key v : Int) : (pushIx l key v = -1 ∧ ∀ j, j < l.length → isPushOf key v (nth l j) = false) ∨ ∃ k : Nat, pushIx l key v = k ∧ k < l.length ∧ isPushOf key v (nth l k) = true ∧ ∀ j, j < k → isPushOf key v (nth l j) = false := by
  unfold pushIx
  cases h : l.findIdx? (isPushOf key v) with
  | none =>
    left
    rw [List.findIdx?_eq_none_iff] at h
    exact ⟨rfl, fun j hj => h _ (nth_mem hj)⟩
  | some k =>
    right
    rw [List.findIdx?_eq_some_iff_getElem] at h
    obtain ⟨h1, h2, h3⟩ := h
    refine ⟨k, rfl, h1, by rw [nth_eq h1]; exact h2, fun j hj => ?_⟩
    have := h3 j hj
    rw [nth_eq (by omega)]
    simpa using this
theorem firstIx_or {l : List OpV} {i : Nat} (hi : i < l.length) : (firstIx l i = i ∧ ∀ j, j < i → isDelOf (nth l i) (nth l j) = false) ∨ (firstIx l i < i ∧ isDelOf (nth l i) (nth l (firstIx l i)) = true ∧ ∀ j, j < firstIx l i → isDelOf (nth l i) (nth l j) = false) := by
  unfold firstIx
  cases h : (l.take i).findIdx? (isDelOf (nth l i)) with
  | none =>
    left
    rw [List.findIdx?_eq_none_iff] at h
    refine ⟨rfl, fun j hj => h _ ?_⟩
    rw [nth_eq (show j < l.length by omega)]
    exact List.mem_take_iff_getElem.2 ⟨j, by omega, rfl⟩
  | some k =>
    right
    rw [List.findIdx?_eq_some_iff_getElem] at h
    obtain ⟨h1, h2, h3⟩ := h
    have h1' : k < i := by simp at h1; omega
    simp only [Option.getD_some]
    refine ⟨h1', by rw [nth_eq (show k < l.length by omega)]; simpa using h2, fun j hj => ?_⟩
    have := h3 j hj
    rw [nth_eq (show j < l.length by omega)]
    simpa using this
theorem firstIx_le {l : List OpV} {i j : Nat} (hi : i < l.length) (hj : j < i) (h : isDelOf (nth l i) (nth l j) = true) : firstIx l i < i := by
  rcases firstIx_or hi with ⟨_, h2⟩ | ⟨h1, _⟩
  · rw [h2 j hj] at h; cases h
  · exact h1

/-! ### the domain, told by pairs -/
def pushRel (a b : OpV) : Prop := a.k = 3 → b.k = 3 → ¬ (a.key = b.key ∧ a.arg = b.arg)
def pushOk (o : OpV) : Prop := o.k = 4 ∨ (o.k = 3 ∧ o.arg ≠ 0)
theorem dom24_iff (l : List OpV) : dom24 l ↔ (∀ o ∈ l, pushOk o) ∧ l.Pairwise pushRel := by
  constructor
  · intro h
    refine ⟨fun o ho => ?_, ?_⟩
    · obtain ⟨j, hj, rfl⟩ := List.getElem_of_mem ho
      have := h j hj
      rw [← nth_eq hj]
      rcases this with h1 | ⟨h1, h2, _⟩
      · exact .inl h1
      · exact .inr ⟨h1, h2⟩
    · rw [List.pairwise_iff_getElem]
      intro a b ha hb hab h1 h2 h3
      rw [← nth_eq ha] at h1 h3
      rw [← nth_eq hb] at h2 h3
      rcases h b hb with h4 | ⟨_, _, h4⟩
      · omega
      · have := h4 a hab
        simp [isPushOf, h1, h3] at this
  · rintro ⟨h1, h2⟩ i hi
    rcases h1 _ (nth_mem hi) with h3 | ⟨h3, h4⟩
    · exact .inl h3
    · refine .inr ⟨h3, h4, fun j hj => ?_⟩
      have := List.pairwise_iff_getElem.1 h2 j i (by omega) hi hj
      rw [← nth_eq hi, ← nth_eq (show j < l.length by omega)] at this
      cases hp : isPushOf (nth l i).key (nth l i).arg (nth l j) with
      | false => rfl
      | true =>
        simp only [isPushOf, Bool.and_eq_true, decide_eq_true_eq] at hp
        exact absurd hp.2 (this hp.1 h3)
theorem dom24_filter {l : List OpV} (h : dom24 l) (f : OpV → Bool) : dom24 (l.filter f) := by
  rw [dom24_iff] at h ⊢
  exact ⟨fun o ho => h.1 o ((List.mem_filter.1 ho).1), h.2.sublist List.filter_sublist⟩

/-! ### class and argument do not speak of indices -/
def befo (a b : OpV) : Bool := a.done && decide (a.ret < b.call)
def clsOf (l pre : List OpV) (o : OpV) : Option (Int × Int) :=
  if isDel o = false then none
  else match l.find? (isPushOf o.key o.res) with
    | none => some (12, o.key)
    | some p => if befo o p = true then some (12, o.key) else if pre.any (isDelOf o) = true then some (11, o.key) else none
def clsGo (l : List OpV) : List OpV → List OpV → Int × Int
  | _, [] => (0, 0)
  | pre, o :: r => (clsOf l pre o).getD (clsGo l (pre ++ [o]) r)
theorem find_push (l : List OpV) (key v : Int) : (pushIx l key v < 0 ∧ l.find? (isPushOf key v) = none) ∨ (0 ≤ pushIx l key v ∧ (pushIx l key v).toNat < l.length ∧ l.find? (isPushOf key v) = some (nth l (pushIx l key v).toNat)) := by
  rcases pushIx_or l key v with ⟨h1, h2⟩ | ⟨k, h1, h2, h3, h4⟩
  · left
    refine ⟨by omega, ?_⟩
    rw [List.find?_eq_none]
    intro x hx
    obtain ⟨j, hj, rfl⟩ := List.getElem_of_mem hx
    rw [← nth_eq hj, h2 j hj]; simp
  · right
    rw [h1]
    refine ⟨by omega, by simpa using h2, ?_⟩
    rw [Int.toNat_natCast, List.find?_eq_some_iff_getElem]
    refine ⟨h3, k, h2, (nth_eq h2).symm, fun j hj => ?_⟩
    have := h4 j hj
    rw [nth_eq (by omega)] at this
    simp [this]
theorem any_take_del {l : List OpV} {i : Nat} (hi : i < l.length) : (l.take i).any (isDelOf (nth l i)) = decide (firstIx l i < i) := by
  rw [Bool.eq_iff_iff, take_any (by omega), decide_eq_true_eq]
  rcases firstIx_or hi with ⟨h1, h2⟩ | ⟨h1, h2, h3⟩
  · constructor
    · rintro ⟨j, hj, h4⟩; rw [h2 j hj] at h4; cases h4
    · intro h; omega
  · exact ⟨fun _ => h1, fun _ => ⟨_, h1, h2⟩⟩
theorem clsOf_at {l : List OpV} {i : Nat} (hi : i < l.length) : clsOf l (l.take i) (nth l i) = (verAt l i).map fun v => (v.cls, v.arg) := by
  unfold clsOf verAt
  by_cases hd : isDel (nth l i) = false
  · rw [if_pos hd, if_pos hd]; rfl
  · rw [if_neg hd, if_neg hd, any_take_del hi]
    rcases find_push l (nth l i).key (nth l i).res with ⟨h1, h2⟩ | ⟨h1, h2, h3⟩
    · rw [h2, if_pos h1]; rfl
    · rw [h3, if_neg (show ¬ pushIx l (nth l i).key (nth l i).res < 0 by omega)]
      dsimp only
      rw [show befo (nth l i) (nth l (pushIx l (nth l i).key (nth l i).res).toNat) = bef l i (pushIx l (nth l i).key (nth l i).res).toNat from rfl]
      by_cases hb : bef l i (pushIx l (nth l i).key (nth l i).res).toNat = true
      · rw [if_pos hb, if_pos hb]; rfl
      · rw [if_neg hb, if_neg hb]
        by_cases hf : firstIx l i < i
        · rw [if_pos (decide_eq_true hf), if_pos hf]; rfl
        · rw [if_neg (by simpa using hf), if_neg hf]; rfl
theorem clsGo_from (l : List OpV) : ∀ (n i : Nat), i + n = l.length → clsGo l (l.take i) (l.drop i) = ((verFrom l i n).cls, (verFrom l i n).arg)
  | 0, i, h => by
    rw [List.drop_eq_nil_of_le (by omega)]; rfl
  | n + 1, i, h => by
    have hi : i < l.length := by omega
    rw [List.drop_eq_getElem_cons hi, clsGo, ← nth_eq hi, clsOf_at hi, verFrom]
    cases hv : verAt l i with
    | some v => rfl
    | none =>
      have := clsGo_from l n (i + 1) (by omega)
      rw [List.take_succ_eq_append_getElem hi, ← nth_eq hi] at this
      exact this
theorem clsGo_eq (l : List OpV) : clsGo l [] l = ((onceV l).cls, (onceV l).arg) := by
  have := clsGo_from l l.length 0 (by omega)
  unfold onceV
  simpa using this

/-- what keeps pushes and deliveries keeps class and argument -/
theorem clsOf_filter {f : OpV → Bool} (l pre : List OpV) (o : OpV) (h1 : ∀ p, isPushOf o.key o.res p = true → f p = true) (h2 : ∀ p, isDelOf o p = true → f p = true) : clsOf (l.filter f) (pre.filter f) o = clsOf l pre o := by
  unfold clsOf
  have e1 : (l.filter f).find? (isPushOf o.key o.res) = l.find? (isPushOf o.key o.res) := by
    rw [List.find?_filter]
    congr 1
    funext p
    cases hp : isPushOf o.key o.res p with
    | true => rw [h1 p hp]; rfl
    | false => simp
  have e2 : (pre.filter f).any (isDelOf o) = pre.any (isDelOf o) := by
    rw [List.any_filter]
    congr 1
    funext p
    cases hp : isDelOf o p with
    | true => rw [h2 p hp]; rfl
    | false => simp
  rw [e1, e2]
theorem clsGo_filter {f : OpV → Bool} (l : List OpV) (hp : ∀ p : OpV, p.k = 3 → f p = true) (hd : ∀ p, isDel p = true → f p = true) : ∀ (r pre : List OpV), clsGo (l.filter f) (pre.filter f) (r.filter f) = clsGo l pre r
  | [], _ => rfl
  | o :: r, pre => by
    have ih := clsGo_filter l hp hd r (pre ++ [o])
    rw [List.filter_append] at ih
    cases hf : f o with
    | true =>
      rw [List.filter_cons_of_pos hf, clsGo, clsGo, clsOf_filter l pre o (fun p h => hp p ?_) (fun p h => hd p ?_), ← ih]
      · simp [hf]
      · simp only [isPushOf, Bool.and_eq_true, decide_eq_true_eq] at h; exact h.1
      · simp only [isDelOf, Bool.and_eq_true] at h; exact h.1
    | false =>
      rw [List.filter_cons_of_neg (by simp [hf]), clsGo, ← ih]
      have : isDel o = false := by
        cases hdl : isDel o with
        | false => rfl
        | true => rw [hd o hdl] at hf; cases hf
      rw [show clsOf l pre o = none by unfold clsOf; rw [if_pos this]]
      simp [hf]
theorem onceV_filter {f : OpV → Bool} (l : List OpV) (hp : ∀ p : OpV, p.k = 3 → f p = true) (hd : ∀ p, isDel p = true → f p = true) : (onceV (l.filter f)).cls = (onceV l).cls ∧ (onceV (l.filter f)).arg = (onceV l).arg := by
  have h := clsGo_filter l hp hd l []
  rw [List.filter_nil, clsGo_eq, clsGo_eq] at h
  simpa using h

/-! ### the missing -/
def missB (l : List OpV) (o : OpV) : Bool := decide (o.k = 3) && (o.done && !l.any (delOf o))
theorem anyDel_all (l : List OpV) (o : OpV) : anyDel l o l.length = l.any (delOf o) := by
  rw [Bool.eq_iff_iff, all_any]
  unfold anyDel
  rw [range_any]
theorem isMiss_eq (l : List OpV) (i : Nat) : isMiss l i = missB l (nth l i) := by unfold isMiss missB; rw [anyDel_all]
theorem missTo_count (l : List OpV) : (missTo l l.length).length = l.countP (missB l) := by
  unfold missTo
  rw [List.length_map, ← List.countP_eq_length_filter]
  have : ∀ k, k ≤ l.length → (List.range k).countP (isMiss l) = (l.take k).countP (missB l) := fun k => by
    induction k with
    | zero => intro _; simp
    | succ k ih =>
      intro hk
      rw [List.range_succ, List.countP_append, ih (by omega), List.take_succ_eq_append_getElem (by omega), List.countP_append, ← nth_eq (by omega)]
      simp [List.countP_cons, isMiss_eq]
  rw [this _ (Nat.le_refl _), List.take_length]
theorem missB_filter {f : OpV → Bool} (l : List OpV) (o : OpV) (hd : ∀ p, delOf o p = true → f p = true) : missB (l.filter f) o = missB l o := by
  unfold missB
  rw [List.any_filter]
  congr 4
  funext p
  cases hp : delOf o p with
  | true => rw [hd p hp]; rfl
  | false => simp
theorem missTo_filter {f : OpV → Bool} (l : List OpV) (hp : ∀ p : OpV, p.k = 3 → f p = true) (hd : ∀ p, isDel p = true → f p = true) : (missTo (l.filter f) (l.filter f).length).length = (missTo l l.length).length := by
  rw [missTo_count, missTo_count, List.countP_filter]
  congr 1
  funext o
  rw [missB_filter l o (fun p h => hd p (by simp only [delOf, Bool.and_eq_true] at h; exact h.1))]
  cases hk : missB l o with
  | false => simp
  | true => rw [hp o (by simp only [missB, Bool.and_eq_true, decide_eq_true_eq] at hk; exact hk.1)]; rfl

/-! ### a history that holds delivers once -/
theorem verAt_none {l : List OpV} {k : Nat} (h : verAt l k = none) (hk : isDel (nth l k) = true) : 0 ≤ pushIx l (nth l k).key (nth l k).res ∧ bef l k (pushIx l (nth l k).key (nth l k).res).toNat = false ∧ ¬ firstIx l k < k := by
  unfold verAt at h
  rw [if_neg (by rw [hk]; decide)] at h
  split at h
  · cases h
  · split at h
    · cases h
    · split at h
      · cases h
      · rename_i h1 h2 h3
        exact ⟨by omega, by simpa using h2, h3⟩
theorem holds_none {l : List OpV} (h : (onceV l).cls = 0) : ∀ j, j < l.length → verAt l j = none := by
  rcases onceV_or l with ⟨h1, _⟩ | ⟨k, h1, h2, h3⟩
  · exact h1
  · exfalso
    unfold verAt at h2
    split at h2
    · cases h2
    · split at h2
      · injection h2 with h2; rw [← h2] at h; cases h
      · split at h2
        · injection h2 with h2; rw [← h2] at h; cases h
        · split at h2
          · injection h2 with h2; rw [← h2] at h; cases h
          · cases h2
theorem holds_iff (l : List OpV) : (onceV l).cls = 0 ↔ ∀ j, j < l.length → verAt l j = none := by
  refine ⟨holds_none, fun h => ?_⟩
  rcases onceV_or l with ⟨_, h1⟩ | ⟨k, h1, h2, h3⟩
  · rw [h1]
  · rw [h k h1] at h2; cases h2
theorem once_two {l : List OpV} (h : (onceV l).cls = 0) (o : OpV) {j k : Nat} (hjk : j < k) (hk : k < l.length) (h1 : delOf o (nth l j) = true) (h2 : delOf o (nth l k) = true) : False := by
  simp only [delOf, Bool.and_eq_true, decide_eq_true_eq] at h1 h2
  obtain ⟨_, _, h3⟩ := verAt_none (holds_none h k hk) h2.1
  refine h3 (firstIx_le hk hjk ?_)
  simp only [isDelOf, Bool.and_eq_true, decide_eq_true_eq]
  exact ⟨h1.1, by rw [h1.2.1, h2.2.1], by rw [h1.2.2, h2.2.2]⟩
def cntDel (l : List OpV) (o : OpV) (k : Nat) : Nat := (List.range k).countP fun j => delOf o (nth l j)
theorem cntDel_succ (l : List OpV) (o : OpV) (k : Nat) : cntDel l o (k + 1) = cntDel l o k + if delOf o (nth l k) = true then 1 else 0 := by
  unfold cntDel
  rw [List.range_succ, List.countP_append]
  simp [List.countP_cons]
theorem cntDel_le (l : List OpV) (o : OpV) (k : Nat) : cntDel l o k ≤ k := by
  unfold cntDel
  exact Nat.le_trans (List.countP_le_length) (by simp)
theorem cntDel_any (l : List OpV) (o : OpV) (k : Nat) : anyDel l o k = decide (0 < cntDel l o k) := by
  unfold anyDel cntDel
  rw [Bool.eq_iff_iff, decide_eq_true_eq, List.countP_pos_iff, List.any_eq_true]
theorem cntDel_one {l : List OpV} (h : (onceV l).cls = 0) (o : OpV) : ∀ k, k ≤ l.length → cntDel l o k ≤ 1
  | 0, _ => by simp [cntDel]
  | k + 1, hk => by
    have ih := cntDel_one h o k (by omega)
    rw [cntDel_succ]
    by_cases hd : delOf o (nth l k) = true
    · rw [if_pos hd]
      have : ¬ 0 < cntDel l o k := fun h0 => by
        have := cntDel_any l o k
        rw [decide_eq_true h0] at this
        unfold anyDel at this
        rw [range_any] at this
        obtain ⟨j, hj, h1⟩ := this
        exact once_two h o hj (by omega) h1 hd
      omega
    · rw [if_neg hd]; omega
theorem mem_missTo {l : List OpV} {i : Nat} (hi : i < l.length) : (i : Int) ∈ missTo l l.length ↔ isMiss l i = true := by
  unfold missTo
  rw [List.mem_map]
  constructor
  · rintro ⟨j, hj, e⟩
    have : j = i := by omega
    subst this
    exact (List.mem_filter.1 hj).2
  · intro h
    exact ⟨i, List.mem_filter.2 ⟨by simpa using hi, h⟩, rfl⟩
/-- a completed push is missing or delivered once -/
theorem once_miss {l : List OpV} {i : Nat} (hi : i < l.length) (h3 : (nth l i).k = 3) (hd : (nth l i).done = true) : decide (cntDel l (nth l i) l.length = 0) = decide ((i : Int) ∈ missTo l l.length) := by
  rw [decide_eq_decide, mem_missTo hi]
  unfold isMiss
  rw [cntDel_any, h3, hd]
  simp
end Go.Proofs.Ythijndjgchbeoaa
