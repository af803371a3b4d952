/-
  Serializability is local: a history is serializable if and only if its restriction to each key is; the serial orders that are tried one by one.
-/
import Derived.Test.YtfegkbmnclhljaaZSerPlain2
import Derived.Test.YtfegkbmnclhljaaZG
namespace Go.Proofs.Ytfegkbmnclhljaa
set_option linter.unusedVariables false

def keyIx (l : List OpV) (c : Int) : List Nat := (List.range l.length).filter fun j => byKey c (nth l j)
theorem range_map_nth {α : Type} [Inhabited α] (l : List α) : (List.range l.length).map (nth l) = l := by
  apply List.ext_getElem
  · simp
  · intro i h1 h2
    rw [List.getElem_map, List.getElem_range, nth_eq h2]
theorem part_eq (l : List OpV) (c : Int) : l.filter (byKey c) = (keyIx l c).map (nth l) := by
  unfold keyIx
  have h := List.filter_map (f := nth l) (l := List.range l.length) (p := byKey c)
  rw [range_map_nth] at h
  exact h
section
variable {l : List OpV} {c : Int} {strict : Bool}
theorem part_len : (l.filter (byKey c)).length = (keyIx l c).length := by rw [part_eq, List.length_map]
theorem part_nth {i : Nat} (hi : i < (l.filter (byKey c)).length) : nth (l.filter (byKey c)) i = nth l (nth (keyIx l c) i) := by
  have hi' : i < (keyIx l c).length := by rw [← part_len]; exact hi
  rw [nth_eq hi, nth_eq hi']
  simp only [part_eq, List.getElem_map]
theorem keyIx_mem {v : Nat} : v ∈ keyIx l c ↔ v < l.length ∧ (nth l v).key = c := by
  unfold keyIx
  rw [List.mem_filter, List.mem_range]
  simp [byKey]
theorem keyIx_at {i : Nat} (hi : i < (l.filter (byKey c)).length) : nth (keyIx l c) i < l.length ∧ (nth l (nth (keyIx l c) i)).key = c := keyIx_mem.1 (nth_mem (by rw [← part_len]; exact hi))
theorem keyIx_inj {i k : Nat} (hi : i < (l.filter (byKey c)).length) (hk : k < (l.filter (byKey c)).length) (e : nth (keyIx l c) i = nth (keyIx l c) k) : i = k := by
  rw [part_len] at hi hk
  rw [nth_eq hi, nth_eq hk] at e
  exact (List.getElem_inj (List.nodup_range.sublist List.filter_sublist)).1 e
theorem keyIx_pos {v : Nat} (hv : v < l.length) (hk : (nth l v).key = c) : ∃ i, i < (l.filter (byKey c)).length ∧ nth (keyIx l c) i = v := by
  obtain ⟨i, hi, e⟩ := List.getElem_of_mem (keyIx_mem.2 ⟨hv, hk⟩)
  exact ⟨i, by rw [part_len]; exact hi, by rw [nth_eq hi, e]⟩
end
section
variable {l : List OpV} {c : Int}
theorem Dom22.part (h : Dom22 l) (c : Int) : Dom22 (l.filter (byKey c)) where
  kind i hi := by rw [part_nth hi]; exact h.kind _ (keyIx_at hi).1
  arg i hi := by rw [part_nth hi]; exact h.arg _ (keyIx_at hi).1
  uniq i j hi hj := by
    rw [part_nth hi, part_nth hj]
    exact fun a b e f => keyIx_inj hi hj (h.uniq _ _ (keyIx_at hi).1 (keyIx_at hj).1 a b e f)
  pend i k hi hk := by rw [part_nth hi, part_nth hk]; exact h.pend _ _ (keyIx_at hi).1 (keyIx_at hk).1
theorem Writ.part (h : Writ l) (c : Int) : Writ (l.filter (byKey c)) := fun v hv => by
  rw [part_nth hv]
  intro hi hr
  obtain ⟨w, hw, w1, w2, w3⟩ := h _ (keyIx_at hv).1 hi hr
  obtain ⟨p, hp, e⟩ := keyIx_pos hw (w2.trans (keyIx_at hv).2)
  exact ⟨p, hp, by rw [part_nth hp, e]; exact ⟨w1, w2, w3⟩⟩
end

def cntI (l : List OpV) : Nat := l.countP incl22
theorem nodup_sub_len : ∀ {l m : List Int}, l.Nodup → (∀ x ∈ l, x ∈ m) → l.length ≤ m.length
  | [], m, _, _ => Nat.zero_le _
  | x :: l, m, hn, hs => by
    have h1 := List.nodup_cons.1 hn
    have hx := hs x (by simp)
    have hl := List.length_erase_of_mem hx
    have hpos : 0 < m.length := List.length_pos_of_mem hx
    have := nodup_sub_len (m := m.erase x) h1.2 fun y hy => (List.mem_erase_of_ne (fun e : y = x => h1.1 (by rw [← e]; exact hy))).2 (hs y (by simp [hy]))
    rw [List.length_cons]
    omega
def inclL (l : List OpV) : List Int := ((List.range l.length).filter fun v => incl22 (nth l v)).map fun v : Nat => (v : Int)
theorem inclL_len (l : List OpV) : (inclL l).length = cntI l := by
  unfold inclL cntI
  rw [List.length_map, ← List.countP_eq_length_filter]
  have h := List.countP_map (p := incl22) (f := nth l) (l := List.range l.length)
  rw [range_map_nth] at h
  exact h.symm
theorem inclL_mem {l : List OpV} {x : Int} : x ∈ inclL l ↔ ∃ v : Nat, v < l.length ∧ incl22 (nth l v) = true ∧ x = v := by
  unfold inclL
  simp only [List.mem_map, List.mem_filter, List.mem_range]
  constructor
  · rintro ⟨v, ⟨h1, h2⟩, rfl⟩; exact ⟨v, h1, h2, rfl⟩
  · rintro ⟨v, h1, h2, rfl⟩; exact ⟨v, ⟨h1, h2⟩, rfl⟩
theorem inclL_nd (l : List OpV) : (inclL l).Nodup := by
  unfold inclL
  refine List.Pairwise.map _ (fun a b h => ?_) (List.nodup_range.sublist List.filter_sublist)
  omega
theorem SerOrd.len {l : List OpV} {strict : Bool} {o : List Int} (h : SerOrd l strict o) : o.length = cntI l := by
  rw [← inclL_len]
  refine Nat.le_antisymm (nodup_sub_len h.nd fun x hx => ?_) (nodup_sub_len (inclL_nd l) fun x hx => ?_)
  · have := h.rng x hx
    exact inclL_mem.2 ⟨x.toNat, by omega, h.inc x hx, by omega⟩
  · obtain ⟨v, h1, h2, rfl⟩ := inclL_mem.1 hx
    exact h.all v h1 h2
def legalAt (l : List OpV) (strict : Bool) (o : List Int) (i : Nat) : Bool :=
  decide (0 ≤ nth o i) && decide (nth o i < l.length) && !hasB (o.take i) (nth o i) && incl22 (nth l (nth o i).toNat) && !(strict && (o.take i).any fun j => bef l (nth o i).toNat j.toNat) && decide ((nth l (nth o i).toNat).res = valTo l (nth l (nth o i).toNat).key (o.take i))
def legalB (l : List OpV) (strict : Bool) (o : List Int) : Bool := (List.range o.length).all (legalAt l strict o) && decide (o.length = cntI l)
theorem nodup_of_take : ∀ {o : List Int}, (∀ i, i < o.length → nth o i ∉ o.take i) → o.Nodup := fun {o} h => by
  unfold List.Nodup
  rw [List.pairwise_iff_getElem]
  intro i j hi hj hij e
  refine h j hj (List.mem_take_iff_getElem.2 ⟨i, by omega, ?_⟩)
  rw [nth_eq hj, e]
theorem legal_iff {l : List OpV} {strict : Bool} {o : List Int} : legalB l strict o = true ↔ SerOrd l strict o := by
  unfold legalB
  simp only [Bool.and_eq_true, decide_eq_true_eq, List.all_eq_true, List.mem_range, legalAt, Bool.not_eq_true', and_assoc]
  constructor
  · rintro ⟨h, hlen⟩
    have hnd : o.Nodup := nodup_of_take fun i hi hm => by
      have := (h i hi).2.2.1
      unfold hasB at this
      exact (of_decide_eq_false this) hm
    have hx : ∀ x ∈ o, 0 ≤ x ∧ x < l.length ∧ incl22 (nth l x.toNat) = true := fun x hx => by
      obtain ⟨i, hi, e⟩ := mem_pos hx
      have := h i hi
      rw [e] at this
      exact ⟨this.1, this.2.1, this.2.2.2.1⟩
    refine ⟨fun x h => ⟨(hx x h).1, (hx x h).2.1⟩, hnd, fun x h => (hx x h).2.2, fun v hv hi => ?_, fun i hi => (h i hi).2.2.2.2.2, fun hs i j hi hj => ?_⟩
    · refine Classical.byContradiction fun hno => ?_
      have := nodup_sub_len (m := inclL l) (List.nodup_cons.2 ⟨hno, hnd⟩) fun y hy => by
        rcases List.mem_cons.1 hy with rfl | hy
        · exact inclL_mem.2 ⟨v, hv, hi, rfl⟩
        · have := hx y hy
          exact inclL_mem.2 ⟨y.toNat, by omega, this.2.2, by omega⟩
      rw [inclL_len, List.length_cons] at this
      omega
    · have h5 := (h i hi).2.2.2.2.1
      subst hs
      rw [Bool.true_and] at h5
      have := List.any_eq_false.1 h5 (nth o j) (List.mem_take_iff_getElem.2 ⟨j, by omega, (nth_eq _).symm⟩)
      simpa using this
  · intro h
    refine ⟨fun i hi => ⟨(h.rng _ (nth_mem hi)).1, (h.rng _ (nth_mem hi)).2, ?_, h.inc _ (nth_mem hi), ?_, h.val i hi⟩, h.len⟩
    · unfold hasB
      refine decide_eq_false fun hm => ?_
      obtain ⟨j, hj, e⟩ := List.mem_take_iff_getElem.1 hm
      rw [nth_eq hi] at e
      have := (List.getElem_inj h.nd).1 e
      omega
    · cases hs : strict with
      | false => rfl
      | true =>
        rw [Bool.true_and]
        refine List.any_eq_false.2 fun x hx => ?_
        obtain ⟨j, hj, e⟩ := List.mem_take_iff_getElem.1 hx
        have := h.rt hs i j hi (by omega)
        rw [nth_eq (show j < o.length by omega), e] at this
        simp [this]
def extB (l : List OpV) (strict : Bool) : Nat → List Int → Bool
  | 0, o => legalB l strict o
  | k + 1, o => (List.range l.length).any fun i => !hasB o (i : Int) && incl22 (nth l i) && decide ((nth l i).res = valTo l (nth l i).key o) && extB l strict k (o ++ [(i : Int)])
theorem ext_iff {l : List OpV} {strict : Bool} : ∀ (k : Nat) (o : List Int), o.length + k = cntI l → (extB l strict k o = true ↔ ∃ o', SerOrd l strict (o ++ o'))
  | 0, o, hk => by
    show legalB l strict o = true ↔ _
    rw [legal_iff]
    constructor
    · intro h; exact ⟨[], by rw [List.append_nil]; exact h⟩
    · rintro ⟨o', h⟩
      have hl := h.len
      rw [List.length_append] at hl
      have : o' = [] := List.length_eq_zero_iff.1 (by omega)
      subst this
      rw [List.append_nil] at h; exact h
  | k + 1, o, hk => by
    show (List.range l.length).any _ = true ↔ _
    rw [List.any_eq_true]
    constructor
    · rintro ⟨i, hi, h⟩
      simp only [Bool.and_eq_true] at h
      obtain ⟨o', h'⟩ := (ext_iff k (o ++ [(i : Int)]) (by simp; omega)).1 h.2
      exact ⟨(i : Int) :: o', by rw [List.append_assoc] at h'; exact h'⟩
    · rintro ⟨o', h⟩
      have hl := h.len
      rw [List.length_append] at hl
      cases o' with
      | nil => rw [List.length_nil] at hl; omega
      | cons x o' =>
        have hlt : o.length < (o ++ x :: o').length := by simp
        have hx : nth (o ++ x :: o') o.length = x := by rw [nth_eq hlt]; simp
        have hm : x ∈ o ++ x :: o' := by simp
        have hr := h.rng x hm
        have hv := h.val o.length hlt
        rw [hx, List.take_left] at hv
        have hnd := List.nodup_append.1 h.nd
        refine ⟨x.toNat, List.mem_range.2 (by omega), ?_⟩
        have e : ((x.toNat : Nat) : Int) = x := by omega
        rw [e]
        simp only [Bool.and_eq_true, decide_eq_true_eq, Bool.not_eq_true']
        refine ⟨⟨⟨?_, h.inc x hm⟩, hv⟩, (ext_iff k (o ++ [x]) (by simp; omega)).2 ⟨o', by rw [List.append_assoc]; exact h⟩⟩
        unfold hasB
        exact decide_eq_false fun hxo => hnd.2.2 x hxo x (by simp) rfl
end Go.Proofs.Ytfegkbmnclhljaa
