/-
  Serializability is local: a history is serializable if and only if its restriction to each key is; the serial orders that are tried one by one.
-/
import Derived.Test.YtfegkbmnclhljaaZSerPlain2
import Derived.Test.YtfegkbmnclhljaaZG
namespace Go.Proofs.Ytfegkbmnclhljaa
set_option linter.unusedVariables false

def keyIx (l : List OpV) (c : Int) : List Nat := (List.range l.length).filter fun j => byKey c (nth l j)
theorem range_map_nth {α : Type} [Inhabited α] (l : List α) : (List.range l.length).map (nth l) = l := by
  apply List.ext_getElem
  · simp
  · intro i h1 h2
    rw [List.getElem_map, List.getElem_range, nth_eq h2]
theorem part_eq (l : List OpV) (c : Int) : l.filter (byKey c) = (keyIx l c).map (nth l) := by
  unfold keyIx
  have h := List.filter_map (f := nth l) (l := List.range l.length) (p := byKey c)
  rw [range_map_nth] at h
  exact h
section
variable {l : List OpV} {c : Int} {strict : Bool}
theorem part_len : (l.filter (byKey c)).length = (keyIx l c).length := by rw [part_eq, List.length_map]
theorem part_nth {i : Nat} (hi : i < (l.filter (byKey c)).length) : nth (l.filter (byKey c)) i = nth l (nth (keyIx l c) i) := by
  have hi' : i < (keyIx l c).length := by rw [← part_len]; exact hi
  rw [nth_eq hi, nth_eq hi']
  simp only [part_eq, List.getElem_map]
theorem keyIx_mem {v : Nat} : v ∈ keyIx l c ↔ v < l.length ∧ (nth l v).key = c := by
  unfold keyIx
  rw [List.mem_filter, List.mem_range]
  simp [byKey]
theorem keyIx_at {i : Nat} (hi : i < (l.filter (byKey c)).length) : nth (keyIx l c) i < l.length ∧ (nth l (nth (keyIx l c) i)).key = c := keyIx_mem.1 (nth_mem (by rw [← part_len]; exact hi))
theorem keyIx_inj {i k : Nat} (hi : i < (l.filter (byKey c)).length) (hk : k < (l.filter (byKey c)).length) (e : nth (keyIx l c) i = nth (keyIx l c) k) : i = k := by
  rw [part_len] at hi hk
  rw [nth_eq hi, nth_eq hk] at e
  exact (List.getElem_inj (List.nodup_range.sublist List.filter_sublist)).1 e
theorem keyIx_pos {v : Nat} (hv : v < l.length) (hk : (nth l v).key = c) : ∃ i, i < (l.filter (byKey c)).length ∧ nth (keyIx l c) i = v := by
  obtain ⟨i, hi, e⟩ := List.getElem_of_mem (keyIx_mem.2 ⟨hv, hk⟩)
  exact ⟨i, by rw [part_len]; exact hi, by rw [nth_eq hi, e]⟩
theorem part_why {i k : Nat} (hi : i < (l.filter (byKey c)).length) (hk : k < (l.filter (byKey c)).length) : why22 (l.filter (byKey c)) strict i k = why22 l strict (nth (keyIx l c) i) (nth (keyIx l c) k) := by
  have e : decide (i ≠ k) = decide (nth (keyIx l c) i ≠ nth (keyIx l c) k) := by
    by_cases h : i = k
    · subst h; simp
    · have : nth (keyIx l c) i ≠ nth (keyIx l c) k := fun e => h (keyIx_inj hi hk e)
      simp [h, this]
  unfold why22 whys precB bef
  rw [part_nth hi, part_nth hk, e]
open Classical in
theorem part_rank (h : cyc22 (l.filter (byKey c)) strict = []) : ∃ F : Nat → Nat, ∀ a b, a < l.length → b < l.length → (nth l a).key = c → (nth l b).key = c → why22 l strict a b ≠ [] → F a < F b := by
  obtain ⟨f, hf⟩ := no_cyc_rank (prs_in (l.filter (byKey c)) strict) h
  refine ⟨fun a => if ha : ∃ i, i < (l.filter (byKey c)).length ∧ nth (keyIx l c) i = a then f ha.choose else 0, fun a b ha hb ka kb hw => ?_⟩
  have pa := keyIx_pos ha ka
  have pb := keyIx_pos hb kb
  dsimp only
  rw [dif_pos pa, dif_pos pb]
  obtain ⟨a1, a2⟩ := pa.choose_spec
  obtain ⟨b1, b2⟩ := pb.choose_spec
  refine hf (pa.choose, pb.choose) (prs_mem.2 ⟨a1, b1, ?_⟩)
  rw [part_why a1 b1, a2, b2]
  exact hw
theorem part_cyc (h : cyc22 l strict = []) : cyc22 (l.filter (byKey c)) strict = [] := by
  obtain ⟨f, hf⟩ := no_cyc_rank (prs_in l strict) h
  refine acyc_cycle (prs_in _ strict) (fun i => f (nth (keyIx l c) i)) fun e he => ?_
  obtain ⟨h1, h2, h3⟩ := prs_mem.1 (show (e.1, e.2) ∈ _ from he)
  rw [part_why h1 h2] at h3
  exact hf (_, _) (prs_mem.2 ⟨(keyIx_at h1).1, (keyIx_at h2).1, h3⟩)
end
def topOf (h : Nat → Nat) (L : List Nat) : Nat := L.foldr (fun x m => max (h x) m) 0
theorem topOf_le {h : Nat → Nat} {x : Nat} : ∀ {L : List Nat}, x ∈ L → h x ≤ topOf h L
  | y :: L, hx => by
    show h x ≤ max (h y) (topOf h L)
    rcases List.mem_cons.1 hx with rfl | hx
    · omega
    · have := topOf_le (h := h) hx; omega
theorem topOf_at {h : Nat → Nat} : ∀ (L : List Nat), topOf h L = 0 ∨ ∃ x ∈ L, h x = topOf h L
  | [] => .inl rfl
  | y :: L => by
    show max (h y) (topOf h L) = 0 ∨ ∃ x ∈ y :: L, h x = max (h y) (topOf h L)
    rcases Nat.le_total (topOf h L) (h y) with hle | hle
    · exact .inr ⟨y, by simp, by omega⟩
    · rcases topOf_at (h := h) L with e | ⟨x, hx, e⟩
      · by_cases h0 : h y = 0
        · left; omega
        · exact .inr ⟨y, by simp, by omega⟩
      · exact .inr ⟨x, by simp [hx], by omega⟩
theorem all_cyc {l : List OpV} {strict : Bool} (hw : ∀ i, i < l.length → 0 ≤ (nth l i).call ∧ (nth l i).call < (nth l i).ret) (h : ∀ c, (∃ i, i < l.length ∧ (nth l i).key = c) → cyc22 (l.filter (byKey c)) strict = []) : cyc22 l strict = [] := by
  have hF : ∀ c : Int, ∃ F : Nat → Nat, ∀ a b, a < l.length → b < l.length → (nth l a).key = c → (nth l b).key = c → why22 l strict a b ≠ [] → F a < F b := fun c => by
    by_cases hc : ∃ i, i < l.length ∧ (nth l i).key = c
    · exact part_rank (h c hc)
    · exact ⟨fun _ => 0, fun a b ha _ ka => absurd ⟨a, ha, ka⟩ hc⟩
  obtain ⟨F, hF⟩ := Classical.axiomOfChoice hF
  obtain ⟨FK, hFK⟩ : ∃ FK : Nat → Nat, FK = fun a => F (nth l a).key a := ⟨_, rfl⟩
  have hkk : ∀ a b, a < l.length → b < l.length → (nth l a).key = (nth l b).key → why22 l strict a b ≠ [] → FK a < FK b := fun a b ha hb e hne => by
    rw [hFK]; dsimp only
    rw [e]
    exact hF _ a b ha hb e rfl hne
  obtain ⟨B, hB⟩ : ∃ B, B = topOf FK (List.range l.length) + 1 := ⟨_, rfl⟩
  have hlt : ∀ a, a < l.length → FK a < B := fun a ha => by
    have := topOf_le (h := FK) (List.mem_range.2 ha)
    omega
  -- those not behind a on its key
  obtain ⟨S, hS⟩ : ∃ S : Nat → List Nat, S = fun a => (List.range l.length).filter fun b => incl22 (nth l b) && decide ((nth l b).key = (nth l a).key) && decide (FK b ≤ FK a) := ⟨_, rfl⟩
  have hSm : ∀ a b, b ∈ S a ↔ b < l.length ∧ incl22 (nth l b) = true ∧ (nth l b).key = (nth l a).key ∧ FK b ≤ FK a := fun a b => by
    rw [hS]; dsimp only
    rw [List.mem_filter, List.mem_range]
    simp only [Bool.and_eq_true, decide_eq_true_eq, and_assoc]
  obtain ⟨g, hg⟩ : ∃ g : Nat → Nat, g = fun a => topOf (fun b => (nth l b).call.toNat) (S a) := ⟨_, rfl⟩
  refine acyc_cycle (prs_in l strict) (fun a => g a * B + FK a) fun e he => ?_
  obtain ⟨a, b⟩ := e
  obtain ⟨ha, hb, hwh⟩ := prs_mem.1 he
  obtain ⟨ia, ib, hc⟩ := why22_iff.1 hwh
  dsimp only
  by_cases hk : (nth l a).key = (nth l b).key
  · have h1 := hkk a b ha hb hk hwh
    have h2 : g a ≤ g b := by
      rw [hg]; dsimp only
      rcases topOf_at (h := fun b => (nth l b).call.toNat) (S a) with e | ⟨x, hx, e⟩
      · omega
      · rw [← e]
        obtain ⟨x1, x2, x3, x4⟩ := (hSm a x).1 hx
        exact topOf_le (h := fun b => (nth l b).call.toNat) ((hSm b x).2 ⟨x1, x2, x3.trans hk, by omega⟩)
    have := Nat.mul_le_mul_right B h2
    omega
  · have hbf : bef l a b = true ∧ strict = true := by
      rcases hc with hc | hc | hc | hc
      · unfold wroteB at hc; simp only [Bool.and_eq_true, decide_eq_true_eq] at hc; exact absurd hc.1.1.2 hk
      · unfold wroteB at hc; simp only [Bool.and_eq_true, decide_eq_true_eq] at hc; exact absurd hc.1.1.2 hk
      · unfold precB at hc; simp only [Bool.and_eq_true, decide_eq_true_eq] at hc; exact absurd hc.1.1.2 hk
      · exact ⟨hc.2, hc.1⟩
    obtain ⟨hbf, hst⟩ := hbf
    unfold bef at hbf
    simp only [Bool.and_eq_true, decide_eq_true_eq] at hbf
    have hwa := hw a ha
    have hwb := hw b hb
    have h1 : g a ≤ (nth l a).ret.toNat := by
      rw [hg]; dsimp only
      rcases topOf_at (h := fun b => (nth l b).call.toNat) (S a) with e | ⟨x, hx, e⟩
      · omega
      · rw [← e]
        obtain ⟨x1, x2, x3, x4⟩ := (hSm a x).1 hx
        have hwx := hw x x1
        by_cases hlt2 : (nth l a).ret < (nth l x).call
        · exfalso
          have := hkk a x ha x1 x3.symm (why22_iff.2 ⟨ia, x2, .inr (.inr (.inr ⟨hst, by unfold bef; simp [hbf.1, hlt2]⟩))⟩)
          omega
        · omega
    have h2 : (nth l b).call.toNat ≤ g b := by
      rw [hg]; dsimp only
      exact topOf_le (h := fun b => (nth l b).call.toNat) ((hSm b b).2 ⟨hb, ib, rfl, Nat.le_refl _⟩)
    have h3 : g a + 1 ≤ g b := by omega
    have h4 := Nat.mul_le_mul_right B h3
    rw [Nat.succ_mul] at h4
    have := hlt a ha
    omega
section
variable {l : List OpV} {c : Int}
theorem Dom22.part (h : Dom22 l) (c : Int) : Dom22 (l.filter (byKey c)) where
  kind i hi := by rw [part_nth hi]; exact h.kind _ (keyIx_at hi).1
  arg i hi := by rw [part_nth hi]; exact h.arg _ (keyIx_at hi).1
  uniq i j hi hj := by
    rw [part_nth hi, part_nth hj]
    exact fun a b e f => keyIx_inj hi hj (h.uniq _ _ (keyIx_at hi).1 (keyIx_at hj).1 a b e f)
  pend i k hi hk := by rw [part_nth hi, part_nth hk]; exact h.pend _ _ (keyIx_at hi).1 (keyIx_at hk).1
theorem Dom22.of_parts (h : ∀ c, (∃ i, i < l.length ∧ (nth l i).key = c) → Dom22 (l.filter (byKey c))) : Dom22 l where
  kind i hi := by
    obtain ⟨p, hp, e⟩ := keyIx_pos hi rfl
    have := (h _ ⟨i, hi, rfl⟩).kind p hp
    rw [part_nth hp, e] at this; exact this
  arg i hi := by
    obtain ⟨p, hp, e⟩ := keyIx_pos hi rfl
    have := (h _ ⟨i, hi, rfl⟩).arg p hp
    rw [part_nth hp, e] at this; exact this
  uniq i j hi hj a b hk ha := by
    obtain ⟨p, hp, e⟩ := keyIx_pos hi rfl
    obtain ⟨q, hq, f⟩ := keyIx_pos hj hk.symm
    have := (h _ ⟨i, hi, rfl⟩).uniq p q hp hq
    rw [part_nth hp, part_nth hq, e, f] at this
    have := this a b hk ha
    subst this
    exact e.symm.trans f
  pend i k hi hk a b hd ha := by
    obtain ⟨p, hp, e⟩ := keyIx_pos hi rfl
    obtain ⟨q, hq, f⟩ := keyIx_pos hk b
    have := (h _ ⟨i, hi, rfl⟩).pend p q hp hq
    rw [part_nth hp, part_nth hq, e, f] at this
    exact this a b hd ha
theorem Writ.part (h : Writ l) (c : Int) : Writ (l.filter (byKey c)) := fun v hv => by
  rw [part_nth hv]
  intro hi hr
  obtain ⟨w, hw, w1, w2, w3⟩ := h _ (keyIx_at hv).1 hi hr
  obtain ⟨p, hp, e⟩ := keyIx_pos hw (w2.trans (keyIx_at hv).2)
  exact ⟨p, hp, by rw [part_nth hp, e]; exact ⟨w1, w2, w3⟩⟩
theorem Writ.of_parts (h : ∀ c, (∃ i, i < l.length ∧ (nth l i).key = c) → Writ (l.filter (byKey c))) : Writ l := fun v hv hi hr => by
  obtain ⟨p, hp, e⟩ := keyIx_pos hv rfl
  have := h _ ⟨v, hv, rfl⟩ p hp
  rw [part_nth hp, e] at this
  obtain ⟨w, hw, w1, w2, w3⟩ := this hi hr
  rw [part_nth hw] at w1 w2 w3
  exact ⟨_, (keyIx_at hw).1, w1, w2, w3⟩
theorem serV_local {strict : Bool} (hw : ∀ i, i < l.length → 0 ≤ (nth l i).call ∧ (nth l i).call < (nth l i).ret) : (serV l strict).cls = 0 ↔ ∀ c, (∃ i, i < l.length ∧ (nth l i).key = c) → (serV (l.filter (byKey c)) strict).cls = 0 := by
  rw [serV_holds, thin22_none]
  constructor
  · rintro ⟨h1, h2⟩ c _
    rw [serV_holds, thin22_none]
    exact ⟨h1.part c, part_cyc h2⟩
  · intro h
    refine ⟨Writ.of_parts fun c hc => ?_, all_cyc hw fun c hc => ?_⟩
    · have := h c hc
      rw [serV_holds, thin22_none] at this
      exact this.1
    · have := h c hc
      rw [serV_holds, thin22_none] at this
      exact this.2
end

def cntI (l : List OpV) : Nat := l.countP incl22
theorem nodup_sub_len : ∀ {l m : List Int}, l.Nodup → (∀ x ∈ l, x ∈ m) → l.length ≤ m.length
  | [], m, _, _ => Nat.zero_le _
  | x :: l, m, hn, hs => by
    have h1 := List.nodup_cons.1 hn
    have hx := hs x (by simp)
    have hl := List.length_erase_of_mem hx
    have hpos : 0 < m.length := List.length_pos_of_mem hx
    have := nodup_sub_len (m := m.erase x) h1.2 fun y hy => (List.mem_erase_of_ne (fun e : y = x => h1.1 (by rw [← e]; exact hy))).2 (hs y (by simp [hy]))
    rw [List.length_cons]
    omega
def inclL (l : List OpV) : List Int := ((List.range l.length).filter fun v => incl22 (nth l v)).map fun v : Nat => (v : Int)
theorem inclL_len (l : List OpV) : (inclL l).length = cntI l := by
  unfold inclL cntI
  rw [List.length_map, ← List.countP_eq_length_filter]
  have h := List.countP_map (p := incl22) (f := nth l) (l := List.range l.length)
  rw [range_map_nth] at h
  exact h.symm
theorem inclL_mem {l : List OpV} {x : Int} : x ∈ inclL l ↔ ∃ v : Nat, v < l.length ∧ incl22 (nth l v) = true ∧ x = v := by
  unfold inclL
  simp only [List.mem_map, List.mem_filter, List.mem_range]
  constructor
  · rintro ⟨v, ⟨h1, h2⟩, rfl⟩; exact ⟨v, h1, h2, rfl⟩
  · rintro ⟨v, h1, h2, rfl⟩; exact ⟨v, ⟨h1, h2⟩, rfl⟩
theorem inclL_nd (l : List OpV) : (inclL l).Nodup := by
  unfold inclL
  refine List.Pairwise.map _ (fun a b h => ?_) (List.nodup_range.sublist List.filter_sublist)
  omega
theorem SerOrd.len {l : List OpV} {strict : Bool} {o : List Int} (h : SerOrd l strict o) : o.length = cntI l := by
  rw [← inclL_len]
  refine Nat.le_antisymm (nodup_sub_len h.nd fun x hx => ?_) (nodup_sub_len (inclL_nd l) fun x hx => ?_)
  · have := h.rng x hx
    exact inclL_mem.2 ⟨x.toNat, by omega, h.inc x hx, by omega⟩
  · obtain ⟨v, h1, h2, rfl⟩ := inclL_mem.1 hx
    exact h.all v h1 h2
end Go.Proofs.Ytfegkbmnclhljaa
