/-
  Kahn's way to a topological order, in plain Lean; what an order reaches.
-/
import Derived.Test.YtbeebjdnapkhhaaZLinExt
namespace Go.Proofs.Ytbeebjdnapkhhaa
set_option linter.unusedVariables false

abbrev Prs := List (Nat × Nat)
def adj (P : Prs) (v k : Nat) : List Nat := ((P.take k).filter fun e => decide (e.1 = v)).map fun e => e.2
def zam (P : Prs) (v : Nat) : List Nat := adj P v P.length
theorem zhS {P : Prs} {v k : Nat} (h : k < P.length) : adj P v (k + 1) = adj P v k ++ if v = (nth P k).1 then [(nth P k).2] else [] := by
 unfold adj
 rw [List.take_succ_eq_append_getElem h, List.filter_append, List.map_append, zn h]
 congr 1
 by_cases hv : P[k].1 = v
 ·simp [hv]
 ·have : ¬ v = P[k].1 := fun e => hv e.symm
  simp [hv, this]
theorem zdf (P : Prs) (v k : Nat) : (adj P v k).length ≤ P.length := by
 unfold adj
 rw [List.length_map]
 exact Nat.le_trans (List.length_filter_le _ _) (by rw [List.length_take]; omega)
theorem XX {P : Prs} {v b : Nat} : b ∈ zam P v ↔ (v, b) ∈ P := by
 unfold zam adj
 rw [List.take_length, List.mem_map]
 constructor
 ·rintro ⟨e, he, rfl⟩
  obtain ⟨h1, h2⟩ := List.mem_filter.1 he
  have h2 : e.1 = v := by simpa using h2
  rw [← h2]; exact h1
 ·intro h; exact ⟨(v, b), List.mem_filter.2 ⟨h, by simp⟩, rfl⟩
def inW (P : Prs) (V : List Nat) (b : Nat) : Nat := P.countP fun e => decide (e.2 = b) && !decide (e.1 ∈ V)
theorem zkp (P : Prs) (V : List Nat) (b : Nat) : inW P V b ≤ P.length := List.countP_le_length
theorem zdD {V : List Nat} {v b : Nat} (hv : v ∉ V) : ∀ P : Prs, inW P V b = inW P (V ++ [v]) b + (zam P v).count b
 | [] => rfl
 | e :: P => by
  have ih := zdD (b := b) hv P
  unfold inW zam adj at *
  rw [List.take_length] at ih ⊢
  by_cases h2 : e.1 = v
  ·have e1 : List.filter (fun e : Nat × Nat => decide (e.1 = v)) (e :: P) = e :: List.filter (fun e => decide (e.1 = v)) P := by simp [h2]
   have e2 : decide (e.1 ∈ V) = false := decide_eq_false (h2 ▸ hv)
   have e3 : decide (e.1 ∈ V ++ [v]) = true := decide_eq_true (by simp [h2])
   rw [List.countP_cons, List.countP_cons, e1, List.map_cons, List.count_cons, e2, e3, ih]
   by_cases h1 : e.2 = b
   ·simp [h1]; omega
   ·have h5 : (e.2 == b) = false := by simpa using h1
    simp [h1]
  ·have e1 : List.filter (fun e : Nat × Nat => decide (e.1 = v)) (e :: P) = List.filter (fun e => decide (e.1 = v)) P := by simp [h2]
   have e3 : decide (e.1 ∈ V ++ [v]) = decide (e.1 ∈ V) := decide_eq_decide.2 (by simp [h2])
   rw [List.countP_cons, List.countP_cons, e1, e3, ih]
   omega
theorem zel {P : Prs} {V : List Nat} {b : Nat} (h : inW P V b = 0) : ∀ e ∈ P, e.2 = b → e.1 ∈ V := fun e he hb => by
 unfold inW at h
 rw [List.countP_eq_zero] at h
 have := h e he
 rw [hb] at this
 simpa using this
structure KR (P : Prs) (n : Nat) (row : List Nat) (W : List Int) : Prop where
 len : W.length = n
 nd : row.Nodup
 rng : ∀ x ∈ row, x < n
 mem : ∀ b, b < n → (b ∈ row ↔ nth W b = 0)
 topo : ∀ i, i < row.length → ∀ e ∈ P, e.2 = nth row i → ∃ i', i' < i ∧ nth row i' = e.1
structure KI (P : Prs) (n k : Nat) (row : List Nat) (W : List Int) : Prop where
 r : KR P n row W
 le : k ≤ row.length
 wt : ∀ b, b < n → nth W b = (inW P (row.take k) b : Int)
structure KJ (P : Prs) (n k : Nat) (row0 : List Nat) (j : Nat) (row : List Nat) (W : List Int) : Prop where
 r : KR P n row W
 pre : ∃ ext, row = row0 ++ ext
 wt : ∀ b, b < n → nth W b = (inW P (row0.take k) b : Int) - (((zam P (nth row0 k)).take j).count b : Int)
section
variable {P : Prs} {n : Nat}
theorem KR.row_len {row : List Nat} {W : List Int} (h : KR P n row W) : row.length ≤ n := by
 refine Nat.le_of_not_lt fun hlt => ?_
 have key : ∀ (l m : List Nat), l.Nodup → (∀ x ∈ l, x ∈ m) → l.length ≤ m.length := by
  intro l
  induction l with
  | nil => intro m _ _; exact Nat.zero_le _
  | cons x l ih =>
   intro m hn hs
   obtain ⟨h1, h2⟩ := List.nodup_cons.1 hn
   have hx := hs x (by simp)
   have hl := List.length_erase_of_mem hx
   have hpos : 0 < m.length := List.length_pos_of_mem hx
   have := ih (m.erase x) h2 fun y hy => (List.mem_erase_of_ne (fun e : y = x => h1 (by rw [← e]; exact hy))).2 (hs y (by simp [hy]))
   rw [List.length_cons]
   omega
 have := key row (List.range n) h.nd fun x hx => List.mem_range.2 (h.rng x hx)
 rw [List.length_range] at this
 omega
theorem KI.start {k : Nat} {row : List Nat} {W : List Int} (h : KI P n k row W) : KJ P n k row 0 row W where
 r := h.r
 pre := ⟨[], by simp⟩
 wt b hb := by rw [h.wt b hb]; simp
theorem zaY {row : List Nat} (hn : row.Nodup) {k : Nat} (hk : k < row.length) : nth row k ∉ row.take k := fun h => by
 obtain ⟨i, hi, e⟩ := List.mem_take_iff_getElem.1 h
 rw [zn hk] at e
 have := (List.getElem_inj hn).1 e
 omega
theorem Zk {α : Type} [Inhabited α] {l : List α} {k : Nat} (hk : k < l.length) : l.take (k + 1) = l.take k ++ [nth l k] := by rw [List.take_succ_eq_append_getElem hk, zn hk]
theorem KJ.stop {k : Nat} {row0 row : List Nat} {W : List Int} (hk : k < row0.length) (hn0 : row0.Nodup) (h : KJ P n k row0 (zam P (nth row0 k)).length row W) : KI P n (k + 1) row W where
 r := h.r
 le := by obtain ⟨ext, rfl⟩ := h.pre; simp; omega
 wt b hb := by
  obtain ⟨ext, rfl⟩ := h.pre
  rw [h.wt b hb, List.take_length, List.take_append_of_le_length (by omega), Zk hk]
  have := zdD (P := P) (b := b) (zaY hn0 hk)
  omega
theorem KJ.step (hin : ∀ e ∈ P, e.1 < n ∧ e.2 < n) {k j : Nat} {row0 row : List Nat} {W : List Int} (hk : k < row0.length) (hn0 : row0.Nodup) (h : KJ P n k row0 j row W) (hj : j < (zam P (nth row0 k)).length) :
  nth (zam P (nth row0 k)) j < n ∧ 0 < nth W (nth (zam P (nth row0 k)) j) ∧ KJ P n k row0 (j + 1) (if nth W (nth (zam P (nth row0 k)) j) - 1 = 0 then row ++ [nth (zam P (nth row0 k)) j] else row) (W.set (nth (zam P (nth row0 k)) j) (nth W (nth (zam P (nth row0 k)) j) - 1)) := by
 have hm := zK hj
 have hts := Zk hj
 have hadd := fun b => zdD (P := P) (V := row0.take k) (v := nth row0 k) (b := b) (zaY hn0 hk)
 have hA := fun b => @XX P (nth row0 k) b
 have hwt := h.wt
 obtain ⟨A, hAe⟩ : ∃ A, zam P (nth row0 k) = A := ⟨_, rfl⟩
 rw [hAe] at hj hm hts ⊢
 simp only [hAe] at hadd hA hwt
 obtain ⟨b, hb⟩ : ∃ b, nth A j = b := ⟨_, rfl⟩
 rw [hb] at hm hts ⊢
 have hbn := (hin _ ((hA b).1 hm)).2
 have hcnt : ∀ x, (A.take (j + 1)).count x = (A.take j).count x + if b = x then 1 else 0 := fun x => by
  rw [hts, List.count_append]
  congr 1
  by_cases e : b = x
  ·subst e; simp
  ·rw [if_neg e]; simp [List.count_cons, e]
 have hcl : ∀ x, (A.take (j + 1)).count x ≤ A.count x := fun x => List.Sublist.count_le _ (List.take_sublist _ _)
 have hpos : 0 < nth W b := by
  have h1 := hwt b hbn
  have h2 := hcnt b
  rw [if_pos rfl] at h2
  have h3 := hcl b
  have h4 := hadd b
  omega
 have hbno : b ∉ row := fun hm => by
  have := (h.r.mem b hbn).1 hm
  omega
 have hWn : ∀ x, x < n → nth (W.set b (nth W b - 1)) x = if b = x then nth W b - 1 else nth W x := fun x hx => yY (by rw [h.r.len]; exact hx)
 have hwt' : ∀ x, x < n → nth (W.set b (nth W b - 1)) x = (inW P (row0.take k) x : Int) - ((A.take (j + 1)).count x : Int) := fun x hx => by
  rw [hWn x hx, hcnt]
  have := hwt x hx
  split
  ·rename_i e; subst e; rw [this]; omega
  ·rw [this]; omega
 refine ⟨hbn, hpos, ?_⟩
 by_cases hz : nth W b - 1 = 0
 ·rw [if_pos hz]
  obtain ⟨ext, hext⟩ := h.pre
  refine ⟨⟨by rw [List.length_set]; exact h.r.len, List.nodup_append.2 ⟨h.r.nd, by simp, fun x hx y hy e => ?_⟩, fun x hx => ?_, fun x hx => ?_, fun i hi e he hie => ?_⟩, ⟨ext ++ [b], by rw [hext, List.append_assoc]⟩, fun x hx => by rw [hAe]; exact hwt' x hx⟩
  ·rw [List.mem_singleton.1 hy] at e; exact hbno (e ▸ hx)
  ·rcases List.mem_append.1 hx with hx | hx
   ·exact h.r.rng x hx
   ·rw [List.mem_singleton.1 hx]; exact hbn
  ·rw [hWn x hx, List.mem_append, List.mem_singleton]
   by_cases e : b = x
   ·subst e; rw [if_pos rfl]; exact ⟨fun _ => hz, fun _ => .inr rfl⟩
   ·rw [if_neg e, ← h.r.mem x hx]
    exact ⟨fun h => h.resolve_right (fun e2 => e e2.symm), .inl⟩
  ·rw [List.length_append] at hi
   by_cases hil : i < row.length
   ·have e1 : nth (row ++ [b]) i = nth row i := by rw [zn (by simp; omega), zn hil, List.getElem_append_left hil]
    rw [e1] at hie
    obtain ⟨i', h1, h2⟩ := h.r.topo i hil e he hie
    exact ⟨i', h1, by rw [zn (by simp; omega), List.getElem_append_left (by omega), ← zn (by omega)]; exact h2⟩
   ·have : i = row.length := by simp at hi; omega
    subst this
    rw [zex] at hie
    have hz2 := hwt' b hbn
    rw [hWn b hbn, if_pos rfl, hz] at hz2
    have h3 := hadd b
    have h4 := hcl b
    have h5 : inW P (row0.take k ++ [nth row0 k]) b = 0 := by omega
    rw [← Zk hk] at h5
    have h6 := zel h5 e he hie
    obtain ⟨i', hi', e'⟩ := List.mem_take_iff_getElem.1 h6
    refine ⟨i', by rw [hext, List.length_append]; omega, ?_⟩
    rw [← e', hext, zn (by simp; omega), List.getElem_append_left (by simp; omega), List.getElem_append_left (by omega)]
 ·rw [if_neg hz]
  refine ⟨⟨by rw [List.length_set]; exact h.r.len, h.r.nd, h.r.rng, fun x hx => ?_, h.r.topo⟩, h.pre, fun x hx => by rw [hAe]; exact hwt' x hx⟩
  rw [hWn x hx]
  by_cases e : b = x
  ·subst e
   rw [if_pos rfl]
   exact ⟨fun h => absurd h hbno, fun h => absurd h hz⟩
  ·rw [if_neg e]; exact h.r.mem x hx
theorem KI.all (hin : ∀ e ∈ P, e.1 < n ∧ e.2 < n) {f : Nat → Nat} (hf : ∀ e ∈ P, f e.1 < f e.2) {row : List Nat} {W : List Int} (h : KI P n row.length row W) : row.length = n := by
 refine Nat.le_antisymm h.r.row_len (Nat.le_of_not_lt fun hlt => ?_)
 obtain ⟨a0, h0, h1⟩ := zc2 hlt
 obtain ⟨a, ha, hp, hmin⟩ := zev (f := f) (p := fun a => !decide (a ∈ row)) ⟨a0, h0, by simpa using h1⟩
 have hno : a ∉ row := by simpa using hp
 have hw := h.wt a ha
 rw [List.take_length] at hw
 have : inW P row a = 0 := by
  unfold inW
  rw [List.countP_eq_zero]
  intro e he hc
  simp only [Bool.and_eq_true, decide_eq_true_eq] at hc
  have h2 := hmin e.1 (hin e he).1 hc.2
  have h3 := hf e he
  rw [hc.1] at h3
  omega
 exact hno ((h.r.mem a ha).2 (by omega))
def Zg (P : Prs) (n k : Nat) : List Int := (List.range n).map fun b => ((P.take k).countP fun e => decide (e.2 = b) : Nat)
theorem xY (k : Nat) : (Zg P n k).length = n := by simp [Zg]
theorem ZZ {k b : Nat} (h : b < n) : nth (Zg P n k) b = ((P.take k).countP fun e => decide (e.2 = b) : Nat) := by unfold Zg; rw [zn (by simpa using h)]; simp
theorem ze1 : Zg P n 0 = List.replicate n 0 := by
 refine zG (by simp [xY]) fun i hi => ?_
 rw [xY] at hi
 rw [ZZ hi, zn (show i < (List.replicate n (0 : Int)).length by simpa using hi)]
 simp
theorem ze0 {k : Nat} (h : k < P.length) : Zg P n (k + 1) = (Zg P n k).set (nth P k).2 (nth (Zg P n k) (nth P k).2 + 1) := by
 refine zG (by simp [xY]) fun i hi => ?_
 rw [xY] at hi
 rw [ZZ hi, yY (by rw [xY]; exact hi), Zk h, List.countP_append]
 by_cases e : (nth P k).2 = i
 ·rw [if_pos e]
  subst e
  rw [ZZ hi]
  simp
 ·rw [if_neg e, ZZ hi]
  simp [e]
theorem zb9 {b : Nat} (h : b < n) : nth (Zg P n P.length) b = (inW P [] b : Int) := by
 rw [ZZ h, List.take_length]
 unfold inW
 simp
def zdQ (W : List Int) (k : Nat) : List Nat := (List.range k).filter fun b => decide (nth W b = 0)
theorem zho (W : List Int) (k : Nat) : zdQ W (k + 1) = zdQ W k ++ if nth W k = 0 then [k] else [] := by
 unfold zdQ
 rw [List.range_succ, List.filter_append]
 congr 1
 by_cases h : nth W k = 0 <;> simp [h]
theorem ziG (W : List Int) (k : Nat) : (zdQ W k).length ≤ k := by unfold zdQ; exact Nat.le_trans (List.length_filter_le _ _) (by simp)
theorem ziH {W : List Int} {k x : Nat} : x ∈ zdQ W k ↔ x < k ∧ nth W x = 0 := by unfold zdQ; rw [List.mem_filter, List.mem_range]; simp
theorem KI.first (hin : ∀ e ∈ P, e.1 < n ∧ e.2 < n) : KI P n 0 (zdQ (Zg P n P.length) n) (Zg P n P.length) where
 r := {
  len := xY _
  nd := List.nodup_range.sublist List.filter_sublist
  rng := fun x hx => List.mem_range.1 (List.mem_filter.1 hx).1
  mem := fun b hb => by
   unfold zdQ
   rw [List.mem_filter, List.mem_range]
   simp [hb]
  topo := fun i hi e he hie => by
   obtain ⟨h1', h2⟩ := ziH.1 (zK hi)
   rw [zb9 h1'] at h2
   have := zel (P := P) (V := []) (b := nth (zdQ (Zg P n P.length) n) i) (by omega) e he hie
   cases this }
 le := Nat.zero_le _
 wt b hb := by rw [zb9 hb]; rfl
end
inductive zhQ (P : Prs) : Nat → Nat → Prop where
 | one {a b : Nat} (h : (a, b) ∈ P) : zhQ P a b
 | step {a b c : Nat} (h : (a, b) ∈ P) (k : zhQ P b c) : zhQ P a c
open Classical in
noncomputable def xb (P : Prs) (a b : Nat) : Bool := decide (zhQ P a b)
open Classical in
theorem xP {P : Prs} {a b : Nat} : xb P a b = true ↔ zhQ P a b := by unfold xb; exact decide_eq_true_iff
theorem zhQ.rel {P : Prs} {R : Nat → Nat → Prop} (h1 : ∀ e ∈ P, R e.1 e.2) (ht : ∀ a b c, R a b → R b c → R a c) {a b : Nat} (h : zhQ P a b) : R a b := by
 induction h with
 | one h => exact h1 _ h
 | step h k ih => exact ht _ _ _ (h1 _ h) ih
theorem ZL {P : Prs} {n : Nat} {f : Nat → Nat} (hf : ∀ e ∈ P, f e.1 < f e.2) : zb0 (xb P) n := ⟨f, fun a b _ _ h => zhQ.rel (R := fun a b => f a < f b) hf (fun _ _ _ => Nat.lt_trans) (xP.1 h)⟩
noncomputable def ptB (P : Prs) (bs : List Nat) (x : Nat) : Bool := bs.any fun b => decide (x = b) || xb P b x
theorem zjI (P : Prs) : ptB P [] = fun _ => false := rfl
theorem ziv (P : Prs) (bs : List Nat) (b : Nat) : ptB P (bs ++ [b]) = fun x => (ptB P bs x || decide (x = b)) || xb P b x := by
 funext x
 unfold ptB
 rw [List.any_append]
 simp [Bool.or_assoc]
theorem zjH (P : Prs) (a : Nat) : ptB P (zam P a) = xb P a := by
 funext x
 rw [Bool.eq_iff_iff, xP]
 unfold ptB
 rw [List.any_eq_true]
 constructor
 ·rintro ⟨b, hb, h⟩
  rw [XX] at hb
  rw [Bool.or_eq_true, decide_eq_true_eq] at h
  rcases h with rfl | h
  ·exact .one hb
  ·exact .step hb (xP.1 h)
 ·intro h
  cases h with
  | one h => exact ⟨x, XX.2 h, by simp⟩
  | step h k => exact ⟨_, XX.2 h, by rw [Bool.or_eq_true]; exact .inr (xP.2 k)⟩
end Go.Proofs.Ytbeebjdnapkhhaa
