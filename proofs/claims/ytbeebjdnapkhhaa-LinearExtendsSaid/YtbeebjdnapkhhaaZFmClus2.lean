/-
  linear.clusters: which clusters there are, and the walk.
-/
import Derived.Test.YtbeebjdnapkhhaaZFmClus
namespace Go.Proofs.Ytbeebjdnapkhhaa
set_option linter.unusedVariables false
open Go.RowKit

abbrev ClT := Bool × List Nat × Int
def zjy (l : List OpV) (c : Int) : Bool := l.any (Vt c 0)
def wrB (l : List OpV) (c : Int) (j : Nat) : Bool := decide ((nth l j).key = c) && (decide ((nth l j).k = 1) && zW l j)
theorem YZ {l : List OpV} {c : Int} {j : Nat} : wrB l c j = true ↔ (nth l j).key = c ∧ (nth l j).k = 1 ∧ zW l j = true := by simp [wrB]
def Vn (l : List OpV) (c : Int) (k : Nat) : List Nat := (List.range k).filter (wrB l c)
def YA (l : List OpV) (c v : Int) (k : Nat) : List Nat := (List.range k).filter fun j => Vt c v (nth l j)
def Yg (l : List OpV) (c : Int) (k : Nat) : List ClT := (if zjy l c = true then [(true, [], 0)] else []) ++ (Vn l c k).map fun w => (false, [w], (nth l w).arg)
def clT (l : List OpV) (c : Int) (k : Nat) (T : List ClT) : List ClV := T.map fun q => ⟨q.1, q.2.1 ++ YA l c q.2.2 k⟩
def Zf (l : List OpV) (c : Int) : List ClV := clT l c l.length (Yg l c l.length)
def zk8 (c : Int) (p : ClT × Nat) : List FV := [Vk c p.1.2.2, .int .i64 (p.2 : Int)]
def Zi (c : Int) (T : List ClT) : List (List FV) := T.zipIdx.map (zk8 c)
section
variable {l : List OpV} {c : Int}
theorem Zd (k : Nat) (T : List ClT) : (clT l c k T).length = T.length := by simp [clT]
theorem WA {k : Nat} {T : List ClT} {j : Nat} (h : j < T.length) : nth (clT l c k T) j = ⟨(nth T j).1, (nth T j).2.1 ++ YA l c (nth T j).2.2 k⟩ := by
 unfold clT
 rw [zi (by simpa using h), List.getElem_map, zi h]
theorem zaX (v : Int) (k : Nat) : YA l c v (k + 1) = YA l c v k ++ if Vt c v (nth l k) = true then [k] else [] := by
 unfold YA
 rw [List.range_succ, List.filter_append]
 congr 1
 by_cases h : Vt c v (nth l k) = true <;> simp [h]
theorem za9 (k : Nat) : Vn l c (k + 1) = Vn l c k ++ if wrB l c k = true then [k] else [] := by
 unfold Vn
 rw [List.range_succ, List.filter_append]
 congr 1
 by_cases h : wrB l c k = true <;> simp [h]
theorem Xa {k j : Nat} : j ∈ Vn l c k ↔ j < k ∧ wrB l c j = true := by unfold Vn; rw [List.mem_filter, List.mem_range]
theorem YS {v : Int} {k j : Nat} : j ∈ YA l c v k ↔ j < k ∧ Vt c v (nth l j) = true := by unfold YA; rw [List.mem_filter, List.mem_range]
theorem ziT {k : Nat} (h : wrB l c k = true) : Yg l c (k + 1) = Yg l c k ++ [(false, [k], (nth l k).arg)] := by
 unfold Yg; rw [za9, if_pos h, List.map_append, ← List.append_assoc]; rfl
theorem zjT {k : Nat} (h : wrB l c k = false) : Yg l c (k + 1) = Yg l c k := by
 have e : Vn l c (k + 1) = Vn l c k := by rw [za9, if_neg (by rw [h]; decide), List.append_nil]
 unfold Yg; rw [e]
theorem Vu {k : Nat} : (Yg l c k).length ≤ k + 1 := by
 unfold Yg
 have : (Vn l c k).length ≤ k := by unfold Vn; exact Nat.le_trans (List.length_filter_le _ _) (by simp)
 split <;> simp <;> omega
theorem Yv {k : Nat} {q : ClT} : q ∈ Yg l c k ↔ (zjy l c = true ∧ q = (true, [], 0)) ∨ ∃ w, w < k ∧ wrB l c w = true ∧ q = (false, [w], (nth l w).arg) := by
 unfold Yg
 rw [List.mem_append, List.mem_map]
 constructor
 ·rintro (h | ⟨w, hw, rfl⟩)
  ·split at h
   ·rename_i h0; exact .inl ⟨h0, by simpa using h⟩
   ·cases h
  ·obtain ⟨h1, h2⟩ := Xa.1 hw
   exact .inr ⟨w, h1, h2, rfl⟩
 ·rintro (⟨h0, rfl⟩ | ⟨w, h1, h2, rfl⟩)
  ·left; rw [if_pos h0]; simp
  ·exact .inr ⟨w, Xa.2 ⟨h1, h2⟩, rfl⟩
theorem zde (D : yq l) {k : Nat} (hk : k ≤ l.length) : ((Yg l c k).map fun q => q.2.2).Nodup := by
 unfold Yg
 rw [List.map_append, List.map_map]
 refine List.nodup_append.2 ⟨by split <;> simp, ?_, fun a ha b hb e => ?_⟩
 ·show ((Vn l c k).map fun w => (nth l w).arg).Nodup
  refine (List.pairwise_map.2 ?_)
  refine (List.Pairwise.imp_of_mem ?_ (show (Vn l c k).Pairwise (· ≠ ·) from List.nodup_range.sublist List.filter_sublist))
  intro a b ha hb hne e
  obtain ⟨a1, a2⟩ := Xa.1 ha
  obtain ⟨b1, b2⟩ := Xa.1 hb
  rw [YZ] at a2 b2
  exact hne (D.uniq (by omega) (by omega) a2.2.1 b2.2.1 (a2.1.trans b2.1.symm) e)
 ·obtain ⟨w, hw, rfl⟩ := List.mem_map.1 hb
  obtain ⟨b1, b2⟩ := Xa.1 hw
  rw [YZ] at b2
  have : a = 0 := by
   split at ha
   ·simpa using ha
   ·cases ha
  have e : a = (nth l w).arg := e
  exact D.arg (by omega) b2.2.1 (by rw [← e, this])
theorem zee (T : List ClT) : clT l c 0 T = T.map fun q => ⟨q.1, q.2.1⟩ := by
 unfold clT
 refine List.map_congr_left fun q _ => ?_
 show ClV.mk _ (q.2.1 ++ []) = _
 rw [List.append_nil]
theorem zjo {T : List ClT} {k j : Nat} (hj : j < T.length) (hn : (T.map fun q => q.2.2).Nodup) (h : Vt c (nth T j).2.2 (nth l k) = true) : clT l c (k + 1) T = (clT l c k T).set j ⟨(nth (clT l c k T) j).ini, (nth (clT l c k T) j).ops ++ [k]⟩ := by
 have hjl : j < (clT l c k T).length := by rw [Zd]; exact hj
 refine zy (by rw [List.length_set, Zd, Zd]) fun i hi => ?_
 rw [Zd] at hi
 rw [WA hi, yX (by rw [Zd]; exact hi), zaX]
 by_cases e : j = i
 ·subst e
  rw [if_pos rfl, if_pos h, WA hj]
  dsimp only
  rw [List.append_assoc]
 ·rw [if_neg e, if_neg, List.append_nil, WA hi]
  intro h2
  rw [yO] at h h2
  have e2 : (nth T j).2.2 = (nth T i).2.2 := h.2.2.2.symm.trans h2.2.2.2
  have := (List.getElem_inj (h₀ := by simpa using hj) (h₁ := by simpa using hi) hn).1 (by rw [List.getElem_map, List.getElem_map, ← zi hj, ← zi hi]; exact e2)
  exact e this
theorem zhW {T : List ClT} {k : Nat} (h : ∀ v, Vt c v (nth l k) = false) : clT l c (k + 1) T = clT l c k T := by
 unfold clT
 refine List.map_congr_left fun q _ => ?_
 rw [zaX, if_neg (by rw [h]; decide), List.append_nil]
theorem zgX (T : List ClT) (q : ClT) : Zi c (T ++ [q]) = Zi c T ++ [[Vk c q.2.2, .int .i64 (T.length : Int)]] := by
 unfold Zi
 rw [List.zipIdx_append, List.map_append]
 simp [zk8]
theorem zgY {T : List ClT} {j : Nat} (h : j < T.length) : [Vk c (nth T j).2.2, .int .i64 (j : Int)] ∈ Zi c T := by
 unfold Zi
 refine List.mem_map.2 ⟨(T[j], j), ?_, by rw [zi h]; rfl⟩
 rw [List.mem_zipIdx_iff_getElem?]
 simp [h]
theorem zfn {T : List ClT} {v : Int} (h : ∀ q ∈ T, q.2.2 ≠ v) : ∀ row ∈ Zi c T, row.head? ≠ some (Vk c v) := fun row hr he => by
 obtain ⟨p, hp, rfl⟩ := List.mem_map.1 hr
 injection he with he
 exact h p.1 (List.fst_mem_of_mem_zipIdx hp) (zcH he).2
theorem zcO {T : List ClT} (hc : I64 c) (h : ∀ q ∈ T, I64 q.2.2) : ∀ row ∈ Zi c T, ∀ kf, row.head? = some kf → XN Try.prog 104 kf := fun row hr kf hk => by
 obtain ⟨p, hp, rfl⟩ := List.mem_map.1 hr
 injection hk with hk
 subst hk
 exact zau hc (h p.1 (List.fst_mem_of_mem_zipIdx hp))
theorem zhE (hin : ∀ o ∈ l, zdm o) {k : Nat} (hk : k ≤ l.length) : ∀ q ∈ Yg l c k, I64 q.2.2 := fun q hq => by
 rcases Yv.1 hq with ⟨_, rfl⟩ | ⟨w, hw, _, rfl⟩
 ·exact ⟨by decide, by decide⟩
 ·exact (hin _ (zn (show w < l.length by omega))).2.2.2.1
theorem zdd (D : yq l) {r : Nat} (hr : r < l.length) (hk : (nth l r).key = c) (h0 : (nth l r).k = 0) (hd : (nth l r).done = true) (ht : zfP l r = false) : ∃ j, j < (Yg l c l.length).length ∧ (nth (Yg l c l.length) j).2.2 = (nth l r).res := by
 have key : ∃ q ∈ Yg l c l.length, q.2.2 = (nth l r).res := by
  by_cases hz : (nth l r).res = 0
  ·exact ⟨_, Yv.2 (.inl ⟨Yi.2 ⟨r, hr, yO.2 ⟨h0, hd, hk, hz⟩⟩, rfl⟩), hz.symm⟩
  ·unfold zfP at ht
   rw [decide_eq_true h0, hd, decide_eq_true hz, Bool.true_and, Bool.true_and, Bool.true_and] at ht
   cases hw : wIx l (nth l r).key (nth l r).res with
   | none => rw [hw] at ht; cases ht
   | some w =>
    obtain ⟨w1, w2, _⟩ := Zk hw
    rw [YW] at w2
    exact ⟨_, Yv.2 (.inr ⟨w, w1, YZ.2 ⟨w2.2.1.trans hk, w2.1, zd4 hr h0 hd w1 w2.1 w2.2.1 w2.2.2⟩, rfl⟩), w2.2.2⟩
 obtain ⟨q, hq, e⟩ := key
 obtain ⟨j, hj, rfl⟩ := List.getElem_of_mem hq
 exact ⟨j, hj, by rw [zi hj]; exact e⟩
end
def xg (C : List ClV) (j : Nat) : List FV := [.bool (nth C j).ini, .own (1000 + j) 0 0 (nth C j).ops.length]
def xf (C : List ClV) (j : Nat) : zp := ⟨0, .own, 3, 1, (nth C j).ops.map zQ⟩
theorem zbB {α : Type} [Inhabited α] {a b : List α} {j : Nat} (h : j < a.length) : nth (a ++ b) j = nth a j := by
 rw [zi h, zi (by simp; omega), List.getElem_append_left h]
theorem zbC {α : Type} [Inhabited α] {a : List α} {x : α} : nth (a ++ [x]) a.length = x := by
 rw [zi (by simp)]; simp
theorem FLe.clKeep {t t' : List (Nat × FV)} {ob : List (Nat × zp)} {C : List ClV} (hC : C.length ≤ 1000) (E : List Ent) (i v : Nat) (hlow : Low ob) (hi : i < 1000) (hEl : E.all (fun q => Nat.blt q.new 100) = true ∧ E.all (fun q => match q.src with | some k => Nat.blt k 1000 && !Nat.beq k i | none => true) = true ∧ (E.map Ent.new).Nodup ∧ (E.filterMap Ent.src).Nodup)
  (h1 : look {} ob i = ⟨v, .hrow, 112, 2, (List.range C.length).map (xg C)⟩) (hf : ∀ j, j < C.length → look {} ob (1000 + j) = xf C j)
  (hE : yC ob ((⟨100, some i, v, ⟨0, .hrow, 112, 2, (List.range C.length).map (xg C)⟩⟩ :: E) ++ zaK 1000 C.length (fun j => some (1000 + j)) (fun _ => 0) (xf C)) E)
  (ht : SlC t ((⟨100, some i, v, ⟨0, .hrow, 112, 2, (List.range C.length).map (xg C)⟩⟩ :: E) ++ zaK 1000 C.length (fun j => some (1000 + j)) (fun _ => 0) (xf C)) t') :
  FLe ⟨t, ob⟩ ⟨t', (100, ⟨0, .hrow, 112, 2, (List.range C.length).map (xg C)⟩) :: (E.map fun e => (e.new, e.b)) ++ (ZH 200 ++ Xd 1000 C.length (xf C))⟩ := by
 obtain ⟨e1, e2, e3, e4⟩ := hEl
 have e1' : ∀ q ∈ E, q.new < 100 := fun q hq => Nat.le_of_ble_eq_true (List.all_eq_true.1 e1 q hq)
 have e2' : ∀ k ∈ E.filterMap Ent.src, k < 1000 ∧ k ≠ i := fun k hk => by
  obtain ⟨q, hq, hs⟩ := List.mem_filterMap.1 hk
  have := List.all_eq_true.1 e2 q hq
  rw [hs] at this
  simp only [Bool.and_eq_true, Bool.not_eq_true'] at this
  exact ⟨Nat.le_of_ble_eq_true this.1, fun e => by rw [e, Nat.beq_refl] at this; exact absurd this.2 (by decide)⟩
 refine FLe.convK (⟨100, some i, v, ⟨0, .hrow, 112, 2, (List.range C.length).map (xg C)⟩⟩ :: E) 1000 C.length (fun _ => 0) (xf C) rfl (by unfold zf; omega) ?_ ?_ ?_ ?_ hlow (fun j hj => .inr ⟨_, rfl, hf j hj, rfl⟩) (.oldK h1 (zdi.of (fun j _ => rfl) fun j hj => ?_) hE) ht
 ·refine List.all_eq_true.2 fun q hq => ?_
  rcases List.mem_cons.1 hq with rfl | hq
  ·rfl
  ·exact Nat.ble_eq_true_of_le (by have := e1' q hq; omega)
 ·rw [List.map_cons, List.nodup_cons]
  refine ⟨fun hm => ?_, e3⟩
  obtain ⟨q, hq, e⟩ := List.mem_map.1 hm
  have := e1' q hq
  have e : q.new = 100 := e
  omega
 ·rw [List.filterMap_cons]
  exact List.nodup_cons.2 ⟨fun hm => (e2' i hm).2 rfl, e4⟩
 ·intro k hk
  rw [List.filterMap_cons] at hk
  rcases List.mem_cons.1 hk with rfl | hk
  ·exact hi
  ·exact (e2' k hk).1
 ·have hm := Yl (B := 1000) (s := fun j => some (1000 + j)) (vo := fun _ => 0) (f := xf C) hj
  exact .cons (.plain rfl rfl) (.cons (.own (List.mem_append_right _ hm) rfl rfl rfl) .nil)
theorem FLe.clPut {t t' : List (Nat × FV)} {ob : List (Nat × zp)} {C : List ClV} (n : Nat) (hn : C.length = n) (hC : n ≤ 1000) (E : List Ent) (i v a x vx : Nat) (g : Nat → List FV) (hlow : Low ob) (hi : i < 1000) (hx : x < 1000) (hix : i ≠ x) (hEl : E.all (fun q => Nat.blt q.new 100) = true ∧ E.all (fun q => match q.src with | some k => Nat.blt k 1000 && !Nat.beq k i && !Nat.beq k x | none => true) = true ∧ (E.map Ent.new).Nodup ∧ (E.filterMap Ent.src).Nodup)
  (h1 : look {} ob i = ⟨v, .hrow, 112, 2, (List.range n).map g⟩) (hg : ∀ j, j < n → j ≠ a → g j = xg C j ∧ look {} ob (1000 + j) = xf C j)
  (ha : g a = [.bool (nth C a).ini, .own x vx 0 (nth C a).ops.length]) (hax : look {} ob x = ⟨vx, .own, 3, 1, (nth C a).ops.map zQ⟩)
  (hE : yC ob ((⟨100, some i, v, ⟨0, .hrow, 112, 2, (List.range n).map (xg C)⟩⟩ :: E) ++ zaK 1000 n (fun j => if j = a then some x else some (1000 + j)) (fun j => if j = a then vx else 0) (xf C)) E)
  (ht : SlC t ((⟨100, some i, v, ⟨0, .hrow, 112, 2, (List.range n).map (xg C)⟩⟩ :: E) ++ zaK 1000 n (fun j => if j = a then some x else some (1000 + j)) (fun j => if j = a then vx else 0) (xf C)) t') :
  FLe ⟨t, ob⟩ ⟨t', (100, ⟨0, .hrow, 112, 2, (List.range n).map (xg C)⟩) :: (E.map fun e => (e.new, e.b)) ++ (ZH 200 ++ Xd 1000 n (xf C))⟩ := by
 obtain ⟨e1, e2, e3, e4⟩ := hEl
 have e1' : ∀ q ∈ E, q.new < 100 := fun q hq => Nat.le_of_ble_eq_true (List.all_eq_true.1 e1 q hq)
 have e2' : ∀ k ∈ E.filterMap Ent.src, k < 1000 ∧ k ≠ i ∧ k ≠ x := fun k hk => by
  obtain ⟨q, hq, hs⟩ := List.mem_filterMap.1 hk
  have := List.all_eq_true.1 e2 q hq
  rw [hs] at this
  simp only [Bool.and_eq_true, Bool.not_eq_true'] at this
  exact ⟨Nat.le_of_ble_eq_true this.1.1, fun e => by rw [e, Nat.beq_refl] at this; exact absurd this.1.2 (by decide), fun e => by rw [e, Nat.beq_refl] at this; exact absurd this.2 (by decide)⟩
 refine FLe.convS (⟨100, some i, v, ⟨0, .hrow, 112, 2, (List.range n).map (xg C)⟩⟩ :: E) 1000 n a (some x) (fun j => if j = a then vx else 0) (xf C) rfl (by unfold zf; omega) ?_ ?_ ?_ ?_ hlow (fun j hj => ?_) (.oldK h1 (zdi.of (fun j _ => rfl) fun j hj => ?_) hE) ht
 ·refine List.all_eq_true.2 fun q hq => ?_
  rcases List.mem_cons.1 hq with rfl | hq
  ·rfl
  ·exact Nat.ble_eq_true_of_le (by have := e1' q hq; omega)
 ·rw [List.map_cons, List.nodup_cons]
  refine ⟨fun hm => ?_, e3⟩
  obtain ⟨q, hq, e⟩ := List.mem_map.1 hm
  have := e1' q hq
  have e : q.new = 100 := e
  omega
 ·rw [List.filterMap_cons]
  refine List.nodup_append.2 ⟨List.nodup_cons.2 ⟨fun hm => (e2' i hm).2.1 rfl, e4⟩, by simp, fun k hk k' hk' e => ?_⟩
  have : k' = x := by simpa using hk'
  subst this
  subst e
  rcases List.mem_cons.1 hk with e | hk
  ·exact hix e.symm
  ·exact (e2' _ hk).2.2 rfl
 ·intro k hk
  rw [List.filterMap_cons] at hk
  left
  rcases List.mem_append.1 hk with hk | hk
  ·rcases List.mem_cons.1 hk with rfl | hk
   ·exact hi
   ·exact (e2' k hk).1
  ·have : k = x := by simpa using hk
   omega
 ·by_cases hja : j = a
  ·subst hja
   rw [if_pos rfl, if_pos rfl]
   exact .inr ⟨x, rfl, hax, rfl⟩
  ·rw [if_neg hja, if_neg hja]
   exact .inr ⟨_, rfl, (hg j hj hja).2, rfl⟩
 ·have hm := Yl (B := 1000) (s := fun j => if j = a then some x else some (1000 + j)) (vo := fun j => if j = a then vx else 0) (f := xf C) hj
  by_cases hja : j = a
  ·subst hja
   rw [ha]
   simp only [if_pos] at hm
   exact .cons (.plain rfl rfl) (.cons (.own (List.mem_append_right _ hm) rfl rfl rfl) .nil)
  ·rw [(hg j hj hja).1]
   simp only [if_neg hja] at hm
   exact .cons (.plain rfl rfl) (.cons (.own (List.mem_append_right _ hm) rfl rfl rfl) .nil)
theorem FLe.clOpen {t t' : List (Nat × FV)} {ob : List (Nat × zp)} {C : List ClV} (hC : C.length ≤ 1000) (E : List Ent) (a : Nat) (ha : a < C.length) (hlow : Low ob) (hEl : E.all (fun q => Nat.blt q.new 100) = true ∧ E.all (fun q => match q.src with | some k => Nat.blt k 1000 && !Nat.beq k 100 | none => true) = true ∧ (E.map Ent.new).Nodup ∧ (E.filterMap Ent.src).Nodup)
  (h1 : look {} ob 100 = ⟨0, .hrow, 112, 2, (List.range C.length).map (xg C)⟩) (hf : ∀ j, j < C.length → look {} ob (1000 + j) = xf C j)
  (hE : yC ob ((⟨100, some 100, 0, ⟨0, .hrow, 112, 2, (List.range C.length).map fun j => if j = a then [.bool (nth C a).ini, .own 150 0 0 (nth C a).ops.length] else xg C j⟩⟩ :: ⟨150, some (1000 + a), 0, xf C a⟩ :: E) ++ zaK 1000 C.length (fun j => if j = a then none else some (1000 + j)) (fun _ => 0) (fun j => if j = a then ⟨0, .own, 3, 1, []⟩ else xf C j)) E)
  (ht : SlC t ((⟨100, some 100, 0, ⟨0, .hrow, 112, 2, (List.range C.length).map fun j => if j = a then [.bool (nth C a).ini, .own 150 0 0 (nth C a).ops.length] else xg C j⟩⟩ :: ⟨150, some (1000 + a), 0, xf C a⟩ :: E) ++ zaK 1000 C.length (fun j => if j = a then none else some (1000 + j)) (fun _ => 0) (fun j => if j = a then ⟨0, .own, 3, 1, []⟩ else xf C j)) t') :
  FLe ⟨t, ob⟩ ⟨t', (100, ⟨0, .hrow, 112, 2, (List.range C.length).map fun j => if j = a then [.bool (nth C a).ini, .own 150 0 0 (nth C a).ops.length] else xg C j⟩) :: (150, xf C a) :: (E.map fun e => (e.new, e.b)) ++ (ZH 200 ++ Xd 1000 C.length fun j => if j = a then ⟨0, .own, 3, 1, []⟩ else xf C j)⟩ := by
 obtain ⟨e1, e2, e3, e4⟩ := hEl
 have e1' : ∀ q ∈ E, q.new < 100 := fun q hq => Nat.le_of_ble_eq_true (List.all_eq_true.1 e1 q hq)
 have e2' : ∀ k ∈ E.filterMap Ent.src, k < 1000 ∧ k ≠ 100 := fun k hk => by
  obtain ⟨q, hq, hs⟩ := List.mem_filterMap.1 hk
  have := List.all_eq_true.1 e2 q hq
  rw [hs] at this
  simp only [Bool.and_eq_true, Bool.not_eq_true'] at this
  exact ⟨Nat.le_of_ble_eq_true this.1, fun e => by rw [e] at this; exact absurd this.2 (by decide)⟩
 refine FLe.convS (⟨100, some 100, 0, ⟨0, .hrow, 112, 2, (List.range C.length).map fun j => if j = a then [.bool (nth C a).ini, .own 150 0 0 (nth C a).ops.length] else xg C j⟩⟩ :: ⟨150, some (1000 + a), 0, xf C a⟩ :: E) 1000 C.length a none (fun _ => 0) (fun j => if j = a then ⟨0, .own, 3, 1, []⟩ else xf C j) rfl (by unfold zf; omega) ?_ ?_ ?_ ?_ hlow (fun j hj => ?_) (.oldK h1 (zdi.of (fun j _ => ?_) fun j hj => ?_) (.old (hf a ha) rfl rfl hE)) ht
 ·refine List.all_eq_true.2 fun q hq => ?_
  rcases List.mem_cons.1 hq with rfl | hq
  ·rfl
  rcases List.mem_cons.1 hq with rfl | hq
  ·rfl
  ·exact Nat.ble_eq_true_of_le (by have := e1' q hq; omega)
 ·rw [List.map_cons, List.map_cons, List.nodup_cons, List.nodup_cons]
  have hno : ∀ z : Nat, 100 ≤ z → z ∉ E.map Ent.new := fun z hz hm => by
   obtain ⟨q, hq, e⟩ := List.mem_map.1 hm
   have := e1' q hq
   omega
  exact ⟨fun hm => by
   rcases List.mem_cons.1 hm with e | hm
   ·exact absurd (show (100 : Nat) = 150 from e) (by decide)
   ·exact hno _ (Nat.le_refl _) hm, hno _ (by show 100 ≤ 150; omega), e3⟩
 ·rw [List.filterMap_cons, List.filterMap_cons]
  show ((100 :: (1000 + a) :: E.filterMap Ent.src) ++ []).Nodup
  rw [List.append_nil, List.nodup_cons, List.nodup_cons]
  exact ⟨fun hm => by
   rcases List.mem_cons.1 hm with e | hm
   ·omega
   ·exact (e2' _ hm).2 rfl, fun hm => by have := (e2' _ hm).1; omega, e4⟩
 ·intro k hk
  rw [List.filterMap_cons, List.filterMap_cons] at hk
  have hk : k ∈ (100 :: (1000 + a) :: E.filterMap Ent.src) ++ [] := hk
  rw [List.append_nil] at hk
  rcases List.mem_cons.1 hk with rfl | hk
  ·left; omega
  rcases List.mem_cons.1 hk with rfl | hk
  ·exact .inr rfl
  ·exact .inl (e2' k hk).1
 ·by_cases hja : j = a
  ·rw [if_pos hja, if_pos hja]; exact .inl ⟨rfl, rfl, rfl⟩
  ·rw [if_neg hja, if_neg hja]; exact .inr ⟨_, rfl, hf j hj, rfl⟩
 ·split <;> rfl
 ·by_cases hja : j = a
  ·subst hja
   rw [if_pos rfl]
   exact .cons (.plain rfl rfl) (.cons (.own (List.mem_cons_of_mem _ (List.mem_cons_self ..)) rfl rfl rfl) .nil)
  ·rw [if_neg hja]
   have hm := Yl (B := 1000) (s := fun j => if j = a then none else some (1000 + j)) (vo := fun _ => 0) (f := fun j => if j = a then ⟨0, .own, 3, 1, []⟩ else xf C j) hj
   simp only [if_neg hja] at hm
   exact .cons (.plain rfl rfl) (.cons (.own (List.mem_append_right _ hm) rfl rfl rfl) .nil)
end Go.Proofs.Ytbeebjdnapkhhaa
