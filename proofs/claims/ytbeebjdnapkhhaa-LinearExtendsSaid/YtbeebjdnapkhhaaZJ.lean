/-
  Some texts as one: FmFam, FmSucc.
-/
import Derived.Test.YtbeebjdnapkhhaaZC
import Derived.Test.YtbeebjdnapkhhaaZD
/-
 Families of objects, one of them for each number of a range: their names told anew.
-/
namespace Go.Proofs.Ytbeebjdnapkhhaa
set_option linter.unusedVariables false
open Go.RowKit

def UB (k : Nat) : Nat → List (Nat × zp)
 | 0 => []
 | m + 1 => (k, {}) :: UB (k + 1) m
def ZH (N : Nat) : List (Nat × zp) := UB 0 N
def Xd (B n : Nat) (f : Nat → zp) : List (Nat × zp) := (List.range n).map fun v => (B + v, f v)
theorem yR {α : Type} {d : α} : ∀ {l m : List (Nat × α)} {k : Nat}, look d (l ++ m) k = if l.any (fun p => Nat.beq p.1 k) then look d l k else look d m k
 | [], m, k => by simp
 | p :: l, m, k => by
  obtain ⟨i, x⟩ := p
  rw [List.cons_append, zw, zw, yR, List.any_cons]
  by_cases h : i = k
  ·subst h; simp
  ·have : Nat.beq i k = false := by
    cases hb : Nat.beq i k with
    | true => exact absurd (Nat.eq_of_beq_eq_true hb) h
    | false => rfl
   simp only [if_neg h, this, Bool.false_or]
theorem zaT {p : Nat × zp} : ∀ {m k : Nat}, p ∈ UB k m → p.1 < k + m
 | 0, _, h => by cases h
 | m + 1, k, h => by
  rcases List.mem_cons.1 h with rfl | h
  ·show k < k + (m + 1); omega
  ·have := zaT h; omega
theorem zcL {k : Nat} {l : List (Nat × zp)} : ∀ {m q : Nat}, look {} (UB q m ++ l) k = if q ≤ k ∧ k < q + m then {} else look {} l k
 | 0, q => by rw [if_neg (by omega)]; rfl
 | m + 1, q => by
  show look ({} : zp) ((q, {}) :: (UB (q + 1) m ++ l)) k = _
  rw [zw, zcL]
  by_cases h : q = k
  ·subst h; simp
  ·rw [if_neg h]
   by_cases h2 : q + 1 ≤ k ∧ k < q + 1 + m
   ·rw [if_pos h2, if_pos (by omega)]
   ·rw [if_neg h2, if_neg (by omega)]
theorem zbx {N k : Nat} {l : List (Nat × zp)} : look {} (ZH N ++ l) k = if k < N then {} else look {} l k := by
 unfold ZH
 rw [zcL]
 simp
theorem Wj {B n k : Nat} {f : Nat → zp} : look {} (Xd B n f) k = if B ≤ k ∧ k < B + n then f (k - B) else {} := by
 have key : ∀ (L : List Nat), L.Nodup → look ({} : zp) (L.map fun v => (B + v, f v)) k = if ∃ v ∈ L, B + v = k then f (k - B) else {} := by
  intro L
  induction L with
  | nil => intro _; simp [look]
  | cons x L ih =>
   intro hn
   rw [List.nodup_cons] at hn
   rw [List.map_cons, zw, ih hn.2]
   by_cases h : B + x = k
   ·rw [if_pos h, if_pos ⟨x, by simp, h⟩, show k - B = x by omega]
   ·rw [if_neg h]
    by_cases h2 : ∃ v ∈ L, B + v = k
    ·rw [if_pos h2, if_pos (let ⟨v, h3, h4⟩ := h2; ⟨v, by simp [h3], h4⟩)]
    ·rw [if_neg h2, if_neg]
     rintro ⟨v, hv, e⟩
     rcases List.mem_cons.1 hv with rfl | hv
     ·exact h e
     ·exact h2 ⟨v, hv, e⟩
 unfold Xd
 rw [key _ List.nodup_range]
 by_cases h : B ≤ k ∧ k < B + n
 ·rw [if_pos h, if_pos ⟨k - B, List.mem_range.2 (by omega), by omega⟩]
 ·rw [if_neg h, if_neg]
  rintro ⟨v, hv, e⟩
  have := List.mem_range.1 hv
  omega
def zaK (B n : Nat) (s : Nat → Option Nat) (vo : Nat → Nat) (f : Nat → zp) : List Ent := (List.range n).map fun j => ⟨B + j, s j, vo j, f j⟩
theorem Yl {B n : Nat} {s : Nat → Option Nat} {vo : Nat → Nat} {f : Nat → zp} {j : Nat} (h : j < n) : (⟨B + j, s j, vo j, f j⟩ : Ent) ∈ zaK B n s vo f := List.mem_map.2 ⟨j, List.mem_range.2 h, rfl⟩
theorem zh5 (B n : Nat) (s : Nat → Option Nat) (vo : Nat → Nat) (f : Nat → zp) : ((zaK B n s vo f).map fun e => (e.new, e.b)) = Xd B n f := by
 unfold zaK Xd
 rw [List.map_map]
 rfl
def zhO (ob : List (Nat × zp)) (s : Option Nat) (vo : Nat) (b : zp) : Prop := (s = none ∧ b.life = .own ∧ b.es = []) ∨ ∃ i, s = some i ∧ look {} ob i = ⟨vo, b.life, b.E, b.sz, b.es⟩ ∧ b.life.plain = true
theorem yC.fam {L : List Nat} {ob : List (Nat × zp)} {M0 : List Ent} {B : Nat} {s : Nat → Option Nat} {vo : Nat → Nat} {f : Nat → zp} (h : ∀ j ∈ L, zhO ob (s j) (vo j) (f j)) : yC ob M0 (L.map fun j => (⟨B + j, s j, vo j, f j⟩ : Ent)) := by
 induction L with
 | nil => exact .nil
 | cons j L ih =>
  have hj := h j (by simp)
  have ih' := ih fun k hk => h k (by simp [hk])
  rw [List.map_cons]
  generalize s j = sj at hj
  generalize f j = b at hj
  obtain ⟨v, l, E, sz, es⟩ := b
  rcases hj with ⟨rfl, h1, h2⟩ | ⟨i, rfl, h1, h2⟩
  ·dsimp only at h1 h2; subst h1; subst h2; exact .new ih'
  ·exact .old h1 h2 rfl ih'
theorem yC.append {ob : List (Nat × zp)} {M0 M1 M2 : List Ent} (h1 : yC ob M0 M1) (h2 : yC ob M0 M2) : yC ob M0 (M1 ++ M2) := by
 induction h1 with
 | nil => exact h2
 | old h hl e _ ih => exact .old h hl e ih
 | new _ ih => exact .new ih
 | oldH h e _ ih => exact .oldH h e ih
 | oldK h e _ ih => exact .oldK h e ih
theorem zba.all {ob : List (Nat × zp)} : ∀ {M : List Ent}, (∀ q ∈ M, q.new < zf) → zba ob M
 | [], _ => .nil
 | q :: M, h => .low (by
     have := h q (by simp)
     cases hb : Nat.ble zf q.new with
     | false => rfl
     | true => have := Nat.le_of_ble_eq_true hb; omega) (zba.all fun p hp => h p (by simp [hp]))
theorem zbn {ob : List (Nat × zp)} (h : ∀ p ∈ ob, p.1 < zf) : zjx ob = true := List.all_eq_true.2 fun p hp => by
 have := h p hp
 cases hb : Nat.ble zf p.1 with
 | false => rfl
 | true => have := Nat.le_of_ble_eq_true hb; omega
theorem FLe.ext {t : List (Nat × FV)} {ob ob' : List (Nat × zp)} (h : ∀ k, look {} ob' k = look {} ob k) : FLe ⟨t, ob⟩ ⟨t, ob'⟩ := fun _ _ _ _ _ β hF => ⟨β, hF.ext (fun _ => rfl) h⟩
theorem FLe.pad {t : List (Nat × FV)} {C : List (Nat × zp)} {N B n : Nat} {f : Nat → zp} (h : N ≤ B) : FLe ⟨t, C ++ Xd B n f⟩ ⟨t, C ++ (ZH N ++ Xd B n f)⟩ := by
 refine FLe.ext fun k => ?_
 rw [yR, yR (l := C) (m := Xd B n f), zbx]
 split
 ·rfl
 ·split
  ·rw [Wj, if_neg (by omega)]
  ·rfl
theorem FLe.convF {t t' : List (Nat × FV)} {ob : List (Nat × zp)} (C : List Ent) (N B n : Nat) (s : Nat → Option Nat) (vo : Nat → Nat) (f : Nat → zp) (hNB : N ≤ B) (hBn : B + n ≤ zf) (hCl : C.all (fun q => Nat.blt q.new B) = true) (hCn : (C.map Ent.new).Nodup)
  (hsn : (C.filterMap Ent.src ++ (List.range n).filterMap s).Nodup) (hlow : ∀ p ∈ ob, p.1 < zf) (hf : ∀ j, j < n → zhO ob (s j) (vo j) (f j)) (hC : yC ob (C ++ zaK B n s vo f) C) (ht : SlC t (C ++ zaK B n s vo f) t') :
  FLe ⟨t, ob⟩ ⟨t', (C.map fun e => (e.new, e.b)) ++ (ZH N ++ Xd B n f)⟩ := by
 have hlt : ∀ q ∈ C, q.new < B := fun q hq => Nat.le_of_ble_eq_true (List.all_eq_true.1 hCl q hq)
 refine FLe.trans ?_ (FLe.pad hNB)
 rw [← zh5 B n s vo f, ← List.map_append]
 refine FLe.conv (C ++ zaK B n s vo f) ?_ ?_ (XZ (zbn hlow) _) (zba.all fun q hq => ?_) (hC.append (yC.fam fun j hj => hf j (List.mem_range.1 hj))) ht
 ·rw [List.map_append]
  refine List.nodup_append.2 ⟨hCn, ?_, fun a ha b hb => ?_⟩
  ·unfold zaK
   rw [List.map_map]
   exact List.Pairwise.map _ (fun a b (hab : a ≠ b) => by show B + a ≠ B + b; omega) List.nodup_range
  ·obtain ⟨q, hq, rfl⟩ := List.mem_map.1 ha
   obtain ⟨p, hp, rfl⟩ := List.mem_map.1 hb
   obtain ⟨j, hj, rfl⟩ := List.mem_map.1 hp
   have := hlt q hq
   dsimp only
   omega
 ·rw [List.filterMap_append]
  unfold zaK
  rw [List.filterMap_map]
  exact hsn
 ·rcases List.mem_append.1 hq with hq | hq
  ·have := hlt q hq; omega
  ·obtain ⟨j, hj, rfl⟩ := List.mem_map.1 hq
   have := List.mem_range.1 hj
   show B + j < zf
   omega
theorem zd6.of {M : List Ent} : ∀ {n : Nat} {c c' : Nat → FV}, (∀ j, j < n → zab M (c j) (c' j)) → zd6 M ((List.range n).map fun j => [c j]) ((List.range n).map fun j => [c' j]) := by
 intro n c c' h
 have key : ∀ L : List Nat, (∀ j ∈ L, zab M (c j) (c' j)) → zd6 M (L.map fun j => [c j]) (L.map fun j => [c' j]) := by
  intro L
  induction L with
  | nil => intro _; exact .nil
  | cons x L ih => intro h; exact .cons (h x (by simp)) (ih fun j hj => h j (by simp [hj]))
 exact key _ fun j hj => h j (List.mem_range.1 hj)
theorem zdi.of {M : List Ent} {sz n : Nat} {c c' : Nat → List FV} (hl : ∀ j, j < n → (c' j).length = sz) (h : ∀ j, j < n → zac M (c j) (c' j)) : zdi M sz ((List.range n).map c) ((List.range n).map c') := by
 have key : ∀ L : List Nat, (∀ j ∈ L, (c' j).length = sz) → (∀ j ∈ L, zac M (c j) (c' j)) → zdi M sz (L.map c) (L.map c') := by
  intro L
  induction L with
  | nil => intro _ _; exact .nil
  | cons x L ih => intro hl h; exact .cons (h x (by simp)) (hl x (by simp)) (ih (fun j hj => hl j (by simp [hj])) fun j hj => h j (by simp [hj]))
 exact key _ (fun j hj => hl j (List.mem_range.1 hj)) fun j hj => h j (List.mem_range.1 hj)
theorem Wn {α : Type} (n v : Nat) (f : Nat → α) (x : α) : ((List.range n).map f).set v x = (List.range n).map fun j => if j = v then x else f j := by
 apply List.ext_getElem
 ·simp
 ·intro i h1 h2
  rw [List.getElem_set, List.getElem_map, List.getElem_map, List.getElem_range]
  by_cases h : v = i
  ·subst h; simp
  ·rw [if_neg h, if_neg (fun e => h e.symm)]
theorem UJ {w : World} {base : Nat} {I I' : Nat → Prop} {βid : Option Nat} {ob : zp} {u : Value} {o n : Nat} (hg : Xp w βid ob u o n) (hr : zjk w base I βid ob) (hb : ∀ b, βid = some b → I' b) (hI : ∀ b, I b → I' b) : Rd w I' u (.list ob.sz ((ob.es.drop o).take n)) := by
 obtain ⟨A, cc, rfl, e2, e3, e4, e5⟩ := hg.ex
 have hw := hr.wide
 have hone := hr.one
 have hwd : ∀ e ∈ ob.es.drop o, e.length = ob.sz := fun e he => hw e (List.mem_of_mem_drop he)
 have hlen : ((ob.es.drop o).take n).length = n := by simp; omega
 have hfl : ((ob.es.drop o).take n).flatten = (ob.es.flatten.drop (o * ob.sz)).take (n * ob.sz) := by rw [Zq _ hwd, xN _ hw]
 have hone' : ∀ f ∈ ((ob.es.drop o).take n).flatten, f.one = true := fun f hf => by rw [hfl] at hf; exact hone f (List.mem_of_mem_drop (List.mem_of_mem_take hf))
 cases hbi : βid with
 | none =>
  obtain ⟨rfl, rfl⟩ := e4 hbi
  obtain rfl : n = 0 := by omega
  exact .list none 0 0 _ _ [] (by simp) (Nat.le_refl _) (by simp) (by simp) (by simp) (by simp) (by simp)
 | some b =>
  obtain ⟨o', rfl, k2, k3⟩ := e5 b hbi
  obtain ⟨v', us, r1, r2, r3⟩ := hr.row
  have hR : RdL w I' ((us.drop (o * ob.sz)).take (n * ob.sz)) ((ob.es.drop o).take n).flatten := by
   rw [hfl]
   exact ((r3.mono fun b hb => ⟨hI b hb, rfl⟩).drop _).take _
  refine .list _ n cc ob.sz _ _ hlen e2 (fun e he => hwd e (List.mem_of_mem_take he)) hone' (fun h0 => ⟨b, o', rfl, hb b hbi, fun j u hu => ?_⟩) hR.1 hR.2
  have := k2 (.inl (by omega))
  subst this
  rw [List.getElem?_take] at hu
  split at hu
  ·rw [List.getElem?_drop] at hu
   have hcell := r1.cells (g := b) (by rw [r2]; exact hbi) _ u hu
   rwa [yL, Nat.zero_add] at hcell
  ·cases hu
theorem FLe.deep {t : List (Nat × FV)} {ob : List (Nat × zp)} (id B n : Nat) {w E2 E sz : Nat} (vs : Nat → Nat) (es : Nat → List (List FV)) (h : look {} ob id = ⟨w, .hrow, E2, 1, (List.range n).map fun j => [.own (B + j) (vs j) 0 (es j).length]⟩)
  (hf : ∀ j, j < n → look {} ob (B + j) = ⟨vs j, .own, E, sz, es j⟩) (hid : id < B) : FLe ⟨t, ob⟩ ⟨t, (id, ⟨w, .own, E2, 1, (List.range n).map fun j => [.list sz (es j)]⟩) :: (Xd B n (fun j => ⟨vs j, .dead, E, sz, es j⟩) ++ ob)⟩ := by
 intro N w0 J a wd β hF
 refine ⟨β, ?_⟩
 have ho : (⟨t, ob⟩ : FSt).ob id = ⟨w, .hrow, E2, 1, (List.range n).map fun j => [.own (B + j) (vs j) 0 (es j).length]⟩ := h
 have hlive : ((⟨t, ob⟩ : FSt).ob id).life ≠ .dead := by rw [ho]; exact (by decide : zU.hrow ≠ .dead)
 obtain ⟨s', hs'⟩ : ∃ s' : FSt, s' = ⟨t, (id, ⟨w, .own, E2, 1, (List.range n).map fun j => [.list sz (es j)]⟩) :: (Xd B n (fun j => ⟨vs j, .dead, E, sz, es j⟩) ++ ob)⟩ := ⟨_, rfl⟩
 rw [← hs']
 have hob : ∀ k, s'.ob k = if id = k then ⟨w, .own, E2, 1, (List.range n).map fun j => [.list sz (es j)]⟩ else if B ≤ k ∧ k < B + n then ⟨vs (k - B), .dead, E, sz, es (k - B)⟩ else (⟨t, ob⟩ : FSt).ob k := fun k => by
  rw [hs']
  show look ({} : zp) _ k = _
  rw [zw]
  split
  ·rfl
  ·rw [yR]
   have hany : (Xd B n (fun j => (⟨vs j, .dead, E, sz, es j⟩ : zp))).any (fun p => Nat.beq p.1 k) = decide (B ≤ k ∧ k < B + n) := by
    rw [Bool.eq_iff_iff, List.any_eq_true, decide_eq_true_eq]
    constructor
    ·rintro ⟨p, hp, e⟩
     obtain ⟨j, hj, rfl⟩ := List.mem_map.1 hp
     have h1 := Nat.eq_of_beq_eq_true e
     have h2 := List.mem_range.1 hj
     dsimp only at h1
     omega
    ·intro hk
     exact ⟨(k, _), List.mem_map.2 ⟨k - B, List.mem_range.2 (by omega), by rw [show B + (k - B) = k by omega]⟩, Nat.beq_refl k⟩
   rw [hany, Wj]
   by_cases hk : B ≤ k ∧ k < B + n
   ·rw [decide_eq_true hk, if_pos rfl, if_pos hk, if_pos hk]
   ·rw [decide_eq_false hk, if_neg (by decide), if_neg hk]; rfl
 have hsub : ∀ k, (s'.ob k).life ≠ .dead → ((⟨t, ob⟩ : FSt).ob k).life ≠ .dead := fun k hl => by
  rw [hob] at hl
  split at hl
  ·rename_i e; subst e; exact hlive
  ·split at hl
   ·exact absurd rfl hl
   ·exact hl
 have hmine : ∀ k, (s'.ob k).life.mine = true → ((⟨t, ob⟩ : FSt).ob k).life.mine = true := fun k hl => by
  rw [hob] at hl
  split at hl
  ·rename_i e; subst e; rw [ho]; rfl
  ·split at hl
   ·cases hl
   ·exact hl
 have hI : ∀ b, Imm J wd β ⟨t, ob⟩ b → Imm J wd β s' b := fun b hb => ⟨hb.1, hb.2.1, fun k hl => hb.2.2 k (hmine k hl)⟩
 have hver : ∀ k, (s'.ob k).ver = ((⟨t, ob⟩ : FSt).ob k).ver := fun k => by
  rw [hob]
  split
  ·rename_i e; subst e; rw [ho]
  ·split
   ·rename_i hk
    have := hf (k - B) (by omega)
    rw [show B + (k - B) = k by omega] at this
    have e : (⟨t, ob⟩ : FSt).ob k = look ({} : zp) ob k := rfl
    rw [e, this]
   ·rfl
 refine hF.step (C := fun k => k = id ∨ (B ≤ k ∧ k < B + n)) hF.size hF.defers hF.bel (fun b hb => ⟨hI b hb, rfl⟩) (fun k => .inl ⟨rfl, by rw [hs']; rfl⟩) (fun k hC => ?_) (fun k _ => Nat.le_of_eq (hver k).symm) (fun k hC hl _ => ?_) (fun k hC hl T => ?_) (fun k k' b hl hl' e e' => hF.inj k k' b (hsub k hl) (hsub k' hl') e e') (fun b _ hn => ⟨rfl, fun k hl => hn k (hsub k hl)⟩)
 ·refine ⟨?_, rfl, fun _ _ _ => rfl⟩
  rw [hob, if_neg (fun e => hC (.inl e.symm)), if_neg (fun e => hC (.inr e))]
 ·rcases hC with rfl | hC
  ·refine ⟨hlive, rfl, by rw [hob, if_pos rfl, ho], by rw [hob, if_pos rfl, ho]; rfl, fun v o m hv => ?_⟩
   rw [ho] at hv
   obtain ⟨A, c, k1, k2, k3, k4, k5⟩ := hv.ex
   rw [hob, if_pos rfl]
   exact ⟨rfl, A, c, k1, k2, by simpa using k3, k4, k5⟩
  ·exfalso
   rw [hob, if_neg (by omega), if_pos hC] at hl
   exact hl rfl
 ·rcases hC with rfl | hC
  ·rw [hob, if_pos rfl]
   have hH := (hF.obj k hlive).rowH (by rw [ho]; rfl) (by rw [ho]; rfl)
   rw [ho] at hH
   obtain ⟨v, us, r1, r2, r3, r4⟩ := hH.row
   dsimp only at r1 r3 r4
   have hfl : ∀ (g : Nat → FV), ((List.range n).map fun j => [g j]).flatten = (List.range n).map g := fun g => by
    generalize List.range n = L
    induction L with
    | nil => rfl
    | cons x L ih => simp [ih]
   rw [hfl] at r3 r4
   refine .ofRow ⟨fun e he => ?_, fun f hf' => ?_, v, us, ?_, r2, ?_, fun j u f hu hff => ?_⟩ (.own rfl) rfl
   ·obtain ⟨j, _, rfl⟩ := List.mem_map.1 he; rfl
   ·dsimp only at hf'
    rw [hfl] at hf'
    obtain ⟨j, _, rfl⟩ := List.mem_map.1 hf'; rfl
   ·dsimp only
    rw [List.length_map] at r1 ⊢
    exact r1
   ·dsimp only
    rw [hfl, List.length_map] at *
    exact r3
   ·dsimp only at hff
    rw [hfl] at hff
    have hjn : j < n := by have := (List.getElem?_eq_some_iff.1 hff).1; simpa using this
    rw [List.getElem?_map, List.getElem?_range hjn] at hff
    injection hff with hff
    subst hff
    have hv := r4 j u _ hu (by rw [List.getElem?_map, List.getElem?_range hjn]; rfl)
    have hoj : (⟨t, ob⟩ : FSt).ob (B + j) = ⟨vs j, .own, E, sz, es j⟩ := hf j hjn
    have hlj : ((⟨t, ob⟩ : FSt).ob (B + j)).life ≠ .dead := by rw [hoj]; exact (by decide : zU.own ≠ .dead)
    have hov := hv hlj (by rw [hoj])
    have hO := hF.obj (B + j) hlj
    have hrr := hO.rowR (by rw [hoj]; rfl)
    have := UJ (I' := Imm J wd β s') hov hrr (fun b hb => ?_) hI
    ·rw [hoj] at this
     dsimp only at this
     rwa [List.drop_zero, List.take_length] at this
    ·have hlt := hO.lt hb
     refine ⟨hlt.2, hF.fresh b hlt.1 (.inr ⟨_, hlj, hb⟩), fun k' hl' e => ?_⟩
     have := hF.inj (B + j) k' b hlj (hsub k' (zU.mine_ne hl')) hb e
     subst this
     rw [hob, if_neg (by omega), if_pos ⟨by omega, by omega⟩] at hl'
     cases hl'
  ·exfalso
   rw [hob, if_neg (by omega), if_pos hC] at hl
   exact hl rfl
theorem zdy {n q B sz : Nat} {pre : Nat → List FV} {vs : Nat → Nat} {es : Nat → List (List FV)} (hq : ∀ j, j < n → (pre j).length = q ∧ (pre j).all FV.one = true) :
  ∀ (i : Nat) f f', ((List.range n).map fun j => pre j ++ [FV.own (B + j) (vs j) 0 (es j).length]).flatten[i]? = some f → ((List.range n).map fun j => pre j ++ [FV.list sz (es j)]).flatten[i]? = some f' →
   (f = f' ∧ f.one = true) ∨ ∃ j, j < n ∧ f = .own (B + j) (vs j) 0 (es j).length ∧ f' = .list sz (es j) := by
 have key : ∀ (L : List Nat), (∀ j ∈ L, j < n) → ∀ (i : Nat) f f', (L.map fun j => pre j ++ [FV.own (B + j) (vs j) 0 (es j).length]).flatten[i]? = some f → (L.map fun j => pre j ++ [FV.list sz (es j)]).flatten[i]? = some f' →
   (f = f' ∧ f.one = true) ∨ ∃ j, j < n ∧ f = .own (B + j) (vs j) 0 (es j).length ∧ f' = .list sz (es j) := by
  intro L
  induction L with
  | nil => intro _ i f f' h; simp at h
  | cons x L ih =>
   intro hL i f f' h h'
   rw [List.map_cons, List.flatten_cons, List.append_assoc] at h h'
   have hx := hq x (hL x (by simp))
   rcases Nat.lt_or_ge i (pre x).length with hi | hi
   ·rw [List.getElem?_append_left hi] at h h'
    rw [h] at h'
    injection h' with h'
    exact .inl ⟨h', List.all_eq_true.1 hx.2 f (List.mem_of_getElem? h)⟩
   ·rw [List.getElem?_append_right hi] at h h'
    generalize i - (pre x).length = k at h h'
    cases k with
    | zero =>
     simp at h h'
     exact .inr ⟨x, hL x (by simp), h.symm, h'.symm⟩
    | succ k =>
     exact ih (fun j hj => hL j (by simp [hj])) k f f' (by simpa using h) (by simpa using h')
 exact key _ fun j hj => List.mem_range.1 hj
theorem FLe.deepP {t : List (Nat × FV)} {ob : List (Nat × zp)} (id B n q : Nat) {w E2 E sz : Nat} (pre : Nat → List FV) (hq : ∀ j, j < n → (pre j).length = q ∧ (pre j).all FV.one = true) (vs : Nat → Nat) (es : Nat → List (List FV)) (h : look {} ob id = ⟨w, .hrow, E2, q + 1, (List.range n).map fun j => pre j ++ [.own (B + j) (vs j) 0 (es j).length]⟩)
  (hf : ∀ j, j < n → look {} ob (B + j) = ⟨vs j, .own, E, sz, es j⟩) (hid : id < B) : FLe ⟨t, ob⟩ ⟨t, (id, ⟨w, .own, E2, q + 1, (List.range n).map fun j => pre j ++ [.list sz (es j)]⟩) :: (Xd B n (fun j => ⟨vs j, .dead, E, sz, es j⟩) ++ ob)⟩ := by
 intro N w0 J a wd β hF
 refine ⟨β, ?_⟩
 have ho : (⟨t, ob⟩ : FSt).ob id = ⟨w, .hrow, E2, q + 1, (List.range n).map fun j => pre j ++ [.own (B + j) (vs j) 0 (es j).length]⟩ := h
 have hlive : ((⟨t, ob⟩ : FSt).ob id).life ≠ .dead := by rw [ho]; exact (by decide : zU.hrow ≠ .dead)
 obtain ⟨s', hs'⟩ : ∃ s' : FSt, s' = ⟨t, (id, ⟨w, .own, E2, q + 1, (List.range n).map fun j => pre j ++ [.list sz (es j)]⟩) :: (Xd B n (fun j => ⟨vs j, .dead, E, sz, es j⟩) ++ ob)⟩ := ⟨_, rfl⟩
 rw [← hs']
 have hob : ∀ k, s'.ob k = if id = k then ⟨w, .own, E2, q + 1, (List.range n).map fun j => pre j ++ [.list sz (es j)]⟩ else if B ≤ k ∧ k < B + n then ⟨vs (k - B), .dead, E, sz, es (k - B)⟩ else (⟨t, ob⟩ : FSt).ob k := fun k => by
  rw [hs']
  show look ({} : zp) _ k = _
  rw [zw]
  split
  ·rfl
  ·rw [yR]
   have hany : (Xd B n (fun j => (⟨vs j, .dead, E, sz, es j⟩ : zp))).any (fun p => Nat.beq p.1 k) = decide (B ≤ k ∧ k < B + n) := by
    rw [Bool.eq_iff_iff, List.any_eq_true, decide_eq_true_eq]
    constructor
    ·rintro ⟨p, hp, e⟩
     obtain ⟨j, hj, rfl⟩ := List.mem_map.1 hp
     have h1 := Nat.eq_of_beq_eq_true e
     have h2 := List.mem_range.1 hj
     dsimp only at h1
     omega
    ·intro hk
     exact ⟨(k, _), List.mem_map.2 ⟨k - B, List.mem_range.2 (by omega), by rw [show B + (k - B) = k by omega]⟩, Nat.beq_refl k⟩
   rw [hany, Wj]
   by_cases hk : B ≤ k ∧ k < B + n
   ·rw [decide_eq_true hk, if_pos rfl, if_pos hk, if_pos hk]
   ·rw [decide_eq_false hk, if_neg (by decide), if_neg hk]; rfl
 have hsub : ∀ k, (s'.ob k).life ≠ .dead → ((⟨t, ob⟩ : FSt).ob k).life ≠ .dead := fun k hl => by
  rw [hob] at hl
  split at hl
  ·rename_i e; subst e; exact hlive
  ·split at hl
   ·exact absurd rfl hl
   ·exact hl
 have hmine : ∀ k, (s'.ob k).life.mine = true → ((⟨t, ob⟩ : FSt).ob k).life.mine = true := fun k hl => by
  rw [hob] at hl
  split at hl
  ·rename_i e; subst e; rw [ho]; rfl
  ·split at hl
   ·cases hl
   ·exact hl
 have hI : ∀ b, Imm J wd β ⟨t, ob⟩ b → Imm J wd β s' b := fun b hb => ⟨hb.1, hb.2.1, fun k hl => hb.2.2 k (hmine k hl)⟩
 have hver : ∀ k, (s'.ob k).ver = ((⟨t, ob⟩ : FSt).ob k).ver := fun k => by
  rw [hob]
  split
  ·rename_i e; subst e; rw [ho]
  ·split
   ·rename_i hk
    have := hf (k - B) (by omega)
    rw [show B + (k - B) = k by omega] at this
    have e : (⟨t, ob⟩ : FSt).ob k = look ({} : zp) ob k := rfl
    rw [e, this]
   ·rfl
 refine hF.step (C := fun k => k = id ∨ (B ≤ k ∧ k < B + n)) hF.size hF.defers hF.bel (fun b hb => ⟨hI b hb, rfl⟩) (fun k => .inl ⟨rfl, by rw [hs']; rfl⟩) (fun k hC => ?_) (fun k _ => Nat.le_of_eq (hver k).symm) (fun k hC hl _ => ?_) (fun k hC hl T => ?_) (fun k k' b hl hl' e e' => hF.inj k k' b (hsub k hl) (hsub k' hl') e e') (fun b _ hn => ⟨rfl, fun k hl => hn k (hsub k hl)⟩)
 ·refine ⟨?_, rfl, fun _ _ _ => rfl⟩
  rw [hob, if_neg (fun e => hC (.inl e.symm)), if_neg (fun e => hC (.inr e))]
 ·rcases hC with rfl | hC
  ·refine ⟨hlive, rfl, by rw [hob, if_pos rfl, ho], by rw [hob, if_pos rfl, ho]; rfl, fun v o m hv => ?_⟩
   rw [ho] at hv
   obtain ⟨A, c, k1, k2, k3, k4, k5⟩ := hv.ex
   rw [hob, if_pos rfl]
   exact ⟨rfl, A, c, k1, k2, by simpa using k3, k4, k5⟩
  ·exfalso
   rw [hob, if_neg (by omega), if_pos hC] at hl
   exact hl rfl
 ·rcases hC with rfl | hC
  ·rw [hob, if_pos rfl]
   have hH := (hF.obj k hlive).rowH (by rw [ho]; rfl) (by rw [ho]; rfl)
   rw [ho] at hH
   obtain ⟨v, us, r1, r2, r3, r4⟩ := hH.row
   dsimp only at r1 r3 r4
   have hcells := zdy (B := B) (sz := sz) (vs := vs) (es := es) hq
   have hfll : ∀ g : Nat → FV, ((List.range n).map fun j => pre j ++ [g j]).flatten.length = n * (q + 1) := fun g => by
    rw [yx (sz := q + 1), List.length_map, List.length_range]
    intro e he
    obtain ⟨j, hj, rfl⟩ := List.mem_map.1 he
    rw [List.length_append, (hq j (List.mem_range.1 hj)).1]; rfl
   rw [hfll] at r3
   refine .ofRow ⟨fun e he => ?_, fun f hf' => ?_, v, us, ?_, r2, ?_, fun j u f hu hff => ?_⟩ (.own rfl) rfl
   ·obtain ⟨j, hj, rfl⟩ := List.mem_map.1 he
    rw [List.length_append, (hq j (List.mem_range.1 hj)).1]; rfl
   ·dsimp only at hf'
    obtain ⟨e, he, hf'⟩ := List.mem_flatten.1 hf'
    obtain ⟨j, hj, rfl⟩ := List.mem_map.1 he
    rcases List.mem_append.1 hf' with hf' | hf'
    ·exact List.all_eq_true.1 (hq j (List.mem_range.1 hj)).2 f hf'
    ·rw [List.mem_singleton.1 hf']; rfl
   ·dsimp only
    rw [List.length_map] at r1 ⊢
    exact r1
   ·dsimp only
    rw [hfll]
    exact r3
   ·dsimp only at hff
    have hju : j < us.length := (List.getElem?_eq_some_iff.1 hu).1
    have hjf : j < ((List.range n).map fun j => pre j ++ [FV.own (B + j) (vs j) 0 (es j).length]).flatten.length := by rw [hfll, ← r3]; exact hju
    have hff0 := List.getElem?_eq_getElem hjf
    have hv := r4 j u _ hu hff0
    rcases hcells j _ _ hff0 hff with ⟨e1, e2⟩ | ⟨i, hjn, e1, e2⟩
    ·rw [e1] at hv
     rw [e1] at e2
     have hn : f.hand = none := by cases f <;> first | rfl | (simp [FV.one] at e2)
     exact (VR.rd hv hn).mono fun b hb => ⟨hI b hb, rfl⟩
    subst e2
    rw [e1] at hv
    clear hff hff0 e1 hjf hju
    obtain ⟨j, hj⟩ : ∃ j, j = i := ⟨i, rfl⟩
    rw [← hj] at hjn hv ⊢
    clear hj
    have hoj : (⟨t, ob⟩ : FSt).ob (B + j) = ⟨vs j, .own, E, sz, es j⟩ := hf j hjn
    have hlj : ((⟨t, ob⟩ : FSt).ob (B + j)).life ≠ .dead := by rw [hoj]; exact (by decide : zU.own ≠ .dead)
    have hov := hv hlj (by rw [hoj])
    have hO := hF.obj (B + j) hlj
    have hrr := hO.rowR (by rw [hoj]; rfl)
    have := UJ (I' := Imm J wd β s') hov hrr (fun b hb => ?_) hI
    ·rw [hoj] at this
     dsimp only at this
     rwa [List.drop_zero, List.take_length] at this
    ·have hlt := hO.lt hb
     refine ⟨hlt.2, hF.fresh b hlt.1 (.inr ⟨_, hlj, hb⟩), fun k' hl' e => ?_⟩
     have := hF.inj (B + j) k' b hlj (hsub k' (zU.mine_ne hl')) hb e
     subst this
     rw [hob, if_neg (by omega), if_pos ⟨by omega, by omega⟩] at hl'
     cases hl'
  ·exfalso
   rw [hob, if_neg (by omega), if_pos hC] at hl
   exact hl rfl
theorem zkk {C : List (Nat × zp)} {N B n : Nat} {f : Nat → zp} (h1 : ∀ p ∈ C, p.1 < zf) (h2 : N ≤ zf) (h3 : B + n ≤ zf) : ∀ p ∈ C ++ (ZH N ++ Xd B n f), p.1 < zf := by
 intro p hp
 rcases List.mem_append.1 hp with hp | hp
 ·exact h1 p hp
 ·rcases List.mem_append.1 hp with hp | hp
  ·have := zaT hp; omega
  ·obtain ⟨j, hj, rfl⟩ := List.mem_map.1 hp
   have := List.mem_range.1 hj
   show B + j < zf
   omega
theorem yy {C : List (Nat × zp)} {N B n j : Nat} {f : Nat → zp} (hC : C.all (fun p => Nat.blt p.1 B) = true) (hN : N ≤ B) (hj : j < n) : look {} (C ++ (ZH N ++ Xd B n f)) (B + j) = f j := by
 rw [yR, zbx, Wj, if_neg, if_neg (by omega), if_pos ⟨by omega, by omega⟩, Nat.add_sub_cancel_left]
 intro h
 obtain ⟨p, hp, e⟩ := List.any_eq_true.1 h
 have h1 := Nat.le_of_ble_eq_true (List.all_eq_true.1 hC p hp)
 have h2 := Nat.eq_of_beq_eq_true e
 omega
theorem zcU {α : Type} (n : Nat) (x : α) : List.replicate n x = (List.range n).map fun _ => x := by
 apply List.ext_getElem
 ·simp
 ·intro i h1 h2; simp
theorem Zs {α : Type} (n v : Nat) (f : Nat → α) (h : v < n) : ((List.range n).map f)[v]? = some (f v) := by
 rw [List.getElem?_map, List.getElem?_range h]; rfl
def Low (ob : List (Nat × zp)) : Prop := ∀ p ∈ ob, p.1 < zf
theorem Low.nil : Low [] := fun p hp => by cases hp
theorem Low.cons {i : Nat} {b : zp} {l : List (Nat × zp)} (h : Nat.blt i zf = true) (hl : Low l) : Low ((i, b) :: l) := fun p hp => by
 rcases List.mem_cons.1 hp with rfl | hp
 ·exact Nat.le_of_ble_eq_true h
 ·exact hl p hp
theorem Low.fam {N B n : Nat} {f : Nat → zp} (h1 : Nat.ble N zf = true) (h2 : B + n ≤ zf) : Low (ZH N ++ Xd B n f) := by
 have := zkk (C := []) (N := N) (f := f) (by simp) (Nat.le_of_ble_eq_true h1) h2
 exact fun p hp => this p hp
theorem zcd (n a B : Nat) (x : Option Nat) (l : List Nat) (h1 : (l ++ x.toList).Nodup) (h2 : ∀ i ∈ l ++ x.toList, i < B ∨ i = B + a) : (l ++ (List.range n).filterMap fun j => if j = a then x else some (B + j)).Nodup := by
 have hx : ∀ i, x = some i → i ∉ l := fun i hi hl => by
  rw [hi] at h1
  exact (List.nodup_append.1 h1).2.2 i hl i (by simp) rfl
 refine List.nodup_append.2 ⟨(List.nodup_append.1 h1).1, ?_, fun i hi k hk e => ?_⟩
 ·refine List.Pairwise.filterMap _ (R := (· ≠ ·)) (fun j j' hjj i hi i' hi' e => ?_) List.nodup_range
  subst e
  by_cases h : j = a
  ·by_cases h' : j' = a
   ·exact hjj (h.trans h'.symm)
   ·rw [if_pos h] at hi
    rw [if_neg h'] at hi'
    have hi2 : i = B + j' := by simpa using hi'.symm
    have := h2 i (by simp; right; simpa using hi)
    omega
  ·by_cases h' : j' = a
   ·rw [if_neg h] at hi
    rw [if_pos h'] at hi'
    have hi2 : i = B + j := by simpa using hi.symm
    have := h2 i (by simp; right; simpa using hi')
    omega
   ·rw [if_neg h] at hi
    rw [if_neg h'] at hi'
    have h3 : i = B + j := by simpa using hi.symm
    have h4 : i = B + j' := by simpa using hi'.symm
    omega
 ·subst e
  obtain ⟨j, _, hj⟩ := List.mem_filterMap.1 hk
  split at hj
  ·exact hx i hj hi
  ·have h3 : i = B + j := by simpa using hj.symm
   have := h2 i (by simp [hi])
   rename_i hne
   omega
theorem FLe.convS {t t' : List (Nat × FV)} {ob : List (Nat × zp)} (C : List Ent) (B n a : Nat) (x : Option Nat) (vo : Nat → Nat) (f : Nat → zp) (hB : Nat.ble 200 B = true) (hBn : B + n ≤ zf) (hCl : C.all (fun q => Nat.blt q.new B) = true) (hCn : (C.map Ent.new).Nodup)
  (hs1 : (C.filterMap Ent.src ++ x.toList).Nodup) (hs2 : ∀ i ∈ C.filterMap Ent.src ++ x.toList, i < B ∨ i = B + a) (hlow : Low ob) (hf : ∀ j, j < n → zhO ob (if j = a then x else some (B + j)) (vo j) (f j)) (hC : yC ob (C ++ zaK B n (fun j => if j = a then x else some (B + j)) vo f) C) (ht : SlC t (C ++ zaK B n (fun j => if j = a then x else some (B + j)) vo f) t') :
  FLe ⟨t, ob⟩ ⟨t', (C.map fun e => (e.new, e.b)) ++ (ZH 200 ++ Xd B n f)⟩ :=
 FLe.convF C 200 B n _ vo f (Nat.le_of_ble_eq_true hB) hBn hCl hCn (zcd n a B x _ hs1 hs2) hlow hf hC ht
theorem FLe.convK {t t' : List (Nat × FV)} {ob : List (Nat × zp)} (C : List Ent) (B n : Nat) (vo : Nat → Nat) (f : Nat → zp) (hB : Nat.ble 200 B = true) (hBn : B + n ≤ zf) (hCl : C.all (fun q => Nat.blt q.new B) = true) (hCn : (C.map Ent.new).Nodup)
  (hs1 : (C.filterMap Ent.src).Nodup) (hs2 : ∀ i ∈ C.filterMap Ent.src, i < B) (hlow : Low ob) (hf : ∀ j, j < n → zhO ob (some (B + j)) (vo j) (f j)) (hC : yC ob (C ++ zaK B n (fun j => some (B + j)) vo f) C) (ht : SlC t (C ++ zaK B n (fun j => some (B + j)) vo f) t') :
  FLe ⟨t, ob⟩ ⟨t', (C.map fun e => (e.new, e.b)) ++ (ZH 200 ++ Xd B n f)⟩ :=
 FLe.convF C 200 B n _ vo f (Nat.le_of_ble_eq_true hB) hBn hCl hCn (by
  refine List.nodup_append.2 ⟨hs1, ?_, fun i hi k hk e => ?_⟩
  ·refine List.Pairwise.filterMap _ (R := (· ≠ ·)) (fun j j' hjj i hi i' hi' e => ?_) List.nodup_range
   injection hi with hi; injection hi' with hi'; omega
  ·obtain ⟨j, _, hj⟩ := List.mem_filterMap.1 hk
   injection hj with hj
   have := hs2 i hi
   omega) hlow hf hC ht
theorem FLe.convN {t t' : List (Nat × FV)} {ob : List (Nat × zp)} (C : List Ent) (B n : Nat) (f : Nat → zp) (hB : Nat.ble 200 B = true) (hBn : B + n ≤ zf) (hCl : C.all (fun q => Nat.blt q.new B) = true) (hCn : (C.map Ent.new).Nodup)
  (hs1 : (C.filterMap Ent.src).Nodup) (hlow : Low ob) (hf : ∀ j, j < n → (f j).life = .own ∧ (f j).es = []) (hC : yC ob (C ++ zaK B n (fun _ => none) (fun _ => 0) f) C) (ht : SlC t (C ++ zaK B n (fun _ => none) (fun _ => 0) f) t') :
  FLe ⟨t, ob⟩ ⟨t', (C.map fun e => (e.new, e.b)) ++ (ZH 200 ++ Xd B n f)⟩ :=
 FLe.convF C 200 B n _ _ f (Nat.le_of_ble_eq_true hB) hBn hCl hCn (by
  have : (List.range n).filterMap (fun _ => (none : Option Nat)) = [] := by induction List.range n <;> simp_all
  rw [this, List.append_nil]; exact hs1) hlow (fun j hj => .inl ⟨rfl, hf j hj⟩) hC ht
end Go.Proofs.Ytbeebjdnapkhhaa
/-
 The successors of each vertex, at plain values.
-/
namespace Go.Proofs.Ytbeebjdnapkhhaa
set_option linter.unusedVariables false
open Go.RowKit

def edf (e : Nat × Nat) : List FV := [.int .i64 (e.1 : Int), .int .i64 (e.2 : Int)]
def zkI (E : List (Nat × Nat)) (v k : Nat) : List Int := ((E.take k).filter fun e => decide (e.1 = v)).map fun e => (e.2 : Int)
def zk0 (z : List Int) : List Int := Lib.compact (z.mergeSort fun x y => decide (x ≤ y))
def zk1 (E : List (Nat × Nat)) (v : Nat) : List Int := zk0 (zkI E v E.length)
def zfJ (E : List (Nat × Nat)) (i j : Nat) : List Int := if j < i then zk1 E j else zkI E j E.length
end Go.Proofs.Ytbeebjdnapkhhaa
