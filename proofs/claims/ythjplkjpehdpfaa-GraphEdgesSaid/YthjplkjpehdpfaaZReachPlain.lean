/-
  graph.Reach and the reference's Reach as plain functions: both are what can be reached.
-/
import Derived.Test.YthjplkjpehdpfaaZK
namespace Go.Proofs.Ythjplkjpehdpfaa
set_option linter.unusedVariables false

def unseen (s : List Bool) : Nat := s.countP fun b => !b
def xS (E : List (Nat × Nat)) : Nat → List Bool → Int → List Bool
 | 0, s, _ => s
 | k + 1, s, v => if v < 0 ∨ (s.length : Int) ≤ v ∨ nth s v.toNat = true then s else (zi E v.toNat).foldl (xS E k) (s.set v.toNat true)
theorem Ue {s : List Bool} {v : Nat} (hv : v < s.length) (h : nth s v = false) : unseen (s.set v true) + 1 = unseen s := by
 unfold unseen
 rw [List.countP_set hv]
 rw [nth_eq hv] at h
 have hp : 0 < s.countP fun b => !b := List.countP_pos_iff.2 ⟨s[v], List.getElem_mem hv, by rw [h]; rfl⟩
 simp [h]
 omega
def Ext (s s' : List Bool) : Prop := s'.length = s.length ∧ ∀ v, nth s v = true → nth s' v = true
theorem Ext.refl (s : List Bool) : Ext s s := ⟨rfl, fun _ h => h⟩
theorem Ext.trans {a b c : List Bool} (h : Ext a b) (k : Ext b c) : Ext a c := ⟨k.1.trans h.1, fun v hv => k.2 v (h.2 v hv)⟩
theorem YG {s : List Bool} {v u : Nat} (hv : v < s.length) : nth (s.set v true) u = if u = v then true else nth s u := by
 by_cases e : u = v
 ·subst e; rw [if_pos rfl, zx hv]
 ·rw [if_neg e, zq (fun q => e q.symm)]
theorem Ext.set {s : List Bool} {v : Nat} (hv : v < s.length) : Ext s (s.set v true) := ⟨List.length_set, fun u hu => by rw [YG hv]; split; rfl; exact hu⟩
theorem Ext.unseen {s s' : List Bool} (h : Ext s s') : unseen s' ≤ unseen s := by
 unfold Proofs.Ythjplkjpehdpfaa.unseen
 obtain ⟨hl, hs⟩ := h
 have key : ∀ (a b : List Bool), b.length = a.length → (∀ v, nth a v = true → nth b v = true) → (b.countP fun x => !x) ≤ a.countP fun x => !x := by
  intro a
  induction a with
  | nil => intro b hb _; have e : b = [] := List.eq_nil_of_length_eq_zero (by simpa using hb); subst e; exact Nat.le_refl _
  | cons x a ih =>
   intro b hb hs
   cases b with
   | nil => simp at hb
   | cons y b =>
    have h0 : x = true → y = true := fun hx => by have := hs 0 (by rw [hx]; rfl); exact this
    have ht := ih b (by simpa using hb) fun v hv => by have := hs (v + 1) hv; exact this
    rw [List.countP_cons, List.countP_cons]
    cases x <;> cases y <;> simp_all
    omega
 exact key s s' hl hs
structure Dn (E : List (Nat × Nat)) (s s' : List Bool) : Prop where
 ext : Ext s s'
 cl : ∀ u : Nat, nth s' u = true → nth s u = false → ∀ w ∈ zi E u, nth s' w.toNat = true
theorem Dn.trans {E : List (Nat × Nat)} {a b c : List Bool} (h : Dn E a b) (k : Dn E b c) : Dn E a c := ⟨h.ext.trans k.ext, fun u hu hn w hw => by
 cases hb : nth b u with
 | true => exact k.ext.2 _ (h.cl u hb hn w hw)
 | false => exact k.cl u hu hb w hw⟩
theorem Dn.refl (E : List (Nat × Nat)) (s : List Bool) : Dn E s s := ⟨Ext.refl s, fun u hu hn => by rw [hu] at hn; cases hn⟩
theorem zdv {n : Nat} {E : List (Nat × Nat)} (h : InN n E) : ∀ (k : Nat) (s : List Bool) (v : Int), s.length = n → unseen s ≤ k → Dn E s (xS E k s v) ∧ (0 ≤ v → v < n → nth (xS E k s v) v.toNat = true)
 | 0, s, v, hl, hu => by
  refine ⟨Dn.refl E s, fun h1 h2 => ?_⟩
  have h0 : unseen s = 0 := by omega
  have := List.countP_eq_zero.1 h0 (nth s v.toNat) (zK (by omega))
  show nth s v.toNat = true
  simpa using this
 | k + 1, s, v, hl, hu => by
  unfold xS
  split
  ·rename_i hc
   refine ⟨Dn.refl E s, fun h1 h2 => ?_⟩
   rcases hc with hc | hc | hc
   ·omega
   ·omega
   ·exact hc
  ·rename_i hc
   have hv0 : 0 ≤ v := by
    rcases Int.lt_or_le v 0 with q | q
    ·exact absurd (.inl q) hc
    ·exact q
   have hvn : v.toNat < s.length := by
    rcases Int.lt_or_le v (s.length : Int) with q | q
    ·omega
    ·exact absurd (.inr (.inl q)) hc
   have hf : nth s v.toNat = false := by
    cases e : nth s v.toNat with
    | false => rfl
    | true => exact absurd (.inr (.inr e)) hc
   have hus := Ue hvn hf
   have key : ∀ (r : List Int) (a : List Bool), a.length = n → unseen a ≤ k → (∀ w ∈ r, 0 ≤ w ∧ w < n) → Dn E a (r.foldl (xS E k) a) ∧ ∀ w ∈ r, nth (r.foldl (xS E k) a) w.toNat = true := by
    intro r
    induction r with
    | nil => intro a _ _ _; exact ⟨Dn.refl E a, fun w hw => by cases hw⟩
    | cons x r ih =>
     intro a hal hau hr
     obtain ⟨d1, d2⟩ := zdv h k a x hal hau
     obtain ⟨i1, i2⟩ := ih (xS E k a x) (d1.ext.1.trans hal) (Nat.le_trans d1.ext.unseen hau) fun w hw => hr w (by simp [hw])
     refine ⟨d1.trans i1, fun w hw => ?_⟩
     rcases List.mem_cons.1 hw with rfl | hw
     ·have := hr w (by simp)
      exact i1.ext.2 _ (d2 this.1 this.2)
     ·exact i2 w hw
   obtain ⟨k1, k2⟩ := key (zi E v.toNat) (s.set v.toNat true) (by rw [List.length_set]; exact hl) (by omega) fun w hw => zL h hw
   refine ⟨⟨(Ext.set hvn).trans k1.ext, fun u hu hn w hw => ?_⟩, fun _ _ => k1.ext.2 _ (by rw [YG hvn, if_pos rfl])⟩
   by_cases e : u = v.toNat
   ·subst e; exact k2 w hw
   ·exact k1.cl u hu (by rw [YG hvn, if_neg e]; exact hn) w hw
inductive Rch (n : Nat) (E : List (Nat × Nat)) (from_ : List Int) : Nat → Prop where
 | start {v : Nat} (hv : v < n) (hm : (v : Int) ∈ from_) : Rch n E from_ v
 | step {u v : Nat} (hu : Rch n E from_ u) (hm : (v : Int) ∈ zi E u) : Rch n E from_ v
theorem Rch.lt {n : Nat} {E : List (Nat × Nat)} (h : InN n E) {from_ : List Int} {v : Nat} (hr : Rch n E from_ v) : v < n := by
 cases hr with
 | start hv hm => exact hv
 | step hu hm => have := zL h hm; omega
theorem zdw {n : Nat} {E : List (Nat × Nat)} (h : InN n E) {from_ : List Int} : ∀ (k : Nat) (s : List Bool) (v : Int), s.length = n → (∀ u, nth s u = true → Rch n E from_ u) → (0 ≤ v → v < n → Rch n E from_ v.toNat) → ∀ u, nth (xS E k s v) u = true → Rch n E from_ u
 | 0, s, v, _, hs, _ => hs
 | k + 1, s, v, hl, hs, hv => by
  unfold xS
  split
  ·exact hs
  ·rename_i hc
   have hv0 : 0 ≤ v := by
    rcases Int.lt_or_le v 0 with q | q
    ·exact absurd (.inl q) hc
    ·exact q
   have hvn : v < s.length := by
    rcases Int.lt_or_le v (s.length : Int) with q | q
    ·exact q
    ·exact absurd (.inr (.inl q)) hc
   have hrv := hv hv0 (by omega)
   have key : ∀ (r : List Int) (a : List Bool), a.length = n → (∀ u, nth a u = true → Rch n E from_ u) → (∀ w ∈ r, w ∈ zi E v.toNat) → ∀ u, nth (r.foldl (xS E k) a) u = true → Rch n E from_ u := by
    intro r
    induction r with
    | nil => intro a _ ha _; exact ha
    | cons x r ih =>
     intro a hal ha hr
     refine ih (xS E k a x) ?_ (zdw h k a x hal ha fun h0 hn => .step hrv (by rw [Int.toNat_of_nonneg h0]; exact hr x (by simp))) fun w hw => hr w (by simp [hw])
     have : ∀ (k : Nat) (a : List Bool) (x : Int), (xS E k a x).length = a.length := by
      intro k
      induction k with
      | zero => intro a x; rfl
      | succ k ihk =>
       intro a x
       unfold xS
       split
       ·rfl
       ·have : ∀ (r : List Int) (b : List Bool), (r.foldl (xS E k) b).length = b.length := by
         intro r
         induction r with
         | nil => intro b; rfl
         | cons y r ihr => intro b; rw [List.foldl_cons, ihr, ihk]
        rw [this, List.length_set]
     rw [this]; exact hal
   refine key _ _ (by rw [List.length_set]; exact hl) (fun u hu => ?_) fun w hw => hw
   rw [YG (by omega)] at hu
   split at hu
   ·rename_i e; subst e; exact hrv
   ·exact hs u hu
theorem Um (E : List (Nat × Nat)) : ∀ (k : Nat) (a : List Bool) (x : Int), (xS E k a x).length = a.length
 | 0, _, _ => rfl
 | k + 1, a, x => by
  unfold xS
  split
  ·rfl
  ·have : ∀ (r : List Int) (b : List Bool), (r.foldl (xS E k) b).length = b.length := by
    intro r
    induction r with
    | nil => intro b; rfl
    | cons y r ihr => intro b; rw [List.foldl_cons, ihr, Um E k]
   rw [this, List.length_set]
def yG (n : Nat) (E : List (Nat × Nat)) (from_ : List Int) (j : Nat) : List Bool := (from_.take j).foldl (xS E n) (List.replicate n false)
theorem zaN (s : List Bool) : unseen s ≤ s.length := List.countP_le_length
theorem zb8 {n : Nat} {E : List (Nat × Nat)} (h : InN n E) (from_ : List Int) (v : Nat) : nth (yG n E from_ from_.length) v = true ↔ Rch n E from_ v := by
 have hz : ∀ u, nth (List.replicate n false) u = false := fun u => by
  rcases Nat.lt_or_ge u n with hu | hu
  ·rw [nth_eq (by simpa using hu)]; simp
  ·unfold nth; rw [List.getD_eq_getElem?_getD, List.getElem?_eq_none (by simpa using hu)]; rfl
 have key : ∀ j, j ≤ from_.length → (yG n E from_ j).length = n ∧ Dn E (List.replicate n false) (yG n E from_ j) ∧ (∀ u, nth (yG n E from_ j) u = true → Rch n E from_ u) ∧ ∀ x ∈ from_.take j, 0 ≤ x → x < n → nth (yG n E from_ j) x.toNat = true := by
  intro j
  induction j with
  | zero => intro _; exact ⟨by simp [yG], Dn.refl E _, (fun u hu => by rw [show yG n E from_ 0 = List.replicate n false from rfl, hz] at hu; cases hu), (fun x hx => by simp at hx)⟩
  | succ j ih =>
   intro hj
   obtain ⟨i1, i2, i3, i4⟩ := ih (by omega)
   have e : yG n E from_ (j + 1) = xS E n (yG n E from_ j) (nth from_ j) := by
    unfold yG
    rw [List.take_succ_eq_append_getElem (by omega), List.foldl_append, ← nth_eq (by omega)]; rfl
   have hu := zaN (yG n E from_ j)
   rw [i1] at hu
   obtain ⟨d1, d2⟩ := zdv h n (yG n E from_ j) (nth from_ j) i1 hu
   rw [e]
   refine ⟨by rw [Um]; exact i1, i2.trans d1, zdw h n _ _ i1 i3 fun h0 hn => .start (by omega) (by rw [Int.toNat_of_nonneg h0]; exact zK (by omega)), fun x hx h0 hn => ?_⟩
   rw [List.take_succ_eq_append_getElem (by omega), List.mem_append] at hx
   rcases hx with hx | hx
   ·exact d1.ext.2 _ (i4 x hx h0 hn)
   ·rw [List.mem_singleton, ← nth_eq (by omega)] at hx
    subst hx
    exact d2 h0 hn
 obtain ⟨k1, k2, k3, k4⟩ := key from_.length (Nat.le_refl _)
 refine ⟨k3 v, fun hr => ?_⟩
 induction hr with
 | start hv hm =>
  have := k4 _ (by rw [List.take_length]; exact hm) (by omega) (by omega)
  rwa [Int.toNat_natCast] at this
 | step hu hm ih =>
  have := k2.cl _ ih (hz _) _ hm
  rwa [Int.toNat_natCast] at this
end Go.Proofs.Ythjplkjpehdpfaa
