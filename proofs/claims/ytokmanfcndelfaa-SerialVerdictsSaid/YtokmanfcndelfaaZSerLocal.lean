/-
  Serializability is local: a history is serializable if and only if its restriction to each key is; the serial orders that are tried one by one.
-/
import Derived.Test.YtokmanfcndelfaaZSerPlain2
import Derived.Test.YtokmanfcndelfaaZG
namespace Go.Proofs.Ytokmanfcndelfaa
set_option linter.unusedVariables false

def WW (l : List OpV) (c : Int) : List Nat := (List.range l.length).filter fun j => Wf c (nth l j)
theorem XR {α : Type} [Inhabited α] (l : List α) : (List.range l.length).map (nth l) = l := by
 apply List.ext_getElem
 ·simp
 ·intro i h1 h2
  rw [List.getElem_map, List.getElem_range, nth_eq h2]
theorem zgN (l : List OpV) (c : Int) : l.filter (Wf c) = (WW l c).map (nth l) := by
 unfold WW
 have h := List.filter_map (f := nth l) (l := List.range l.length) (p := Wf c)
 rw [XR] at h
 exact h
section
variable {l : List OpV} {c : Int} {strict : Bool}
theorem Vg : (l.filter (Wf c)).length = (WW l c).length := by rw [zgN, List.length_map]
theorem Zw {i : Nat} (hi : i < (l.filter (Wf c)).length) : nth (l.filter (Wf c)) i = nth l (nth (WW l c) i) := by
 have hi' : i < (WW l c).length := by rw [← Vg]; exact hi
 rw [nth_eq hi, nth_eq hi']
 simp only [zgN, List.getElem_map]
theorem zb8 {v : Nat} : v ∈ WW l c ↔ v < l.length ∧ (nth l v).key = c := by
 unfold WW
 rw [List.mem_filter, List.mem_range]
 simp [Wf]
theorem Zu {i : Nat} (hi : i < (l.filter (Wf c)).length) : nth (WW l c) i < l.length ∧ (nth l (nth (WW l c) i)).key = c := zb8.1 (zI (by rw [← Vg]; exact hi))
theorem zgA {i k : Nat} (hi : i < (l.filter (Wf c)).length) (hk : k < (l.filter (Wf c)).length) (e : nth (WW l c) i = nth (WW l c) k) : i = k := by
 rw [Vg] at hi hk
 rw [nth_eq hi, nth_eq hk] at e
 exact (List.getElem_inj (List.nodup_range.sublist List.filter_sublist)).1 e
theorem zgB {v : Nat} (hv : v < l.length) (hk : (nth l v).key = c) : ∃ i, i < (l.filter (Wf c)).length ∧ nth (WW l c) i = v := by
 obtain ⟨i, hi, e⟩ := List.getElem_of_mem (zb8.2 ⟨hv, hk⟩)
 exact ⟨i, by rw [Vg]; exact hi, by rw [nth_eq hi, e]⟩
end
section
variable {l : List OpV} {c : Int}
theorem zeo.part (h : zeo l) (c : Int) : zeo (l.filter (Wf c)) where
 kind i hi := by rw [Zw hi]; exact h.kind _ (Zu hi).1
 arg i hi := by rw [Zw hi]; exact h.arg _ (Zu hi).1
 uniq i j hi hj := by
  rw [Zw hi, Zw hj]
  exact fun a b e f => zgA hi hj (h.uniq _ _ (Zu hi).1 (Zu hj).1 a b e f)
 pend i k hi hk := by rw [Zw hi, Zw hk]; exact h.pend _ _ (Zu hi).1 (Zu hk).1
theorem zjA.part (h : zjA l) (c : Int) : zjA (l.filter (Wf c)) := fun v hv => by
 rw [Zw hv]
 intro hi hr
 obtain ⟨w, hw, w1, w2, w3⟩ := h _ (Zu hv).1 hi hr
 obtain ⟨p, hp, e⟩ := zgB hw (w2.trans (Zu hv).2)
 exact ⟨p, hp, by rw [Zw hp, e]; exact ⟨w1, w2, w3⟩⟩
end

def zjB (l : List OpV) : Nat := l.countP zV
theorem ZW : ∀ {l m : List Int}, l.Nodup → (∀ x ∈ l, x ∈ m) → l.length ≤ m.length
 | [], m, _, _ => Nat.zero_le _
 | x :: l, m, hn, hs => by
  have h1 := List.nodup_cons.1 hn
  have hx := hs x (by simp)
  have hl := List.length_erase_of_mem hx
  have hpos : 0 < m.length := List.length_pos_of_mem hx
  have := ZW (m := m.erase x) h1.2 fun y hy => (List.mem_erase_of_ne (fun e : y = x => h1.1 (by rw [← e]; exact hy))).2 (hs y (by simp [hy]))
  rw [List.length_cons]
  omega
def zeU (l : List OpV) : List Int := ((List.range l.length).filter fun v => zV (nth l v)).map fun v : Nat => (v : Int)
theorem zgy (l : List OpV) : (zeU l).length = zjB l := by
 unfold zeU zjB
 rw [List.length_map, ← List.countP_eq_length_filter]
 have h := List.countP_map (p := zV) (f := nth l) (l := List.range l.length)
 rw [XR] at h
 exact h.symm
theorem zb7 {l : List OpV} {x : Int} : x ∈ zeU l ↔ ∃ v : Nat, v < l.length ∧ zV (nth l v) = true ∧ x = v := by
 unfold zeU
 simp only [List.mem_map, List.mem_filter, List.mem_range]
 constructor
 ·rintro ⟨v, ⟨h1, h2⟩, rfl⟩; exact ⟨v, h1, h2, rfl⟩
 ·rintro ⟨v, h1, h2, rfl⟩; exact ⟨v, ⟨h1, h2⟩, rfl⟩
theorem zhJ (l : List OpV) : (zeU l).Nodup := by
 unfold zeU
 refine List.Pairwise.map _ (fun a b h => ?_) (List.nodup_range.sublist List.filter_sublist)
 omega
theorem Vk.len {l : List OpV} {strict : Bool} {o : List Int} (h : Vk l strict o) : o.length = zjB l := by
 rw [← zgy]
 refine Nat.le_antisymm (ZW h.nd fun x hx => ?_) (ZW (zhJ l) fun x hx => ?_)
 ·have := h.rng x hx
  exact zb7.2 ⟨x.toNat, by omega, h.inc x hx, by omega⟩
 ·obtain ⟨v, h1, h2, rfl⟩ := zb7.1 hx
  exact h.all v h1 h2
end Go.Proofs.Ytokmanfcndelfaa
