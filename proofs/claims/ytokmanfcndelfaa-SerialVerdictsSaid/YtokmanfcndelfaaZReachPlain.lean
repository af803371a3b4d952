/-
  graph.Reach and the reference's Reach as plain functions: both are what can be reached.
-/
import Derived.Test.YtokmanfcndelfaaZK
namespace Go.Proofs.Ytokmanfcndelfaa
set_option linter.unusedVariables false

def Ext (s s' : List Bool) : Prop := s'.length = s.length ∧ ∀ v, nth s v = true → nth s' v = true
theorem Ext.refl (s : List Bool) : Ext s s := ⟨rfl, fun _ h => h⟩
theorem Ext.trans {a b c : List Bool} (h : Ext a b) (k : Ext b c) : Ext a c := ⟨k.1.trans h.1, fun v hv => k.2 v (h.2 v hv)⟩
theorem zhP {s : List Bool} {v u : Nat} (hv : v < s.length) : nth (s.set v true) u = if u = v then true else nth s u := by
 by_cases e : u = v
 ·subst e; rw [if_pos rfl, zM hv]
 ·rw [if_neg e, zF (fun q => e q.symm)]
theorem Ext.set {s : List Bool} {v : Nat} (hv : v < s.length) : Ext s (s.set v true) := ⟨List.length_set, fun u hu => by rw [zhP hv]; split; rfl; exact hu⟩
structure Dn (E : List (Nat × Nat)) (s s' : List Bool) : Prop where
 ext : Ext s s'
 cl : ∀ u : Nat, nth s' u = true → nth s u = false → ∀ w ∈ zy E u, nth s' w.toNat = true
theorem Dn.trans {E : List (Nat × Nat)} {a b c : List Bool} (h : Dn E a b) (k : Dn E b c) : Dn E a c := ⟨h.ext.trans k.ext, fun u hu hn w hw => by
 cases hb : nth b u with
 | true => exact k.ext.2 _ (h.cl u hb hn w hw)
 | false => exact k.cl u hu hb w hw⟩
theorem Dn.refl (E : List (Nat × Nat)) (s : List Bool) : Dn E s s := ⟨Ext.refl s, fun u hu hn => by rw [hu] at hn; cases hn⟩
inductive Rch (n : Nat) (E : List (Nat × Nat)) (from_ : List Int) : Nat → Prop where
 | start {v : Nat} (hv : v < n) (hm : (v : Int) ∈ from_) : Rch n E from_ v
 | step {u v : Nat} (hu : Rch n E from_ u) (hm : (v : Int) ∈ zy E u) : Rch n E from_ v
theorem Rch.lt {n : Nat} {E : List (Nat × Nat)} (h : InN n E) {from_ : List Int} {v : Nat} (hr : Rch n E from_ v) : v < n := by
 cases hr with
 | start hv hm => exact hv
 | step hu hm => have := yw h hm; omega
end Go.Proofs.Ytokmanfcndelfaa
