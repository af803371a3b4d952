/-
  The answers about a graph depend on the set of its edges alone.
-/
import Derived.Test.YthjplkjpehdpfaaZLawGraphComponents
namespace Go.Proofs.Ythjplkjpehdpfaa
set_option linter.unusedVariables false

section
variable {E E' : List (Nat × Nat)} (h : ∀ e, e ∈ E ↔ e ∈ E')
include h
theorem zbn : Ww E = Ww E' := by
 funext a b
 unfold Ww
 rw [Bool.eq_iff_iff, List.any_eq_true, List.any_eq_true]
 exact ⟨fun ⟨e, he, hp⟩ => ⟨e, (h e).1 he, hp⟩, fun ⟨e, he, hp⟩ => ⟨e, (h e).2 he, hp⟩⟩
theorem zbw : VO E = VO E' := by
 funext a b
 unfold VO
 rw [Bool.eq_iff_iff, List.all_eq_true, List.all_eq_true]
 exact ⟨fun H e he => H e ((h e).2 he), fun H e he => H e ((h e).1 he)⟩
theorem Yo : zi E = zi E' := by
 funext v
 refine List.Perm.eq_of_pairwise (le := fun a b => a < b) (fun a b _ _ h1 h2 => absurd h1 (by omega)) (Zd E v) (Zd E' v) ?_
 refine (List.perm_ext_iff_of_nodup ((Zd E v).imp fun h e => by rw [e] at h; omega) ((Zd E' v).imp fun h e => by rw [e] at h; omega)).2 fun x => ?_
 rw [yw, yw]
 exact ⟨fun ⟨e, he, hp⟩ => ⟨e, (h e).1 he, hp⟩, fun ⟨e, he, hp⟩ => ⟨e, (h e).2 he, hp⟩⟩
theorem za4 (n : Nat) : xL n E = xL n E' := by
 have : nxE E = nxE E' := by funext v; unfold nxE; rw [Yo h]
 unfold xL
 rw [this]
theorem Va (tg ab n : Nat) : ∀ k, zT E tg ab n k = zT E' tg ab n k
 | 0 => rfl
 | k + 1 => by
  show VG E _ _ _ _ _ _ = VG E' _ _ _ _ _ _
  rw [Va tg ab n k]
  unfold VG zez zep
  rw [zbn h]
theorem za6 (n len s : Nat) : ZV E n len s = ZV E' n len s := by unfold ZV; rw [Va h]
theorem Xs (n len : Nat) : ∀ k s, xK E n len k s = xK E' n len k s
 | 0, _ => rfl
 | k + 1, s => by
  show (if _ then _ else _) = (if _ then _ else _)
  rw [za6 h, Xs n len k]
theorem Yv (n : Nat) : ∀ k len, Zv E n k len = Zv E' n k len
 | 0, _ => rfl
 | k + 1, len => by
  show (if _ then _ else _) = (if _ then _ else _)
  rw [Xs h, Yv n k]
theorem zay (n : Nat) : Xx E n = Xx E' n := Yv h n n 1
theorem zaH (n : Nat) : ∀ k out, rtK E n k out = rtK E' n k out
 | 0, _ => rfl
 | k + 1, out => by
  have e : Vs E out = Vs E' out := by funext v; unfold Vs; rw [zbw h]
  show (if _ then _ else _) = (if _ then _ else _)
  rw [e, zaH n k]
theorem zab {n : Nat} (hE : InN n E) (hE' : InN n E') {fr fr' : List Int} (hf : ∀ z, z ∈ fr ↔ z ∈ fr') : Wf n E fr = Wf n E' fr' := by
 unfold Wf
 refine WB (fun v hv => ?_) n (Nat.le_refl n)
 rw [zb8 hE, zb8 hE']
 constructor
 ·intro hr
  induction hr with
  | start hv hm => exact .start hv ((hf _).1 hm)
  | step hu hm ih => exact .step (ih (hu.lt hE)) (by rw [← Yo h]; exact hm)
 ·intro hr
  induction hr with
  | start hv hm => exact .start hv ((hf _).2 hm)
  | step hu hm ih => exact .step (ih (hu.lt hE')) (by rw [Yo h]; exact hm)
end
end Go.Proofs.Ythjplkjpehdpfaa
