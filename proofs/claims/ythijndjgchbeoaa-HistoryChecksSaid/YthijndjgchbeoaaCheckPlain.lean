/-
  The plain law: history.Check and the reference's Check answer alike.
-/
import Derived.Test.YthijndjgchbeoaaRCheck
import Derived.Test.YthijndjgchbeoaaSoundPlain
namespace Go.Proofs.Ythijndjgchbeoaa
set_option linter.unusedVariables false

theorem range_any {k : Nat} {f : Nat → Bool} : (List.range k).any f = true ↔ ∃ j, j < k ∧ f j = true := by
  rw [List.any_eq_true]
  constructor
  · rintro ⟨j, hj, h⟩; exact ⟨j, by simpa using hj, h⟩
  · rintro ⟨j, hj, h⟩; exact ⟨j, by simpa using hj, h⟩
theorem take_any {l : List OpV} {k : Nat} {f : OpV → Bool} (hk : k ≤ l.length) : (l.take k).any f = true ↔ ∃ j, j < k ∧ f (nth l j) = true := by
  constructor
  · intro h; obtain ⟨m, h1, _, h3⟩ := any_take h; exact ⟨m, h1, h3⟩
  · rintro ⟨j, hj, h⟩
    refine List.any_eq_true.2 ⟨nth l j, ?_, h⟩
    rw [nth_eq (by omega)]
    exact List.mem_take_iff_getElem.2 ⟨j, by omega, rfl⟩
theorem all_any {l : List OpV} {f : OpV → Bool} : l.any f = true ↔ ∃ j, j < l.length ∧ f (nth l j) = true := by
  have := take_any (l := l) (k := l.length) (f := f) (Nat.le_refl _)
  rwa [List.take_length] at this

theorem dup_same {l : List OpV} {k : Nat} (hk : k < l.length) : (retB l k (nth l k).call || (nth l k).done && (retB l k (nth l k).ret || callB l l.length (nth l k).ret)) = dupTo l (nth l k) k l.length := by
  rw [Bool.eq_iff_iff]
  generalize nth l k = o
  have e1 : ∀ x, retB l k x = true ↔ ∃ j, j < k ∧ (nth l j).done = true ∧ (nth l j).ret = x := fun x => by
    unfold retB; rw [take_any (by omega)]; simp
  have e2 : ∀ x, callB l l.length x = true ↔ ∃ j, j < l.length ∧ (nth l j).call = x := fun x => by
    unfold callB; rw [List.take_length, all_any]; simp
  unfold dupTo
  rw [range_any]
  simp only [Bool.or_eq_true, Bool.and_eq_true, e1, e2, dup1, dup2, decide_eq_true_eq, beq_iff_eq]
  constructor
  · rintro (⟨j, h1, h2, h3⟩ | ⟨hd, ⟨j, h1, h2, h3⟩ | ⟨j, h1, h2⟩⟩)
    · exact ⟨j, by omega, .inl ⟨⟨h1, h2⟩, .inl h3.symm⟩⟩
    · exact ⟨j, by omega, .inl ⟨⟨h1, h2⟩, .inr ⟨hd, h3.symm⟩⟩⟩
    · exact ⟨j, h1, .inr ⟨hd, h2.symm⟩⟩
  · rintro ⟨j, hj, ⟨⟨h1, h2⟩, h3 | ⟨hd, h3⟩⟩ | ⟨hd, h2⟩⟩
    · exact .inl ⟨j, h1, h2, h3.symm⟩
    · exact .inr ⟨hd, .inl ⟨j, h1, h2, h3.symm⟩⟩
    · exact .inr ⟨hd, .inr ⟨j, hj, h2.symm⟩⟩

/-- the operations of a process before k are over when its latest begins, and it is the latest -/
def LastOk (l : List OpV) (k : Nat) : Prop := ∀ j, j < k → ∃ o, lastOf l k (nth l j).p = some o ∧ o.p = (nth l j).p ∧ (o = nth l j ∨ ((nth l j).done = true ∧ (nth l j).ret ≤ o.call)) ∧ o.call < o.ret
theorem lastOk_step {l : List OpV} {k : Nat} (h : LastOk l k) (he : errK l k = 0) : LastOk l (k + 1) := by
  unfold errK at he
  split at he
  · omega
  · rename_i hwf
    split at he
    · omega
    · split at he
      · omega
      · split at he
        · omega
        · rename_i hlast
          have hwf2 : (nth l k).call < (nth l k).ret := by
            have hw : wfB (nth l k) = true := by simpa using hwf
            simp only [wfB, Bool.and_eq_true, decide_eq_true_eq] at hw
            omega
          intro j hj
          rw [lastOf]
          by_cases hp : (nth l j).p = (nth l k).p
          · rw [if_pos hp]
            refine ⟨_, rfl, hp.symm, ?_, hwf2⟩
            by_cases hjk : j = k
            · subst hjk; exact .inl rfl
            · right
              obtain ⟨o, ho, hop, hrel, hret⟩ := h j (by omega)
              rw [hp] at ho
              rw [ho] at hlast
              simp only [Option.isSome_some, Option.getD_some, true_and] at hlast
              have hd : o.done = true := by
                cases hd : o.done with
                | true => rfl
                | false => exact absurd (.inl hd) hlast
              have hr : o.ret ≤ (nth l k).call := by
                rcases Int.lt_or_le (nth l k).call o.ret with h2 | h2
                · exact absurd (.inr h2) hlast
                · exact h2
              rcases hrel with e | ⟨e1, e2⟩
              · rw [← e]; exact ⟨hd, hr⟩
              · exact ⟨e1, by omega⟩
          · rw [if_neg hp]
            have hjk : j ≠ k := fun e => hp (by rw [e])
            exact h j (by omega)

theorem busy_same {l : List OpV} {k : Nat} (h : LastOk l k) : ((lastOf l k (nth l k).p).isSome = true ∧ (((lastOf l k (nth l k).p).getD default).done = false ∨ (nth l k).call < ((lastOf l k (nth l k).p).getD default).ret)) ↔ busyTo l (nth l k) k = true := by
  generalize nth l k = o
  unfold busyTo
  rw [range_any]
  simp only [busy, Bool.and_eq_true, Bool.or_eq_true, beq_iff_eq, decide_eq_true_eq, Bool.not_eq_true']
  constructor
  · rintro ⟨h1, h2⟩
    obtain ⟨q, hq⟩ := Option.isSome_iff_exists.1 h1
    rw [hq] at h2
    simp only [Option.getD_some] at h2
    obtain ⟨m, hm, hmq, hmp⟩ := lastOf_some hq
    subst hmq
    exact ⟨m, hm, hmp, h2⟩
  · rintro ⟨j, hj, hp, h2⟩
    obtain ⟨q, hq, hqp, hrel, hret⟩ := h j hj
    rw [hp] at hq
    rw [hq]
    simp only [Option.isSome_some, Option.getD_some, true_and]
    rcases hrel with e | ⟨e1, e2⟩
    · subst e; exact h2
    · rcases h2 with h2 | h2
      · rw [e1] at h2; cases h2
      · exact .inr (by omega)

theorem err_same {l : List OpV} {k : Nat} (hk : k < l.length) (h : LastOk l k) : errK l k = errR l k := by
  unfold errK errR
  rw [dup_same hk]
  have hb := busy_same h
  by_cases hbz : busyTo l (nth l k) k = true
  · rw [if_pos (hb.2 hbz), if_pos hbz]
  · rw [if_neg (fun e => hbz (hb.1 e)), if_neg hbz]
theorem from_same {l : List OpV} : ∀ (n k : Nat), k + n ≤ l.length → LastOk l k → hCheckFrom l k n = rCheckFrom l k n
  | 0, _, _, _ => rfl
  | n + 1, k, hk, h => by
    have e := err_same (show k < l.length by omega) h
    rw [hCheckFrom, rCheckFrom, ← e]
    by_cases h0 : errK l k = 0
    · rw [if_pos h0, if_pos h0]
      exact from_same n (k + 1) (by omega) (lastOk_step h h0)
    · rw [if_neg h0, if_neg h0]
theorem check_same (l : List OpV) : hCheck l = rCheck l := by
  unfold hCheck rCheck
  split
  · rfl
  · exact from_same _ _ (by omega) (fun j hj => by omega)
end Go.Proofs.Ythijndjgchbeoaa
