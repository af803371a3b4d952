/-
  A relation along which a rank rises has a topological order and no cycle; real time is one.
-/
import Derived.Test.YtokmanfcndelfaaZM
import Derived.Test.YtokmanfcndelfaaZCycRef
import Derived.Test.YtokmanfcndelfaaZG
namespace Go.Proofs.Ytokmanfcndelfaa
set_option linter.unusedVariables false

theorem zfZ : ∀ (n : Nat) (out : List Int), (∀ v : Nat, v < n → (v : Int) ∈ out) → n ≤ out.length
 | 0, _, _ => Nat.zero_le _
 | n + 1, out, h => by
  have hn := h n (Nat.lt_succ_self n)
  have := zfZ n (out.erase (n : Int)) fun v hv => by
   have hm := h v (by omega)
   exact (List.mem_erase_of_ne (by omega)).2 hm
  rw [List.length_erase_of_mem hn] at this
  have := List.length_pos_of_mem hn
  omega
theorem zfY {n : Nat} {E : List (Nat × Nat)} (h : InN n E) (f : Nat → Nat) (hf : ∀ e ∈ E, f e.1 < f e.2) : (yB n E).length = n := by
 obtain ⟨hh, hT⟩ := Zy h (n + 1) (yq n E) (TI.start h) (by show n < 0 + (n + 1); omega)
 have hle := hT.le
 have hall : ∀ (m v : Nat), f v ≤ m → v < n → (v : Int) ∈ (yd E (n + 1) (yq n E)).out := by
  intro m
  induction m with
  | zero =>
   intro v hv hvn
   refine Classical.byContradiction fun hno => ?_
   have hc : zcN n E (yd E (n + 1) (yq n E)).out v = 0 := by
    refine List.countP_eq_zero.2 fun u hu q => ?_
    simp only [Bool.and_eq_true, decide_eq_true_eq] at q
    obtain ⟨e, he, h1, h2⟩ := yM.1 q.2
    have := hf e he
    have h3 : e.2 = v := by omega
    rw [h3] at this
    omega
   have := (hT.hM (v : Int)).2 ⟨by omega, hno, by rw [Int.toNat_natCast, hT.cnt v hvn, hc]; rfl⟩
   rw [hh] at this; cases this
  | succ m ih =>
   intro v hv hvn
   refine Classical.byContradiction fun hno => ?_
   have hc : zcN n E (yd E (n + 1) (yq n E)).out v = 0 := by
    refine List.countP_eq_zero.2 fun u hu q => ?_
    simp only [Bool.and_eq_true, decide_eq_true_eq] at q
    obtain ⟨e, he, h1, h2⟩ := yM.1 q.2
    have h3 := hf e he
    have h4 : e.2 = v := by omega
    rw [h4] at h3
    subst h1
    exact q.1 (ih e.1 (by omega) (h e he).1)
   have := (hT.hM (v : Int)).2 ⟨by omega, hno, by rw [Int.toNat_natCast, hT.cnt v hvn, hc]; rfl⟩
   rw [hh] at this; cases this
 have := zfZ n _ fun v hv => hall (f v) v (Nat.le_refl _) hv
 show (yd E (n + 1) (yq n E)).out.length = n
 omega
theorem ziC {n : Nat} {E : List (Nat × Nat)} (h : InN n E) (f : Nat → Nat) (hf : ∀ e ∈ E, f e.1 < f e.2) : rtK E n n [] = some (yB n E) ∧ (yB n E).length = n := by
 have hl := zfY h f hf
 rw [zdC h, if_neg (by omega)]
 exact ⟨rfl, hl⟩
theorem zhl {n : Nat} {E : List (Nat × Nat)} (f : Nat → Nat) (hf : ∀ e ∈ E, f e.1 < f e.2) {s : Nat} : ∀ (k v : Nat), Wx n E s (k + 1) v → f v < f s
 | 0, v, hx => by
  obtain ⟨e, he, h1, h2⟩ := yM.1 (show (s : Int) ∈ zy E v from hx)
  have := hf e he
  rw [h1, show e.2 = s by omega] at this; exact this
 | k + 1, v, hx => by
  obtain ⟨w, _, hm, _, hxw⟩ := hx
  obtain ⟨e, he, h1, h2⟩ := yM.1 hm
  have h3 := hf e he
  rw [h1, show e.2 = w by omega] at h3
  have := zhl f hf k w hxw
  omega
theorem zet {n : Nat} {E : List (Nat × Nat)} (h : InN n E) (f : Nat → Nat) (hf : ∀ e ∈ E, f e.1 < f e.2) : xm E n = [] := by
 refine Xj n 1 fun l h1 h2 => YI n 0 fun u _ hu => ?_
 obtain ⟨l, rfl⟩ : ∃ l', l = l' + 1 := ⟨l - 1, by omega⟩
 refine Classical.byContradiction fun hne => ?_
 have := zhl f hf l u ((Zr h (by omega) l u (by omega)).1 hne)
 omega
end Go.Proofs.Ytokmanfcndelfaa
