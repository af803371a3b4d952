/-
  The components of a graph as one list; components and cycles, components and reach.
-/
import Derived.Test.YthjplkjpehdpfaaZTarjPlain
import Derived.Test.YthjplkjpehdpfaaZAcyPlain
import Derived.Test.YthjplkjpehdpfaaZExtPlain2
namespace Go.Proofs.Ythjplkjpehdpfaa
set_option linter.unusedVariables false

def nxE (E : List (Nat × Nat)) (u : Nat) : List Nat := (zg E u).map Int.toNat
def hdN (c : List Nat) : Nat := nth c 0
noncomputable def xJ (n : Nat) (E : List (Nat × Nat)) : List (List Nat) := ((List.range n).filter fun v => decide (hdN (xd (nxE E) n v) = v)).map (xd (nxE E) n)
section
variable {n : Nat} {E : List (Nat × Nat)} (h : InN n E)
include h
theorem zaQ {u w : Nat} : w ∈ nxE E u ↔ (w : Int) ∈ zg E u := by
 unfold nxE
 rw [List.mem_map]
 constructor
 ·rintro ⟨x, hx, rfl⟩
  rw [Int.toNat_of_nonneg (zK h hx).1]; exact hx
 ·intro hw; exact ⟨_, hw, rfl⟩
theorem Yr : ∀ a, a < n → ∀ w ∈ nxE E a, w < n := fun a _ w hw => by
 have := (zK h ((zaQ h).1 hw)).2
 omega
omit h in
theorem zew {a : Nat} (ha : a < n) : a ∈ xd (nxE E) n a := YR.2 ⟨ha, .refl a, .refl a⟩
omit h in
theorem zc7 {a : Nat} (ha : a < n) : hdN (xd (nxE E) n a) ∈ xd (nxE E) n a := by
 unfold hdN
 exact zF (List.length_pos_of_mem (zew ha))
omit h in
theorem zby {a : Nat} (ha : a < n) : xd (nxE E) n (hdN (xd (nxE E) n a)) = xd (nxE E) n a := by
 have := YR.1 (zc7 (E := E) ha)
 exact VT this.2.1 this.2.2
omit h in
theorem zbX {c : List Nat} : c ∈ xJ n E ↔ ∃ a, a < n ∧ c = xd (nxE E) n a := by
 unfold xJ
 rw [List.mem_map]
 constructor
 ·rintro ⟨a, ha, rfl⟩
  exact ⟨a, List.mem_range.1 (List.mem_filter.1 ha).1, rfl⟩
 ·rintro ⟨a, ha, rfl⟩
  refine ⟨hdN (xd (nxE E) n a), List.mem_filter.2 ⟨List.mem_range.2 (YR.1 (zc7 ha)).1, ?_⟩, zby ha⟩
  rw [decide_eq_true_iff, zby ha]
omit h in
theorem WU : (xJ n E).Pairwise fun a b => hdN a < hdN b := by
 unfold xJ
 rw [List.pairwise_map]
 refine (List.pairwise_lt_range.filter _).imp_of_mem fun {a b} ha hb hab => ?_
 rw [of_decide_eq_true (List.mem_filter.1 ha).2, of_decide_eq_true (List.mem_filter.1 hb).2]
 exact hab
theorem zcS {srt : List Nat → List Nat} (hsrt : ∀ l : List Nat, (srt l).Perm l ∧ (srt l).Pairwise (· ≤ ·)) {L : List (List Nat)} (hp : L.Perm (tTo (nxE E) srt n n).out) (hs : L.Pairwise fun a b => hdN a ≤ hdN b) : L = xJ n E := by
 obtain ⟨t1, t2⟩ := zfO (nx := nxE E) hsrt (Yr h)
 have hnd : L.Nodup := hp.nodup_iff.2 t1
 have hm : ∀ c, c ∈ L ↔ ∃ a, a < n ∧ c = xd (nxE E) n a := fun c => by rw [hp.mem_iff]; exact t2 c
 have hlt : L.Pairwise fun a b => hdN a < hdN b := by
  refine (hnd.and hs).imp_of_mem fun {a b} ha hb hab => ?_
  obtain ⟨x, hx, ea⟩ := (hm a).1 ha
  obtain ⟨y, hy, eb⟩ := (hm b).1 hb
  have hne : hdN a ≠ hdN b := fun e => hab.1 (by
   rw [ea, eb] at e ⊢
   rw [← zby hx, ← zby hy, e])
  have := hab.2
  omega
 have hg : (xJ n E).Nodup := WU.imp fun h e => by rw [e] at h; omega
 have hperm : L.Perm (xJ n E) := (List.perm_ext_iff_of_nodup hnd hg).2 fun c => by rw [hm c, zbX]
 exact hperm.eq_of_pairwise (fun a b _ _ h1 h2 => absurd h1 (by omega)) hlt WU
theorem zbG {s : Nat} (hs : s < n) : ∀ (k v : Nat), v < n → Way E (zw n E s) s k v → (∀ x ∈ xg E (zw n E s) s k v, (s : Int) < x ∧ nth (zw n E s) x.toNat ≤ k) ∧ (xg E (zw n E s) s k v).Nodup
 | 0, v, _, _ => ⟨(fun x hx => by cases hx), .nil⟩
 | k + 1, v, hv, hw => by
  obtain ⟨j, hj, e1, e2, e3, e4⟩ := Way.step h hs hw
  obtain ⟨i1, i2⟩ := zbG hs k _ e3 e4
  rcases hw with h0 | ⟨w, hw, hp⟩
  ·omega
  obtain ⟨q, hq, eq, hqq⟩ := Zb hw hp
  have hjq : j = q := by have := e1.symm.trans eq; omega
  subst hjq
  unfold ZL at hqq
  rw [decide_eq_true_eq, e2] at hqq
  show (∀ x ∈ _ :: _, _) ∧ (_ :: _).Nodup
  refine ⟨fun x hx => ?_, ?_⟩
  ·rcases List.mem_cons.1 hx with rfl | hx
   ·omega
   ·have := i1 x hx; omega
  ·rw [List.nodup_cons]
   refine ⟨fun hm => ?_, i2⟩
   have := (i1 _ hm).2
   omega
theorem UO (hc : ya E n ≠ []) : (ya E n).Nodup ∧ ∀ x ∈ ya E n, nth (ya E n) 0 ≤ x := by
 have hg : ya E n = Vv n E n := (Yg h).symm
 rcases Ye h n (Nat.le_refl n) with ⟨e, _⟩ | ⟨s0, K, h1, h2, e, _, _⟩
 ·exact absurd (hg.trans e) hc
 rw [hg, e]
 obtain ⟨k, hk, _, hW⟩ := xq h h1 (show zZ (zw n E s0) s0 (zg E s0) ≠ 0 by have : zZ (zw n E s0) s0 (zg E s0) = _ := h2; omega)
 have hkK : k = K := by have : zZ (zw n E s0) s0 (zg E s0) = _ := h2; omega
 subst hkK
 obtain ⟨w1, w2⟩ := zbG h h1 k s0 h1 hW
 refine ⟨List.nodup_cons.2 ⟨fun hm => ?_, w2⟩, fun x hx => ?_⟩
 ·have := (w1 _ hm).1; omega
 ·show (s0 : Int) ≤ x
  rcases List.mem_cons.1 hx with rfl | hx
  ·exact Int.le_refl _
  ·have := (w1 x hx).1; omega
omit h in
theorem zbV : (xJ n E).length = n ↔ ∀ v, v < n → hdN (xd (nxE E) n v) = v := by
 unfold xJ
 rw [List.length_map]
 constructor
 ·intro hl v hv
  have : (List.range n).filter (fun v => decide (hdN (xd (nxE E) n v) = v)) = List.range n := by
   refine List.Sublist.eq_of_length List.filter_sublist ?_
   rw [hl, List.length_range]
  have hm : v ∈ (List.range n).filter (fun v => decide (hdN (xd (nxE E) n v) = v)) := by rw [this]; exact List.mem_range.2 hv
  exact of_decide_eq_true (List.mem_filter.1 hm).2
 ·intro ha
  rw [List.filter_eq_self.2 fun v hv => decide_eq_true (ha v (List.mem_range.1 hv)), List.length_range]
theorem zcv : ((xJ n E).length = n ∧ ∀ e ∈ E, e.1 ≠ e.2) ↔ ya E n = [] := by
 rw [zbV]
 constructor
 ·rintro ⟨h1, h2⟩
  refine Classical.byContradiction fun hc => ?_
  obtain ⟨c1, c2⟩ := UO h hc
  have he := Uo h hc
  obtain ⟨L, hL⟩ : ∃ L, (ya E n).length = L := ⟨_, rfl⟩
  have hL0 : 0 < L := by rw [← hL]; exact List.length_pos_iff.2 hc
  rw [hL] at he
  have ed : ∀ {a b : Nat}, (a, b) ∈ E → b ∈ nxE E a := fun hab => (zaQ h).2 (zM.2 ⟨_, hab, rfl, rfl⟩)
  have WA : ∀ d i, i + d + 1 = L → ∃ a b : Nat, nth (ya E n) i = a ∧ nth (ya E n) 0 = b ∧ Rr (nxE E) a b := by
   intro d
   induction d with
   | zero =>
    intro i hi
    obtain ⟨a, b, e1, e2, e3⟩ := he i (by omega)
    rw [show (i + 1) % L = 0 by rw [show i + 1 = L by omega]; exact Nat.mod_self _] at e2
    exact ⟨a, b, e1, e2, .one (ed e3)⟩
   | succ d ih =>
    intro i hi
    obtain ⟨a, b, e1, e2, e3⟩ := he i (by omega)
    rw [Nat.mod_eq_of_lt (by omega)] at e2
    obtain ⟨a', b', f1, f2, f3⟩ := ih (i + 1) (by omega)
    have : a' = b := by rw [f1] at e2; omega
    subst this
    exact ⟨a, b', e1, f2, (Rr.one (ed e3)).trans f3⟩
  obtain ⟨a, b, e1, e2, e3⟩ := he 0 hL0
  have hin := h (a, b) e3
  dsimp only at hin
  by_cases hone : L = 1
  ·rw [hone] at e2
   rw [show (0 + 1) % 1 = 0 from rfl] at e2
   exact h2 (a, b) e3 (by show a = b; rw [e1] at e2; omega)
  ·rw [Nat.mod_eq_of_lt (by omega)] at e2
   obtain ⟨a', b', f1, f2, f3⟩ := WA (L - 2) 1 (by omega)
   have ea : b' = a := by rw [f2] at e1; omega
   have eb : a' = b := by
    have e2' : nth (ya E n) 1 = (b : Int) := e2
    rw [f1] at e2'; omega
   subst ea eb
   have hs := VT (n := n) (Rr.one (ed e3)) f3
   have p := h1 b' hin.1
   have q := h1 a' hin.2
   rw [hs, p] at q
   subst q
   exact h2 _ e3 rfl
 ·intro hc
  obtain ⟨f, hf⟩ := XT h hc
  have hr : ∀ {a b : Nat}, Rr (nxE E) a b → a = b ∨ f a < f b := fun hr => by
   induction hr with
   | refl => exact .inl rfl
   | @tail b c _ e ih =>
    obtain ⟨q, hq, q1, q2⟩ := zM.1 ((zaQ h).1 e)
    have := hf q hq
    have e2 : q.2 = c := by omega
    rw [q1, e2] at this
    rcases ih with rfl | ih
    ·exact .inr this
    ·exact .inr (by omega)
  refine ⟨fun v hv => ?_, fun e he eq => by have := hf e he; rw [eq] at this; omega⟩
  have hm := YR.1 (zc7 (E := E) hv)
  rcases hr hm.2.1 with e | e
  ·exact e.symm
  ·rcases hr hm.2.2 with e2 | e2
   ·exact e2
   ·omega
end
end Go.Proofs.Ythjplkjpehdpfaa
