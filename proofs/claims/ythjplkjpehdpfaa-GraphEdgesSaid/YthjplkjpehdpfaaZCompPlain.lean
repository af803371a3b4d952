/-
  The components of a graph as one list; components and cycles, components and reach.
-/
import Derived.Test.YthjplkjpehdpfaaZTarjPlain
import Derived.Test.YthjplkjpehdpfaaZAcyPlain
import Derived.Test.YthjplkjpehdpfaaZExtPlain2
namespace Go.Proofs.Ythjplkjpehdpfaa
set_option linter.unusedVariables false

def nxE (E : List (Nat × Nat)) (u : Nat) : List Nat := (zi E u).map Int.toNat
def hdN (c : List Nat) : Nat := nth c 0
noncomputable def xL (n : Nat) (E : List (Nat × Nat)) : List (List Nat) := ((List.range n).filter fun v => decide (hdN (xI (nxE E) n v) = v)).map (xI (nxE E) n)
section
variable {n : Nat} {E : List (Nat × Nat)} (h : InN n E)
include h
theorem zfY {u w : Nat} : w ∈ nxE E u ↔ (w : Int) ∈ zi E u := by
 unfold nxE
 rw [List.mem_map]
 constructor
 ·rintro ⟨x, hx, rfl⟩
  rw [Int.toNat_of_nonneg (zL h hx).1]; exact hx
 ·intro hw; exact ⟨_, hw, rfl⟩
theorem YH : ∀ a, a < n → ∀ w ∈ nxE E a, w < n := fun a _ w hw => by
 have := (zL h ((zfY h).1 hw)).2
 omega
omit h in
theorem zfb {a : Nat} (ha : a < n) : a ∈ xI (nxE E) n a := WS.2 ⟨ha, .refl a, .refl a⟩
omit h in
theorem zfy {a : Nat} (ha : a < n) : hdN (xI (nxE E) n a) ∈ xI (nxE E) n a := by
 unfold hdN
 exact zK (List.length_pos_of_mem (zfb ha))
omit h in
theorem zb6 {a : Nat} (ha : a < n) : xI (nxE E) n (hdN (xI (nxE E) n a)) = xI (nxE E) n a := by
 have := WS.1 (zfy (E := E) ha)
 exact zb7 this.2.1 this.2.2
omit h in
theorem VB {c : List Nat} : c ∈ xL n E ↔ ∃ a, a < n ∧ c = xI (nxE E) n a := by
 unfold xL
 rw [List.mem_map]
 constructor
 ·rintro ⟨a, ha, rfl⟩
  exact ⟨a, List.mem_range.1 (List.mem_filter.1 ha).1, rfl⟩
 ·rintro ⟨a, ha, rfl⟩
  refine ⟨hdN (xI (nxE E) n a), List.mem_filter.2 ⟨List.mem_range.2 (WS.1 (zfy ha)).1, ?_⟩, zb6 ha⟩
  rw [decide_eq_true_iff, zb6 ha]
omit h in
theorem VA : (xL n E).Pairwise fun a b => hdN a < hdN b := by
 unfold xL
 rw [List.pairwise_map]
 refine (List.pairwise_lt_range.filter _).imp_of_mem fun {a b} ha hb hab => ?_
 rw [of_decide_eq_true (List.mem_filter.1 ha).2, of_decide_eq_true (List.mem_filter.1 hb).2]
 exact hab
theorem zdx {srt : List Nat → List Nat} (hsrt : ∀ l : List Nat, (srt l).Perm l ∧ (srt l).Pairwise (· ≤ ·)) {L : List (List Nat)} (hp : L.Perm (tTo (nxE E) srt n n).out) (hs : L.Pairwise fun a b => hdN a ≤ hdN b) : L = xL n E := by
 obtain ⟨t1, t2⟩ := zgA (nx := nxE E) hsrt (YH h)
 have hnd : L.Nodup := hp.nodup_iff.2 t1
 have hm : ∀ c, c ∈ L ↔ ∃ a, a < n ∧ c = xI (nxE E) n a := fun c => by rw [hp.mem_iff]; exact t2 c
 have hlt : L.Pairwise fun a b => hdN a < hdN b := by
  refine (hnd.and hs).imp_of_mem fun {a b} ha hb hab => ?_
  obtain ⟨x, hx, ea⟩ := (hm a).1 ha
  obtain ⟨y, hy, eb⟩ := (hm b).1 hb
  have hne : hdN a ≠ hdN b := fun e => hab.1 (by
   rw [ea, eb] at e ⊢
   rw [← zb6 hx, ← zb6 hy, e])
  have := hab.2
  omega
 have hg : (xL n E).Nodup := VA.imp fun h e => by rw [e] at h; omega
 have hperm : L.Perm (xL n E) := (List.perm_ext_iff_of_nodup hnd hg).2 fun c => by rw [hm c, VB]
 exact hperm.eq_of_pairwise (fun a b _ _ h1 h2 => absurd h1 (by omega)) hlt VA
end
end Go.Proofs.Ythjplkjpehdpfaa
