/-
  The components of a graph as one list; components and cycles, components and reach.
-/
import Derived.Test.YthjplkjpehdpfaaZTarjPlain
import Derived.Test.YthjplkjpehdpfaaZAcyPlain
import Derived.Test.YthjplkjpehdpfaaZExtPlain2
namespace Go.Proofs.Ythjplkjpehdpfaa
set_option linter.unusedVariables false

def nxE (E : List (Nat × Nat)) (u : Nat) : List Nat := (zj E u).map Int.toNat
def hdN (c : List Nat) : Nat := nth c 0
noncomputable def Zk (n : Nat) (E : List (Nat × Nat)) : List (List Nat) := ((List.range n).filter fun v => decide (hdN (xC (nxE E) n v) = v)).map (xC (nxE E) n)
section
variable {n : Nat} {E : List (Nat × Nat)} (h : InN n E)
include h
theorem zaM {u w : Nat} : w ∈ nxE E u ↔ (w : Int) ∈ zj E u := by
 unfold nxE
 rw [List.mem_map]
 constructor
 ·rintro ⟨x, hx, rfl⟩
  rw [Int.toNat_of_nonneg (zO h hx).1]; exact hx
 ·intro hw; exact ⟨_, hw, rfl⟩
theorem Yt : ∀ a, a < n → ∀ w ∈ nxE E a, w < n := fun a _ w hw => by
 have := (zO h ((zaM h).1 hw)).2
 omega
theorem zeJ {a b : Nat} (ha : a < n) : Rr (nxE E) a b ↔ Rch n E [(a : Int)] b := by
 constructor
 ·intro hr
  induction hr with
  | refl => exact .start ha (by simp)
  | tail _ e ih => exact .step ih ((zaM h).1 e)
 ·intro hr
  induction hr with
  | @start v hv hm =>
   have : v = a := by have := List.mem_singleton.1 hm; omega
   rw [this]; exact .refl a
  | step _ hm ih => exact .tail ih ((zaM h).2 hm)
omit h in
theorem zbt {a : Nat} (ha : a < n) : a ∈ xC (nxE E) n a := Zu.2 ⟨ha, .refl a, .refl a⟩
omit h in
theorem zeC {a : Nat} (ha : a < n) : hdN (xC (nxE E) n a) ∈ xC (nxE E) n a := by
 unfold hdN
 exact zF (List.length_pos_of_mem (zbt ha))
omit h in
theorem zbr {a : Nat} (ha : a < n) : xC (nxE E) n (hdN (xC (nxE E) n a)) = xC (nxE E) n a := by
 have := Zu.1 (zeC (E := E) ha)
 exact zbs this.2.1 this.2.2
omit h in
theorem ZG {c : List Nat} : c ∈ Zk n E ↔ ∃ a, a < n ∧ c = xC (nxE E) n a := by
 unfold Zk
 rw [List.mem_map]
 constructor
 ·rintro ⟨a, ha, rfl⟩
  exact ⟨a, List.mem_range.1 (List.mem_filter.1 ha).1, rfl⟩
 ·rintro ⟨a, ha, rfl⟩
  refine ⟨hdN (xC (nxE E) n a), List.mem_filter.2 ⟨List.mem_range.2 (Zu.1 (zeC ha)).1, ?_⟩, zbr ha⟩
  rw [decide_eq_true_iff, zbr ha]
omit h in
theorem Ve : (Zk n E).Pairwise fun a b => hdN a < hdN b := by
 unfold Zk
 rw [List.pairwise_map]
 refine (List.pairwise_lt_range.filter _).imp_of_mem fun {a b} ha hb hab => ?_
 rw [of_decide_eq_true (List.mem_filter.1 ha).2, of_decide_eq_true (List.mem_filter.1 hb).2]
 exact hab
theorem zcN {srt : List Nat → List Nat} (hsrt : ∀ l : List Nat, (srt l).Perm l ∧ (srt l).Pairwise (· ≤ ·)) {L : List (List Nat)} (hp : L.Perm (tTo (nxE E) srt n n).out) (hs : L.Pairwise fun a b => hdN a ≤ hdN b) : L = Zk n E := by
 obtain ⟨t1, t2⟩ := zfB (nx := nxE E) hsrt (Yt h)
 have hnd : L.Nodup := hp.nodup_iff.2 t1
 have hm : ∀ c, c ∈ L ↔ ∃ a, a < n ∧ c = xC (nxE E) n a := fun c => by rw [hp.mem_iff]; exact t2 c
 have hlt : L.Pairwise fun a b => hdN a < hdN b := by
  refine (hnd.and hs).imp_of_mem fun {a b} ha hb hab => ?_
  obtain ⟨x, hx, ea⟩ := (hm a).1 ha
  obtain ⟨y, hy, eb⟩ := (hm b).1 hb
  have hne : hdN a ≠ hdN b := fun e => hab.1 (by
   rw [ea, eb] at e ⊢
   rw [← zbr hx, ← zbr hy, e])
  have := hab.2
  omega
 have hg : (Zk n E).Nodup := Ve.imp fun h e => by rw [e] at h; omega
 have hperm : L.Perm (Zk n E) := (List.perm_ext_iff_of_nodup hnd hg).2 fun c => by rw [hm c, ZG]
 exact hperm.eq_of_pairwise (fun a b _ _ h1 h2 => absurd h1 (by omega)) hlt Ve
theorem zab {v w : Nat} (hv : v < n) (hw : w < n) : (∃ c ∈ Zk n E, v ∈ c ∧ w ∈ c) ↔ (Rch n E [(v : Int)] w ∧ Rch n E [(w : Int)] v) := by
 rw [← zeJ h hv, ← zeJ h hw]
 constructor
 ·rintro ⟨c, hc, h1, h2⟩
  obtain ⟨a, ha, rfl⟩ := ZG.1 hc
  have p := Zu.1 h1
  have q := Zu.1 h2
  exact ⟨p.2.2.trans q.2.1, q.2.2.trans p.2.1⟩
 ·rintro ⟨h1, h2⟩
  exact ⟨_, ZG.2 ⟨v, hv, rfl⟩, zbt hv, Zu.2 ⟨hw, h1, h2⟩⟩

end
end Go.Proofs.Ythjplkjpehdpfaa
