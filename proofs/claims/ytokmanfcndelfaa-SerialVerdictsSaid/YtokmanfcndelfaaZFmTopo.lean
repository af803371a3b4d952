/-
  The contract of graph.Topo.
-/
import Derived.Test.YtokmanfcndelfaaZL
import Derived.Test.YtokmanfcndelfaaZFmCyc2
namespace Go.Proofs.Ytokmanfcndelfaa
set_option linter.unusedVariables false
open Go.RowKit

def zes (a q : Nat) : zt := ⟨a, .hrow, 82, 1, [[.ptr 5000 q 0 0]]⟩
theorem zgE {a q v v' n n' : Nat} {res : FV} {o : Nat → zt} {l l' : List Int} (hr : res.cl [5002, 5000, 5001] = true) (h2 : o 5002 = zes a q) (h0 : o 5000 = yD q v' n') (h1 : o 5001 = xy v' l') : Xy [(5002, zes a q), (5000, yD q v n), (5001, xy v l)] [] res o where
 old k hk hl := by
  simp at hk
  rcases hk with rfl | rfl | rfl
  ·rw [h2]; exact ⟨rfl, rfl, rfl⟩
  ·rw [h0]; exact ⟨rfl, rfl, rfl⟩
  ·rw [h1]; exact ⟨rfl, rfl, rfl⟩
 new k hk := by cases hk
 cl k hk := by
  simp at hk
  rcases hk with rfl | rfl | rfl
  ·rw [h2]; rfl
  ·rw [h0]; rfl
  ·rw [h1]; rfl
 res := hr
set_option maxHeartbeats 4000000 in
theorem UD (a q v : Nat) (l : List Int) (x : Int) (hl : l.length ≤ 100000) : xh Try.prog 45 [.int .i64 x, .ptr 5002 a 0 0] [(5002, zes a q), (5000, yD q v l.length), (5001, xy v l)] [] (fun res o => res = .tup [] ∧ o 5002 = zes a q ∧ o 5000 = yD q (v + 1) (l.length + 1) ∧ o 5001 = xy (v + 1) (Yo l x)) := by
 refine xh.of_body (c := (xB Try.prog zE zq 8)) ⟨Try.func45, rfl, Try.ntmps45, by kernel_rfl⟩ (by exact Nat.le_of_ble_eq_true rfl) ?_ ?_
 ·rintro res o ⟨rfl, h2, h0, h1⟩; exact zgE rfl h2 h0 h1
 change FW _ _ _ ⟨[(0, .int .i64 x), (1, .ptr 5002 a 0 0)], [(5002, zes a q), (5000, yD q v l.length), (5001, xy v l)]⟩
 unfold zes
 (repeat (first | refine FW.region ?_ | refine YS rfl rfl rfl rfl rfl rfl rfl ?_ | refine zaD rfl rfl rfl (by kernel_rfl) rfl rfl ?_ | refine Ur rfl rfl (by kernel_rfl) rfl rfl ?_ | refine zb rfl rfl rfl ?_))
 refine Zx (zdg q v l x hl) [(5000, 5000), (5001, 5001)] rfl (zH.cons rfl rfl rfl (zH.cons rfl rfl rfl zH.nil)) rfl rfl rfl rfl rfl rfl ?_
 rintro _ ob' ⟨rfl, h1, h2⟩
 refine xf.one [(5000, yD q (v + 1) (l.length + 1)), (5001, xy (v + 1) (Yo l x))] (.tup []) rfl (by show [(5000, zt.ren _ (look {} ob' 5000)), (5001, zt.ren _ (look {} ob' 5001))] = _; rw [h1, h2]; rfl) ?_
 clear h1 h2 ob'
 (repeat (first | refine zd.nil ?_))
 exact ⟨.inr rfl, _, .plain .nil rfl rfl, rfl, rfl, rfl, rfl⟩
def ZH (n : Nat) (E : List (Nat × Nat)) (i : Nat) : List Int := ((zS n E).take i).foldl (fun m r => r.foldl zap m) (List.replicate n 0)
theorem zdj (n : Nat) (E : List (Nat × Nat)) {i : Nat} (h : i < n) : ZH n E (i + 1) = (zy E i).foldl zap (ZH n E i) := by
 have hl := yl n E
 unfold ZH
 rw [List.take_succ_eq_append_getElem (by omega), List.foldl_append, ← nth_eq (by omega), Zf E h]; rfl
theorem ze2 (n : Nat) (E : List (Nat × Nat)) : ZH n E n = UZ n E := by
 unfold ZH UZ
 rw [List.take_of_length_le (by rw [yl]; exact Nat.le_refl _)]
theorem zdi {n : Nat} {E : List (Nat × Nat)} (h : InN n E) (i : Nat) : (ZH n E i).length = n ∧ ∀ w : Nat, w < n → 0 ≤ nth (ZH n E i) w ∧ nth (ZH n E i) w ≤ n := by
 obtain ⟨k1, k2⟩ := Uv (n := n) (rows := (zS n E).take i) (m := List.replicate n 0) (fun r hr => by
  obtain ⟨u, _, rfl⟩ := List.mem_map.1 (List.mem_of_mem_take hr)
  exact ⟨Zq E u, fun w hw => yw h hw⟩) (by simp)
 refine ⟨k1, fun w hw => ?_⟩
 have h1 : (((zS n E).take i).countP fun r => decide ((w : Int) ∈ r)) ≤ ((zS n E).take i).length := List.countP_le_length
 rw [List.length_take, yl] at h1
 unfold ZH
 rw [k2 w hw, nth_eq (by simpa using hw)]
 simp
 omega
end Go.Proofs.Ytokmanfcndelfaa
