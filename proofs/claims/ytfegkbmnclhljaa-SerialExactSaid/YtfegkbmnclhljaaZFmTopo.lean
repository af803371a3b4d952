/-
  The contract of graph.Topo.
-/
import Derived.Test.YtfegkbmnclhljaaZL
import Derived.Test.YtfegkbmnclhljaaZFmCyc2
namespace Go.Proofs.Ytfegkbmnclhljaa
set_option linter.unusedVariables false
open Go.RowKit

def acell (a q : Nat) : FObj := ⟨a, .hrow, 93, 1, [[.ptr 5000 q 0 0]]⟩
theorem lendPostA {a q v v' n n' : Nat} {res : FV} {o : Nat → FObj} {l l' : List Int} (hr : res.cl [5002, 5000, 5001] = true) (h2 : o 5002 = acell a q) (h0 : o 5000 = qcell q v' n') (h1 : o 5001 = qrow v' l') : LendPost [(5002, acell a q), (5000, qcell q v n), (5001, qrow v l)] [] res o where
  old k hk hl := by
    simp at hk
    rcases hk with rfl | rfl | rfl
    · rw [h2]; exact ⟨rfl, rfl, rfl⟩
    · rw [h0]; exact ⟨rfl, rfl, rfl⟩
    · rw [h1]; exact ⟨rfl, rfl, rfl⟩
  new k hk := by cases hk
  cl k hk := by
    simp at hk
    rcases hk with rfl | rfl | rfl
    · rw [h2]; rfl
    · rw [h0]; rfl
    · rw [h1]; rfl
  res := hr
set_option maxHeartbeats 4000000 in
theorem topo1_specL (a q v : Nat) (l : List Int) (x : Int) (hl : l.length ≤ 100000) : SpecL Try.prog 63 [.int .i64 x, .ptr 5002 a 0 0] [(5002, acell a q), (5000, qcell q v l.length), (5001, qrow v l)] [] (fun res o => res = .tup [] ∧ o 5002 = acell a q ∧ o 5000 = qcell q (v + 1) (l.length + 1) ∧ o 5001 = qrow (v + 1) (hpush l x)) := by
  refine SpecL.of_body (c := (cxOf Try.prog tyAt_ok mixed_ok 8)) ⟨Try.func63, rfl, Try.ntmps63, by kernel_rfl⟩ (by exact Nat.le_of_ble_eq_true rfl) ?_ ?_
  · rintro res o ⟨rfl, h2, h0, h1⟩; exact lendPostA rfl h2 h0 h1
  change FW _ _ _ ⟨[(0, .int .i64 x), (1, .ptr 5002 a 0 0)], [(5002, acell a q), (5000, qcell q v l.length), (5001, qrow v l)]⟩
  unfold acell
  (repeat (first | refine FW.region ?_ | refine rn_loadH rfl rfl rfl rfl rfl rfl rfl ?_ | refine rn_mkIface rfl rfl rfl (by kernel_rfl) rfl rfl ?_ | refine rn_mkIfaceP rfl rfl (by kernel_rfl) rfl rfl ?_ | refine rn_move rfl rfl rfl ?_))
  refine rn_callL (hPush_specL q v l x hl) [(5000, 5000), (5001, 5001)] rfl (LendOk.cons rfl rfl rfl (LendOk.cons rfl rfl rfl LendOk.nil)) rfl rfl rfl rfl rfl rfl ?_
  rintro _ ob' ⟨rfl, h1, h2⟩
  refine After.one [(5000, qcell q (v + 1) (l.length + 1)), (5001, qrow (v + 1) (hpush l x))] (.tup []) rfl (by show [(5000, FObj.ren _ (look {} ob' 5000)), (5001, FObj.ren _ (look {} ob' 5001))] = _; rw [h1, h2]; rfl) ?_
  clear h1 h2 ob'
  (repeat (first | refine RunN.nil ?_))
  exact ⟨.inr rfl, _, .plain .nil rfl rfl, rfl, rfl, rfl, rfl⟩
def missTo (n : Nat) (E : List (Nat × Nat)) (i : Nat) : List Int := ((rowsOf n E).take i).foldl (fun m r => r.foldl incr m) (List.replicate n 0)
theorem missTo_succ (n : Nat) (E : List (Nat × Nat)) {i : Nat} (h : i < n) : missTo n E (i + 1) = (succs E i).foldl incr (missTo n E i) := by
  have hl := rowsOf_len n E
  unfold missTo
  rw [List.take_succ_eq_append_getElem (by omega), List.foldl_append, ← nth_eq (by omega), rowsOf_nth E h]; rfl
theorem missTo_end (n : Nat) (E : List (Nat × Nat)) : missTo n E n = miss0 n E := by
  unfold missTo miss0
  rw [List.take_of_length_le (by rw [rowsOf_len]; exact Nat.le_refl _)]
theorem missTo_spec {n : Nat} {E : List (Nat × Nat)} (h : InN n E) (i : Nat) : (missTo n E i).length = n ∧ ∀ w : Nat, w < n → 0 ≤ nth (missTo n E i) w ∧ nth (missTo n E i) w ≤ n := by
  obtain ⟨k1, k2⟩ := rows_incr (n := n) (rows := (rowsOf n E).take i) (m := List.replicate n 0) (fun r hr => by
    obtain ⟨u, _, rfl⟩ := List.mem_map.1 (List.mem_of_mem_take hr)
    exact ⟨succs_nodup E u, fun w hw => succs_in h hw⟩) (by simp)
  refine ⟨k1, fun w hw => ?_⟩
  have h1 : (((rowsOf n E).take i).countP fun r => decide ((w : Int) ∈ r)) ≤ ((rowsOf n E).take i).length := List.countP_le_length
  rw [List.length_take, rowsOf_len] at h1
  unfold missTo
  rw [k2 w hw, nth_eq (by simpa using hw)]
  simp
  omega
end Go.Proofs.Ytfegkbmnclhljaa
