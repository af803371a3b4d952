/-
  The reference's edges; simprooflaw22.SerialEdges answers true for every input (walked on plain values).
-/
import Derived.Test.YtokmanfcndelfaaZFmSer8
import Derived.Test.YtokmanfcndelfaaZFmSer7
namespace Go.Proofs.Ytokmanfcndelfaa
set_option linter.unusedVariables false
open Go.RowKit

theorem zbM (l : List OpV) (s : Bool) (i : Nat) : ∀ k, (ye l s i k).length ≤ 4 * k
 | 0 => by simp [ye]
 | k + 1 => by rw [ZR, List.length_append]; have := zbM l s i k; have := zbL l s i k; omega
set_option maxHeartbeats 4000000 in
theorem zbd (l : List OpV) (s : Bool) (hl : l.length ≤ 1000) : yc Try.prog 24 [.list 8 (l.map OpV.fv), .bool s] (.ow 28 3) (.list 3 ((yj l s).map EdV.fv)) := by
 obtain ⟨n, hn⟩ : ∃ n, l.length = n := ⟨_, rfl⟩
 refine yc.of_body (c := (xB Try.prog zE zq 44)) ⟨Try.func24, rfl, Try.ntmps24, by kernel_rfl⟩ (by simp [FV.hand]) (by exact Nat.le_of_ble_eq_true rfl) rfl ?_
 change FW _ _ _ ⟨[(0, .list 8 (l.map OpV.fv)), (1, .bool s)], []⟩
 (repeat (first | refine FW.seq ?_ | refine FW.region ?_ | refine FW.block ?_ | refine zd.nil ?_ | refine za rfl rfl rfl ?_))
 refine FW.loop (fun i : Nat => ⟨[(0, .list 8 (l.map OpV.fv)), (1, .bool s), (5, .own 100 0 0 (XF l s i).length), (6, .int .i64 i)], [(100, ⟨0, .own, 28, 3, (XF l s i).map EdV.fv⟩)]⟩) (fun i => i ≤ n) (fun i => n - i) 0 (Nat.zero_le _) ?_ ?_
 ·show FLe _ ⟨[(0, .list 8 (l.map OpV.fv)), (1, .bool s), (5, .own 100 0 0 0), (6, .int .i64 0)], [(100, ⟨0, .own, 28, 3, []⟩)]⟩
  exact (FLe.cv [⟨100, none, 0, ⟨0, .own, 28, 3, []⟩⟩] (by repeat (first | exact .nil | refine .new ?_)) (by repeat (first | exact .nil | refine .cons (.plain rfl rfl (by first | rfl | (simp; done) | (congr 1; omega) | (simp; omega) | (simp [List.take_of_length_le]; done) | (refine congrArg (FV.int .i64) ?_; omega))) ?_ | refine .cons (.nil rfl (.head _) rfl) ?_)))
 intro i hi
 have hel := zc6 l s (i := i) (by omega) hl
 have hes := Vv l s i
 have hlast : i = n → yj l s = XF l s i := fun e => by unfold yj; rw [hn, e]
 generalize XF l s i = A at hel hes hlast
 (repeat (first | refine FW.seq ?_ | refine FW.region ?_ | refine zd.nil ?_ | refine zb rfl rfl rfl ?_ | refine zg rfl rfl (by first | exact List.length_map _ | exact (List.length_map _).symm | exact List.length_replicate | rfl | (simp; done) | omega | (simp; omega)) rfl rfl ?_ | refine zN rfl rfl rfl rfl ?_))
 refine FW.cond rfl (fun hc => ?_) (fun hc => ?_)
 ·have hin : i < n := by rw [hn] at hc; simpa using hc
  clear hc hlast
  have hin2 : i < l.length := by omega
  (repeat (first | refine FW.seq ?_ | refine FW.region ?_ | refine FW.block ?_ | refine FW.skip ?_ | refine zd.nil ?_ | refine za rfl rfl rfl ?_))
  refine FW.loop (fun k : Nat => ⟨[(0, .list 8 (l.map OpV.fv)), (1, .bool s), (5, .own 100 0 0 (A ++ ye l s i k).length), (6, .int .i64 i), (7, .int .i64 k)], [(100, ⟨0, .own, 28, 3, (A ++ ye l s i k).map EdV.fv⟩)]⟩) (fun k => k ≤ n) (fun k => n - k) 0 (Nat.zero_le _) ?_ ?_
  ·show FLe _ ⟨[(0, .list 8 (l.map OpV.fv)), (1, .bool s), (5, .own 100 0 0 (A ++ []).length), (6, .int .i64 i), (7, .int .i64 0)], [(100, ⟨0, .own, 28, 3, (A ++ []).map EdV.fv⟩)]⟩
   rw [List.append_nil]
   exact (FLe.cv [⟨100, some 100, 0, ⟨0, .own, 28, 3, A.map EdV.fv⟩⟩] (by repeat (first | exact .nil | refine .old rfl (by decide) (by first | rfl | (simp; done) | (congr 1; omega) | (simp; omega) | (simp [List.take_of_length_le]; done) | (refine congrArg (FV.int .i64) ?_; omega)) ?_)) (by repeat (first | exact .nil | refine .cons (.plain rfl rfl (by first | rfl | (simp; done) | (congr 1; omega) | (simp; omega) | (simp [List.take_of_length_le]; done) | (refine congrArg (FV.int .i64) ?_; omega))) ?_ | refine .cons (.own rfl (.head _) rfl (by first | rfl | (simp; done) | (congr 1; omega) | (simp; omega) | (simp [List.take_of_length_le]; done) | (refine congrArg (FV.int .i64) ?_; omega))) ?_)))
  intro k hk
  have hrl := zbM l s i k
  have hBl : (A ++ ye l s i k).length = A.length + (ye l s i k).length := List.length_append
  have hBs : A ++ ye l s i (k + 1) = (A ++ ye l s i k) ++ xL l s i k := by rw [ZR, List.append_assoc]
  have hlast : k = n → A ++ ye l s i k = XF l s (i + 1) := fun e => by rw [hes, e, hn]
  generalize A ++ ye l s i k = B at hBl hBs hlast
  (repeat (first | refine FW.seq ?_ | refine FW.region ?_ | refine zd.nil ?_ | refine zb rfl rfl rfl ?_ | refine zg rfl rfl (by first | exact List.length_map _ | exact (List.length_map _).symm | exact List.length_replicate | rfl | (simp; done) | omega | (simp; omega)) rfl rfl ?_ | refine zN rfl rfl rfl rfl ?_))
  refine FW.cond rfl (fun hc => ?_) (fun hc => ?_)
  ·have hkn : k < n := by rw [hn] at hc; simpa using hc
   clear hc hlast
   have hkn2 : k < l.length := by omega
   have hwy := zck l s i k hin2 hkn2 (by omega)
   have hwl := UG l s i k
   have hrow : xL l s i k = (xK l s i k).map fun w => (i, k, w) := rfl
   rw [hrow] at hBs
   generalize xK l s i k = W at hwy hwl hBs
   (repeat (first | refine FW.seq ?_ | refine FW.region ?_ | refine FW.block ?_ | refine FW.skip ?_ | refine zb rfl rfl rfl ?_))
   refine YP hwy (by repeat (first | exact zx.nil | refine zx.cons (by first | exact yI.plain rfl rfl) ?_)) (List.length_map _) rfl rfl rfl ?_
   refine zd.le ?_ (FLe.share 26 rfl rfl (by rw [List.length_map]))
   (repeat (first | refine FW.seq ?_ | refine FW.region ?_ | refine FW.block ?_ | refine zd.nil ?_ | refine za rfl rfl rfl ?_))
   refine FW.loop (fun j : Nat => ⟨[(0, .list 8 (l.map OpV.fv)), (1, .bool s), (5, .own 100 0 0 (B ++ (W.take j).map fun w => (i, k, w)).length), (6, .int .i64 i), (7, .int .i64 k), (8, .list 1 (W.map zp)), (9, .int .i64 j)], [(100, ⟨0, .own, 28, 3, (B ++ (W.take j).map fun w => (i, k, w)).map EdV.fv⟩)]⟩) (fun j => j ≤ W.length) (fun j => W.length - j) 0 (Nat.zero_le _) ?_ ?_
   ·show FLe _ ⟨[(0, .list 8 (l.map OpV.fv)), (1, .bool s), (5, .own 100 0 0 (B ++ []).length), (6, .int .i64 i), (7, .int .i64 k), (8, .list 1 (W.map zp)), (9, .int .i64 0)], [(100, ⟨0, .own, 28, 3, (B ++ []).map EdV.fv⟩)]⟩
    rw [List.append_nil]
    exact (FLe.cv [⟨100, some 100, 0, ⟨0, .own, 28, 3, B.map EdV.fv⟩⟩] (by repeat (first | exact .nil | refine .old rfl (by decide) (by first | rfl | (simp; done) | (congr 1; omega) | (simp; omega) | (simp [List.take_of_length_le]; done) | (refine congrArg (FV.int .i64) ?_; omega)) ?_)) (by repeat (first | exact .nil | refine .cons (.plain rfl rfl (by first | rfl | (simp; done) | (congr 1; omega) | (simp; omega) | (simp [List.take_of_length_le]; done) | (refine congrArg (FV.int .i64) ?_; omega))) ?_ | refine .cons (.own rfl (.head _) rfl (by first | rfl | (simp; done) | (congr 1; omega) | (simp; omega) | (simp [List.take_of_length_le]; done) | (refine congrArg (FV.int .i64) ?_; omega))) ?_)))
   intro j hj
   have hCl : (B ++ (W.take j).map fun w => (i, k, w)).length = B.length + j := by rw [List.length_append, List.length_map, List.length_take]; omega
   have hCs : ∀ h : j < W.length, (B ++ (W.take (j + 1)).map fun w => (i, k, w)) = (B ++ (W.take j).map fun w => (i, k, w)) ++ [(i, k, nth W j)] := fun h => by rw [List.take_succ_eq_append_getElem h, List.map_append, ← List.append_assoc, nth_eq h]; rfl
   have hlast : j = W.length → (B ++ (W.take j).map fun w => (i, k, w)) = A ++ ye l s i (k + 1) := fun e => by rw [hBs, e, List.take_length]
   generalize (B ++ (W.take j).map fun w => (i, k, w)) = C at hCl hCs hlast
   (repeat (first | refine FW.seq ?_ | refine FW.region ?_ | refine zd.nil ?_ | refine zb rfl rfl rfl ?_ | refine zg rfl rfl (by first | exact List.length_map _ | exact (List.length_map _).symm | exact List.length_replicate | rfl | (simp; done) | omega | (simp; omega)) rfl rfl ?_ | refine zN rfl rfl rfl rfl ?_))
   refine FW.cond rfl (fun hc => ?_) (fun hc => ?_)
   ·have hjm : j < W.length := by simpa using hc
    clear hc hlast
    have hCs := hCs hjm
    (repeat (first | refine FW.seq ?_ | refine FW.region ?_ | refine FW.block ?_ | refine FW.skip ?_ | refine zd.nil ?_ | refine za rfl rfl rfl ?_ | refine zb rfl rfl rfl ?_ | refine zh rfl rfl (by first | rfl | exact (Int.toNat_of_nonneg (by omega)).symm) rfl rfl rfl (by first | omega | (simp; omega) | (simp; done)) rfl rfl ?_ | refine zA rfl rfl rfl (by first | omega | (simp; omega) | (simp; done)) (by first | exact zc (by omega) | rfl) rfl rfl rfl rfl ?_ | refine yA rfl rfl rfl rfl ?_ | refine xn rfl rfl rfl rfl rfl rfl rfl rfl rfl rfl ?_ | refine xa rfl rfl (by first | exact List.length_map _ | exact (List.length_map _).symm | exact List.length_replicate | rfl | (simp; done) | omega | (simp; omega)) rfl rfl rfl (by decide) (by first | exact xi.own rfl rfl (by decide) (by first | exact List.length_map _ | exact (List.length_map _).symm | exact List.length_replicate | rfl | (simp; done) | omega | (simp; omega)) | exact xi.list rfl | exact xi.nil rfl | exact xi.part rfl rfl (by decide)) (by first | omega | (simp; omega) | (simp; done)) (by first | omega | (simp; omega) | (simp; done)) rfl rfl rfl ?_ | refine zw rfl rfl (by omega) rfl rfl ?_ | refine yO.nil ?_ | refine yO.one rfl rfl rfl rfl rfl ?_))
    refine ⟨j + 1, by omega, by omega, ?_⟩
    rw [hCs, List.map_append]
    exact (FLe.cv [⟨100, some 42, 0 + 1, ⟨0, .own, 28, 3, C.map EdV.fv ++ [(i, k, nth W j)].map EdV.fv⟩⟩] (by repeat (first | exact .nil | refine .old rfl (by decide) (by first | rfl | (simp; done) | (congr 1; omega) | (simp; omega) | (simp [List.take_of_length_le]; done) | (refine congrArg (FV.int .i64) ?_; omega)) ?_)) (by repeat (first | exact .nil | refine .cons (.plain rfl rfl (by first | rfl | (simp; done) | (congr 1; omega) | (simp; omega) | (simp [List.take_of_length_le]; done) | (refine congrArg (FV.int .i64) ?_; omega))) ?_ | refine .cons (.own rfl (.head _) rfl (by first | rfl | (simp; done) | (congr 1; omega) | (simp; omega) | (simp [List.take_of_length_le]; done) | (refine congrArg (FV.int .i64) ?_; omega))) ?_)))
   ·obtain rfl : j = W.length := by simp at hc; omega
    have hl := hlast rfl
    (repeat (first | refine FW.region ?_ | refine FW.exit ?_ | refine zd.nil ?_ | refine za rfl rfl rfl ?_ | refine zb rfl rfl rfl ?_ | refine zw rfl rfl (by omega) rfl rfl ?_))
    refine ⟨k + 1, by omega, by omega, ?_⟩
    rw [← hl]
    exact (FLe.cv [⟨100, some 100, 0, ⟨0, .own, 28, 3, C.map EdV.fv⟩⟩] (by repeat (first | exact .nil | refine .old rfl (by decide) (by first | rfl | (simp; done) | (congr 1; omega) | (simp; omega) | (simp [List.take_of_length_le]; done) | (refine congrArg (FV.int .i64) ?_; omega)) ?_)) (by repeat (first | exact .nil | refine .cons (.plain rfl rfl (by first | rfl | (simp; done) | (congr 1; omega) | (simp; omega) | (simp [List.take_of_length_le]; done) | (refine congrArg (FV.int .i64) ?_; omega))) ?_ | refine .cons (.own rfl (.head _) rfl (by first | rfl | (simp; done) | (congr 1; omega) | (simp; omega) | (simp [List.take_of_length_le]; done) | (refine congrArg (FV.int .i64) ?_; omega))) ?_)))
  ·obtain rfl : k = n := by rw [hn] at hc; simp at hc; omega
   have hl := hlast rfl
   (repeat (first | refine FW.region ?_ | refine FW.exit ?_ | refine zd.nil ?_ | refine za rfl rfl rfl ?_ | refine zb rfl rfl rfl ?_ | refine zw rfl rfl (by omega) rfl rfl ?_))
   refine ⟨i + 1, by omega, by omega, ?_⟩
   rw [← hl]
   exact (FLe.cv [⟨100, some 100, 0, ⟨0, .own, 28, 3, B.map EdV.fv⟩⟩] (by repeat (first | exact .nil | refine .old rfl (by decide) (by first | rfl | (simp; done) | (congr 1; omega) | (simp; omega) | (simp [List.take_of_length_le]; done) | (refine congrArg (FV.int .i64) ?_; omega)) ?_)) (by repeat (first | exact .nil | refine .cons (.plain rfl rfl (by first | rfl | (simp; done) | (congr 1; omega) | (simp; omega) | (simp [List.take_of_length_le]; done) | (refine congrArg (FV.int .i64) ?_; omega))) ?_ | refine .cons (.own rfl (.head _) rfl (by first | rfl | (simp; done) | (congr 1; omega) | (simp; omega) | (simp [List.take_of_length_le]; done) | (refine congrArg (FV.int .i64) ?_; omega))) ?_)))
 ·obtain rfl : i = n := by rw [hn] at hc; simp at hc; omega
  rw [hlast rfl]
  (repeat (first | refine FW.seq ?_ | refine FW.region ?_ | refine FW.exit ?_ | refine zd.nil ?_ | refine za rfl rfl rfl ?_ | refine zb rfl rfl rfl ?_))
  exact FW.ret ⟨.inl rfl, Ul rfl rfl rfl (by simp) (by decide) rfl (EdV.flatsM _)⟩
end Go.Proofs.Ytokmanfcndelfaa
