/-
  serial.Edges, at plain values.
-/
import Derived.Test.YtokmanfcndelfaaZFmSer1
import Derived.Test.YtokmanfcndelfaaZFmW
namespace Go.Proofs.Ytokmanfcndelfaa
set_option linter.unusedVariables false
open Go.RowKit

theorem zc6 (l : List OpV) (s : Bool) {i : Nat} (hi : i ≤ l.length) (hl : l.length ≤ 1000) : (XF l s i).length ≤ 4000000 := by
 have h1 := Vb l s i
 have h2 : 4 * l.length * i ≤ 4 * 1000 * 1000 := Nat.mul_le_mul (Nat.mul_le_mul (Nat.le_refl 4) hl) (by omega)
 omega
set_option maxHeartbeats 4000000 in
theorem zeE (l : List OpV) (s : Bool) (hl : l.length ≤ 1000) : yc Try.prog 6 [.list 8 (l.map OpV.fv), .bool s] (.ow 28 3) (.list 3 ((yj l s).map EdV.fv)) := by
 obtain ⟨R, hR⟩ : ∃ R, zei l s = R := ⟨_, rfl⟩
 have hRl := zfz l s
 have hRn := fun j hj => zfA l s (j := j) hj
 have hr := zfB l s
 rw [hR] at hRl hRn hr
 obtain ⟨m, hm⟩ : ∃ m, WO s = m := ⟨_, rfl⟩
 have hm4 : m ≤ 4 := by rw [← hm]; unfold WO; split <;> omega
 have hall : ∀ i k, xY l i k m = zih l s i k := fun i k => by rw [← hm]; exact zfy l s i k
 rw [hm] at hRl hRn
 clear hR hm
 obtain ⟨n, hn⟩ : ∃ n, l.length = n := ⟨_, rfl⟩
 refine yc.of_body (c := (xB Try.prog zE zq 61)) ⟨Try.func6, rfl, Try.ntmps6, by kernel_rfl⟩ (by simp [FV.hand]) (by exact Nat.le_of_ble_eq_true rfl) rfl ?_
 change FW _ _ _ ⟨[(0, .list 8 (l.map OpV.fv)), (1, .bool s)], []⟩
 (repeat (first | refine FW.seq ?_ | refine FW.region ?_ | refine zd.nil ?_ | refine za rfl rfl rfl ?_ | refine zb rfl rfl rfl ?_))
 refine xc hr (by repeat (first | exact zx.nil | refine zx.cons (by exact yI.plain rfl rfl) ?_)) rfl rfl ?_
 (repeat (first | refine FW.seq ?_ | refine FW.region ?_ | refine FW.block ?_ | refine zd.nil ?_ | refine za rfl rfl rfl ?_ | refine zb rfl rfl rfl ?_ | refine zg rfl rfl (by exact List.length_map _) rfl rfl ?_))
 rw [hn]
 refine FW.loop (fun i : Nat => ⟨[(0, .list 8 (l.map OpV.fv)), (5, .list 2 R), (6, .own 100 0 0 (XF l s i).length), (15, .int .i64 n), (16, .int .i64 i)], [(100, ⟨0, .own, 28, 3, (XF l s i).map EdV.fv⟩)]⟩) (fun i => i ≤ n) (fun i => n - i) 0 (Nat.zero_le _) ?_ ?_
 ·show FLe _ ⟨[(0, .list 8 (l.map OpV.fv)), (5, .list 2 R), (6, .own 100 0 0 0), (15, .int .i64 n), (16, .int .i64 0)], [(100, ⟨0, .own, 28, 3, []⟩)]⟩
  exact (FLe.cv [⟨100, none, 0, ⟨0, .own, 28, 3, []⟩⟩] (by repeat (first | exact .nil | refine .new ?_)) (by repeat (first | exact .nil | refine .cons (.plain rfl rfl rfl) ?_ | refine .cons (.nil rfl (.head _) rfl) ?_)))
 intro i hi
 have hel := zc6 l s (i := i) (by omega) hl
 have hes := Vv l s i
 have hlast : i = n → yj l s = XF l s i := fun e => by unfold yj; rw [hn, e]
 generalize XF l s i = A at hel hes hlast
 (repeat (first | refine FW.seq ?_ | refine FW.region ?_ | refine zd.nil ?_ | refine zN rfl rfl rfl rfl ?_))
 refine FW.cond rfl (fun hc => ?_) (fun hc => ?_)
 ·have hin : i < n := by simpa using hc
  clear hc hlast
  have hin2 : i < l.length := by omega
  (repeat (first | refine FW.seq ?_ | refine FW.region ?_ | refine FW.block ?_ | refine FW.skip ?_ | refine zd.nil ?_ | refine za rfl rfl rfl ?_ | refine zb rfl rfl rfl ?_ | refine zg rfl rfl (by exact List.length_map _) rfl rfl ?_))
  rw [hn]
  refine FW.loop (fun k : Nat => ⟨[(0, .list 8 (l.map OpV.fv)), (5, .list 2 R), (6, .own 100 0 0 (A ++ ye l s i k).length), (15, .int .i64 n), (16, .int .i64 i), (7, .int .i64 i), (20, .int .i64 n), (21, .int .i64 k)], [(100, ⟨0, .own, 28, 3, (A ++ ye l s i k).map EdV.fv⟩)]⟩) (fun k => k ≤ n) (fun k => n - k) 0 (Nat.zero_le _) ?_ ?_
  ·show FLe _ ⟨[(0, .list 8 (l.map OpV.fv)), (5, .list 2 R), (6, .own 100 0 0 (A ++ []).length), (15, .int .i64 n), (16, .int .i64 i), (7, .int .i64 i), (20, .int .i64 n), (21, .int .i64 0)], [(100, ⟨0, .own, 28, 3, (A ++ []).map EdV.fv⟩)]⟩
   rw [List.append_nil]
   exact (FLe.cv [⟨100, some 100, 0, ⟨0, .own, 28, 3, A.map EdV.fv⟩⟩] (by repeat (first | exact .nil | refine .old rfl (by decide) rfl ?_)) (by repeat (first | exact .nil | refine .cons (.plain rfl rfl rfl) ?_ | refine .cons (.own rfl (.head _) rfl rfl) ?_)))
  intro k hk
  have hrl := Wh l s i k
  have hBl : (A ++ ye l s i k).length = A.length + (ye l s i k).length := List.length_append
  have hBs : A ++ ye l s i (k + 1) = (A ++ ye l s i k) ++ xL l s i k := by rw [ZR, List.append_assoc]
  have hlast : k = n → A ++ ye l s i k = XF l s (i + 1) := fun e => by rw [hes, e, hn]
  generalize A ++ ye l s i k = B at hBl hBs hlast
  (repeat (first | refine FW.seq ?_ | refine FW.region ?_ | refine zd.nil ?_ | refine zN rfl rfl rfl rfl ?_))
  refine FW.cond rfl (fun hc => ?_) (fun hc => ?_)
  ·have hkn : k < n := by simpa using hc
   clear hc hlast
   have hkn2 : k < l.length := by omega
   (repeat (first | refine FW.seq ?_ | refine FW.region ?_ | refine FW.block ?_ | refine FW.skip ?_ | refine zd.nil ?_ | refine za rfl rfl rfl ?_ | refine zb rfl rfl rfl ?_ | refine zh rfl rfl rfl rfl rfl rfl (by simp; omega) rfl rfl ?_ | refine yG rfl rfl rfl (by decide) (by simp; omega) (by first | exact zc (by omega) | rfl) rfl rfl rfl ?_))
   refine zX (Wy (nth l i)) (by repeat (first | exact zx.nil | refine zx.cons (by exact yI.plain rfl rfl) ?_)) rfl rfl ?_
   (repeat (first | refine zb rfl rfl rfl ?_ | refine xd rfl rfl rfl ?_))
   cases h1 : zV (nth l i) with
   | false =>
    have hw : xL l s i k = [] := by unfold xL xK; rw [h1]; rfl
    rw [hw, List.append_nil] at hBs
    (repeat (first | refine FW.region ?_ | refine FW.exit ?_ | refine FW.condT rfl ?_ | refine zd.nil ?_ | refine zb rfl rfl rfl ?_ | refine zu rfl rfl rfl rfl ?_ | refine zw rfl rfl (by omega) rfl rfl ?_ | refine zK rfl rfl ⟨_, _, rfl, rfl, rfl⟩ ?_))
    refine ⟨k + 1, by omega, by omega, ?_⟩
    rw [hBs]
    exact (FLe.cv [⟨100, some 100, 0, ⟨0, .own, 28, 3, B.map EdV.fv⟩⟩] (by repeat (first | exact .nil | refine .old rfl (by decide) rfl ?_)) (by repeat (first | exact .nil | refine .cons (.plain rfl rfl rfl) ?_ | refine .cons (.own rfl (.head _) rfl rfl) ?_)))
   | true =>
    (repeat (first | refine zb rfl rfl ⟨_, _, rfl, rfl, rfl⟩ ?_ | refine zh rfl rfl rfl rfl rfl rfl (by simp; omega) rfl ⟨_, _, rfl, rfl, rfl⟩ ?_ | refine yG rfl rfl rfl (by decide) (by simp; omega) (by first | exact zc (by omega) | rfl) rfl rfl ⟨_, _, rfl, rfl, rfl⟩ ?_))
    refine zX (Wy (nth l k)) (by repeat (first | exact zx.nil | refine zx.cons (by exact yI.plain rfl rfl) ?_)) rfl ⟨_, _, rfl, rfl, rfl⟩ ?_
    (repeat (first | refine zd.nil ?_ | refine zn rfl rfl rfl rfl ?_ | refine xd rfl rfl ⟨_, _, rfl, rfl, rfl⟩ ?_))
    cases h2 : zV (nth l k) with
    | false =>
     have hw : xL l s i k = [] := by unfold xL xK; rw [h1, h2]; rfl
     rw [hw, List.append_nil] at hBs
     (repeat (first | refine FW.region ?_ | refine FW.exit ?_ | refine FW.condT rfl ?_ | refine zd.nil ?_ | refine zb rfl rfl rfl ?_ | refine zw rfl rfl (by omega) rfl rfl ?_))
     refine ⟨k + 1, by omega, by omega, ?_⟩
     rw [hBs]
     exact (FLe.cv [⟨100, some 100, 0, ⟨0, .own, 28, 3, B.map EdV.fv⟩⟩] (by repeat (first | exact .nil | refine .old rfl (by decide) rfl ?_)) (by repeat (first | exact .nil | refine .cons (.plain rfl rfl rfl) ?_ | refine .cons (.own rfl (.head _) rfl rfl) ?_)))
    | true =>
     have hw : xL l s i k = (xY l i k m).map fun w => (i, k, w) := by unfold xL xK; rw [h1, h2, hall]; rfl
     rw [hw] at hBs
     (repeat (first | refine FW.seq ?_ | refine FW.region ?_ | refine FW.block ?_ | refine FW.skip ?_ | refine FW.condF rfl ?_ | refine zd.nil ?_ | refine zb rfl rfl rfl ?_ | refine zg rfl rfl rfl rfl rfl ?_))
     rw [hRl]
     refine FW.loop (fun j : Nat => ⟨[(0, .list 8 (l.map OpV.fv)), (5, .list 2 R), (6, .own 100 0 0 (B ++ (xY l i k j).map fun w => (i, k, w)).length), (15, .int .i64 n), (16, .int .i64 i), (7, .int .i64 i), (20, .int .i64 n), (21, .int .i64 k), (8, .int .i64 k), (38, .list 2 R), (39, .int .i64 m), (40, .int .i64 j)], [(100, ⟨0, .own, 28, 3, (B ++ (xY l i k j).map fun w => (i, k, w)).map EdV.fv⟩)]⟩) (fun j => j ≤ m) (fun j => m - j) 0 (Nat.zero_le _) ?_ ?_
     ·show FLe _ ⟨[(0, .list 8 (l.map OpV.fv)), (5, .list 2 R), (6, .own 100 0 0 (B ++ []).length), (15, .int .i64 n), (16, .int .i64 i), (7, .int .i64 i), (20, .int .i64 n), (21, .int .i64 k), (8, .int .i64 k), (38, .list 2 R), (39, .int .i64 m), (40, .int .i64 0)], [(100, ⟨0, .own, 28, 3, (B ++ []).map EdV.fv⟩)]⟩
      rw [List.append_nil]
      exact (FLe.cv [⟨100, some 100, 0, ⟨0, .own, 28, 3, B.map EdV.fv⟩⟩] (by repeat (first | exact .nil | refine .old rfl (by decide) rfl ?_)) (by repeat (first | exact .nil | refine .cons (.plain rfl rfl rfl) ?_ | refine .cons (.own rfl (.head _) rfl rfl) ?_)))
     intro j hj
     have hjl := zaF l i k j
     have hCl : (B ++ (xY l i k j).map fun w => (i, k, w)).length = B.length + (xY l i k j).length := by rw [List.length_append, List.length_map]
     have hCs : (B ++ (xY l i k (j + 1)).map fun w => (i, k, w)) = (B ++ (xY l i k j).map fun w => (i, k, w)) ++ (xU (zdt l i k j) ((j : Int) + 2)).map fun w => (i, k, w) := by rw [xY, List.map_append, List.append_assoc]
     have hlast : j = m → (B ++ (xY l i k j).map fun w => (i, k, w)) = A ++ ye l s i (k + 1) := fun e => by rw [hBs, e]
     generalize (B ++ (xY l i k j).map fun w => (i, k, w)) = C at hCl hCs hlast
     (repeat (first | refine FW.seq ?_ | refine FW.region ?_ | refine zd.nil ?_ | refine zN rfl rfl rfl rfl ?_))
     refine FW.cond rfl (fun hc => ?_) (fun hc => ?_)
     ·have hjm : j < m := by simpa using hc
      clear hc hlast
      obtain ⟨f, caps, hRj, hsp⟩ := hRn j hjm
      have hsp := hsp i k hin2 hkn2
      have hjR : j < R.length := by omega
      have hgd : R.getD j [] = [.int .i64 ((j : Int) + 2), .fn f caps] := hRj
      (repeat (first | refine FW.seq ?_ | refine FW.region ?_ | refine FW.block ?_ | refine FW.skip ?_ | refine zh rfl rfl rfl rfl rfl rfl (by omega) rfl rfl ?_))
      refine yG rfl rfl rfl (by decide) hjR hgd rfl rfl rfl ?_
      refine zds rfl rfl rfl rfl rfl rfl rfl rfl ?_
      (repeat (first | refine FW.seq ?_ | refine FW.region ?_ | refine zd.nil ?_ | refine zb rfl rfl rfl ?_ | refine zm rfl rfl rfl rfl rfl (by first | omega | (simp; done)) rfl rfl rfl rfl rfl ?_ | refine zi rfl rfl rfl rfl rfl rfl (by decide) rfl rfl ?_))
      refine XS rfl hsp (by repeat (first | exact zx.nil | refine zx.cons (by exact yI.plain rfl rfl) ?_)) rfl rfl ?_
      (repeat (first | refine zd.nil ?_))
      cases hb : zdt l i k j with
      | false =>
       rw [hb] at hCs
       rw [show (xU false ((j : Int) + 2)).map (fun w => (i, k, w)) = [] from rfl, List.append_nil] at hCs
       (repeat (first | refine FW.region ?_ | refine FW.skip ?_ | refine FW.condF rfl ?_ | refine zd.nil ?_ | refine zb rfl rfl rfl ?_ | refine zw rfl rfl (by omega) rfl rfl ?_))
       refine ⟨j + 1, by omega, by omega, ?_⟩
       rw [hCs]
       exact (FLe.cv [⟨100, some 100, 0, ⟨0, .own, 28, 3, C.map EdV.fv⟩⟩] (by repeat (first | exact .nil | refine .old rfl (by decide) rfl ?_)) (by repeat (first | exact .nil | refine .cons (.plain rfl rfl rfl) ?_ | refine .cons (.own rfl (.head _) rfl rfl) ?_)))
      | true =>
       rw [hb] at hCs
       rw [show (xU true ((j : Int) + 2)).map (fun w => (i, k, w)) = [(i, k, (j : Int) + 2)] from rfl] at hCs
       (repeat (first | refine FW.region ?_ | refine FW.condT rfl ?_ | refine zd.nil ?_ | refine za rfl rfl rfl ?_ | refine zb rfl rfl rfl ?_ | refine zm rfl rfl rfl rfl rfl (by first | omega | (simp; omega) | (simp; done)) rfl rfl rfl rfl rfl ?_ | refine zi rfl rfl rfl rfl rfl rfl (by decide) rfl rfl ?_ | refine yA rfl rfl rfl rfl ?_ | refine xn rfl rfl rfl rfl rfl rfl rfl rfl rfl rfl ?_ | refine xa rfl rfl (by first | exact (List.length_map _).symm | rfl | (simp; done) | omega | (simp; omega)) rfl rfl rfl (by decide) (by exact xi.own rfl rfl (by decide) (by first | exact List.length_map _ | exact (List.length_map _).symm | exact List.length_replicate | rfl | (simp; done) | omega | (simp; omega))) (by first | omega | (simp; omega) | (simp; done)) (by first | omega | (simp; omega) | (simp; done)) rfl rfl rfl ?_ | refine zw rfl rfl (by omega) rfl rfl ?_ | refine yO.nil ?_ | refine yO.one rfl rfl rfl rfl rfl ?_))
       refine ⟨j + 1, by omega, by omega, ?_⟩
       rw [hCs, List.map_append]
       exact (FLe.cv [⟨100, some 56, 0 + 1, ⟨0, .own, 28, 3, C.map EdV.fv ++ [(i, k, (j : Int) + 2)].map EdV.fv⟩⟩] (by repeat (first | exact .nil | refine .old rfl (by decide) (by first | rfl | (simp; done)) ?_)) (by repeat (first | exact .nil | refine .cons (.plain rfl rfl (by first | rfl | (simp; done))) ?_ | refine .cons (.own rfl (.head _) rfl (by first | rfl | (simp; done))) ?_)))
     ·obtain rfl : j = m := by simp at hc; omega
      have hl := hlast rfl
      (repeat (first | refine FW.region ?_ | refine FW.exit ?_ | refine zd.nil ?_ | refine zb rfl rfl rfl ?_ | refine zw rfl rfl (by omega) rfl rfl ?_))
      refine ⟨k + 1, by omega, by omega, ?_⟩
      rw [← hl]
      exact (FLe.cv [⟨100, some 100, 0, ⟨0, .own, 28, 3, C.map EdV.fv⟩⟩] (by repeat (first | exact .nil | refine .old rfl (by decide) rfl ?_)) (by repeat (first | exact .nil | refine .cons (.plain rfl rfl rfl) ?_ | refine .cons (.own rfl (.head _) rfl rfl) ?_)))
  ·obtain rfl : k = n := by simp at hc; omega
   have hl := hlast rfl
   (repeat (first | refine FW.region ?_ | refine FW.exit ?_ | refine zd.nil ?_ | refine zb rfl rfl rfl ?_ | refine zw rfl rfl (by omega) rfl rfl ?_))
   refine ⟨i + 1, by omega, by omega, ?_⟩
   rw [← hl]
   exact (FLe.cv [⟨100, some 100, 0, ⟨0, .own, 28, 3, B.map EdV.fv⟩⟩] (by repeat (first | exact .nil | refine .old rfl (by decide) rfl ?_)) (by repeat (first | exact .nil | refine .cons (.plain rfl rfl rfl) ?_ | refine .cons (.own rfl (.head _) rfl rfl) ?_)))
 ·obtain rfl : i = n := by simp at hc; omega
  rw [hlast rfl]
  (repeat (first | refine FW.seq ?_ | refine FW.region ?_ | refine FW.exit ?_ | refine zd.nil ?_ | refine za rfl rfl rfl ?_ | refine zb rfl rfl rfl ?_))
  exact FW.ret ⟨.inl rfl, Ul rfl rfl rfl (by simp) (by decide) rfl (EdV.flatsM _)⟩
end Go.Proofs.Ytokmanfcndelfaa
