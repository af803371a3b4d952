/-
  The contract of graph.Topo.
-/
import Derived.Test.YthjplkjpehdpfaaZL
import Derived.Test.YthjplkjpehdpfaaZFmCyc2
namespace Go.Proofs.Ythjplkjpehdpfaa
set_option linter.unusedVariables false
open Go.RowKit

def zcj (a q : Nat) : zg := ⟨a, .hrow, 51, 1, [[.ptr 5000 q 0 0]]⟩
theorem zdO {a q v v' n n' : Nat} {res : FV} {o : Nat → zg} {l l' : List Int} (hr : res.cl [5002, 5000, 5001] = true) (h2 : o 5002 = zcj a q) (h0 : o 5000 = zZ q v' n') (h1 : o 5001 = yF v' l') : Zh [(5002, zcj a q), (5000, zZ q v n), (5001, yF v l)] [] res o where
 old k hk hl := by
  simp at hk
  rcases hk with rfl | rfl | rfl
  ·rw [h2]; exact ⟨rfl, rfl, rfl⟩
  ·rw [h0]; exact ⟨rfl, rfl, rfl⟩
  ·rw [h1]; exact ⟨rfl, rfl, rfl⟩
 new k hk := by cases hk
 cl k hk := by
  simp at hk
  rcases hk with rfl | rfl | rfl
  ·rw [h2]; rfl
  ·rw [h0]; rfl
  ·rw [h1]; rfl
 res := hr
set_option maxHeartbeats 4000000 in
theorem WX (a q v : Nat) (l : List Int) (x : Int) (hl : l.length ≤ 100000) : zY Try.prog 30 [.int .i64 x, .ptr 5002 a 0 0] [(5002, zcj a q), (5000, zZ q v l.length), (5001, yF v l)] [] (fun res o => res = .tup [] ∧ o 5002 = zcj a q ∧ o 5000 = zZ q (v + 1) (l.length + 1) ∧ o 5001 = yF (v + 1) (Zz l x)) := by
 refine zY.of_body (c := (xm Try.prog zw zn 8)) ⟨Try.func30, rfl, Try.ntmps30, by kernel_rfl⟩ (by exact Nat.le_of_ble_eq_true rfl) ?_ ?_
 ·rintro res o ⟨rfl, h2, h0, h1⟩; exact zdO rfl h2 h0 h1
 change FW _ _ _ ⟨[(0, .int .i64 x), (1, .ptr 5002 a 0 0)], [(5002, zcj a q), (5000, zZ q v l.length), (5001, yF v l)]⟩
 unfold zcj
 (repeat (first | refine FW.region ?_ | refine zJ rfl rfl rfl rfl rfl rfl rfl ?_ | refine VT rfl rfl rfl (by kernel_rfl) rfl rfl ?_ | refine WM rfl rfl (by kernel_rfl) rfl rfl ?_ | refine zb rfl rfl rfl ?_))
 refine xb (zbm q v l x hl) [(5000, 5000), (5001, 5001)] rfl (zh.cons rfl rfl rfl (zh.cons rfl rfl rfl zh.nil)) rfl rfl rfl rfl rfl rfl ?_
 rintro _ ob' ⟨rfl, h1, h2⟩
 refine yd.one [(5000, zZ q (v + 1) (l.length + 1)), (5001, yF (v + 1) (Zz l x))] (.tup []) rfl (by show [(5000, zg.ren _ (look {} ob' 5000)), (5001, zg.ren _ (look {} ob' 5001))] = _; rw [h1, h2]; rfl) ?_
 clear h1 h2 ob'
 (repeat (first | refine zd.nil ?_))
 exact ⟨.inr rfl, _, .plain .nil rfl rfl, rfl, rfl, rfl, rfl⟩
def xW (n : Nat) (E : List (Nat × Nat)) (i : Nat) : List Int := ((zp n E).take i).foldl (fun m r => r.foldl VC m) (List.replicate n 0)
theorem zbp (n : Nat) (E : List (Nat × Nat)) {i : Nat} (h : i < n) : xW n E (i + 1) = (zi E i).foldl VC (xW n E i) := by
 have hl := zI n E
 unfold xW
 rw [List.take_succ_eq_append_getElem (by omega), List.foldl_append, ← nth_eq (by omega), yL E h]; rfl
theorem zcN (n : Nat) (E : List (Nat × Nat)) : xW n E n = Vr n E := by
 unfold xW Vr
 rw [List.take_of_length_le (by rw [zI]; exact Nat.le_refl _)]
theorem zbo {n : Nat} {E : List (Nat × Nat)} (h : InN n E) (i : Nat) : (xW n E i).length = n ∧ ∀ w : Nat, w < n → 0 ≤ nth (xW n E i) w ∧ nth (xW n E i) w ≤ n := by
 obtain ⟨k1, k2⟩ := WP (n := n) (rows := (zp n E).take i) (m := List.replicate n 0) (fun r hr => by
  obtain ⟨u, _, rfl⟩ := List.mem_map.1 (List.mem_of_mem_take hr)
  exact ⟨xF E u, fun w hw => zL h hw⟩) (by simp)
 refine ⟨k1, fun w hw => ?_⟩
 have h1 : (((zp n E).take i).countP fun r => decide ((w : Int) ∈ r)) ≤ ((zp n E).take i).length := List.countP_le_length
 rw [List.length_take, zI] at h1
 unfold xW
 rw [k2 w hw, nth_eq (by simpa using hw)]
 simp
 omega
set_option maxHeartbeats 4000000 in
theorem zeu (n : Nat) (E : List (Nat × Nat)) (hn : n ≤ 300) (hE : E.length ≤ 100000) (hin : InN n E) : yj Try.prog 14 [.int .i64 n, .list 2 (E.map edf)] .sh (.tup [.list 1 ((if (xk n E).length < n then [] else xk n E).map zt), .bool (!decide ((xk n E).length < n))]) := by
 refine yj.of_body (c := (xm Try.prog zw zn 104)) ⟨Try.func14, rfl, Try.ntmps14, by kernel_rfl⟩ (by simp [FV.hand]) (by exact Nat.le_of_ble_eq_true rfl) rfl ?_
 change FW _ _ _ ⟨[(0, .int .i64 n), (1, .list 2 (E.map edf))], []⟩
 have hrl := zI n E
 have hrn := fun v (hv : v < n) => yL E hv
 (repeat (first | refine FW.seq ?_ | refine FW.region ?_ | refine zd.nil ?_ | refine zc rfl rfl rfl ?_ | refine zb rfl rfl rfl ?_))
 refine yc (yu n E (by omega) (by omega) hin) (by repeat (first | exact zu.nil | refine zu.cons (by first | exact yU.plain rfl rfl) ?_)) rfl rfl ?_
 rw [YN]
 (repeat (first | refine FW.seq ?_ | refine FW.region ?_ | refine FW.block ?_ | refine zd.nil ?_ | refine zc rfl rfl rfl ?_ | refine zb rfl rfl rfl ?_ | refine WL rfl (by first | rfl | exact (Int.toNat_of_nonneg (by omega)).symm) rfl (by first | rfl | exact (Int.toNat_of_nonneg (by omega)).symm) rfl rfl rfl rfl (by first | omega | (simp; omega) | (simp; done)) (by first | omega | (simp; omega) | (simp; done)) rfl rfl rfl ?_ | refine zA rfl rfl (by first | exact List.length_map _ | exact (List.length_map _).symm | exact List.length_replicate | rfl | (simp; done) | omega | (simp; omega)) rfl rfl ?_))
 rw [show List.replicate n [FV.int .i64 0] = (List.replicate n 0).map zt by rw [List.map_replicate]; rfl]
 refine FW.loop (fun i : Nat => ⟨[(0, .int .i64 n), (6, .list 1 ((zp n E).map yK)), (7, .own 100 0 0 n), (26, .list 1 ((zp n E).map yK)), (27, .int .i64 n), (28, .int .i64 i)], [(100, ⟨0, .own, 3, 1, (xW n E i).map zt⟩)]⟩) (fun i => i ≤ n) (fun i => n - i) 0 (Nat.zero_le _) ?_ ?_
 ·rw [hrl, show xW n E 0 = List.replicate n 0 from rfl]
  obtain ⟨z, hz⟩ : ∃ z, (List.replicate n (0 : Int)).map zt = z := ⟨_, rfl⟩
  rw [hz]
  exact (FLe.cv [⟨100, some 25, 0 + 1, ⟨0, .own, 3, 1, z⟩⟩] (by repeat (first | exact .nil | refine .old rfl (by decide) (by first | rfl | (simp; done) | (congr 1; omega) | (simp; omega) | (simp [List.take_of_length_le]; done) | (refine congrArg (FV.int .i64) ?_; omega)) ?_)) (by repeat (first | exact .nil | refine .cons (.plain rfl rfl (by first | rfl | (simp; done) | (congr 1; omega) | (simp; omega) | (simp [List.take_of_length_le]; done) | (refine congrArg (FV.int .i64) ?_; omega))) ?_ | refine .cons (.own rfl (.head _) rfl (by first | rfl | (simp; done) | (congr 1; omega) | (simp; omega) | (simp [List.take_of_length_le]; done) | (refine congrArg (FV.int .i64) ?_; omega))) ?_)))
 intro i hi
 obtain ⟨hml, hmb⟩ := zbo hin i
 (repeat (first | refine FW.seq ?_ | refine FW.region ?_ | refine zd.nil ?_ | refine zP rfl rfl rfl rfl ?_))
 refine FW.cond rfl (fun h => ?_) (fun h => ?_)
 ·have hlt : i < n := by simpa using h
  clear h
  have hsl := xE E i
  have hms := zbp n E hlt
  (repeat (first | refine FW.seq ?_ | refine FW.region ?_ | refine FW.block ?_ | refine FW.skip ?_ | refine zd.nil ?_ | refine zc rfl rfl rfl ?_ | refine zb rfl rfl rfl ?_ | refine zA rfl rfl (by first | exact List.length_map _ | exact (List.length_map _).symm | exact List.length_replicate | rfl | (simp; done) | omega | (simp; omega)) rfl rfl ?_ | refine zy rfl rfl (by first | rfl | exact (Int.toNat_of_nonneg (by omega)).symm) rfl rfl rfl (by first | omega | (simp; omega) | (simp; done)) rfl rfl ?_ | refine zC rfl rfl rfl (by first | omega | (simp; omega) | (simp; done)) (by first | exact zf (by omega) | rfl) rfl rfl rfl rfl ?_))
  rw [hrn i hlt]
  skip
  generalize xW n E i = M at hml hmb hms
  refine FW.loop (fun j : Nat => ⟨[(0, .int .i64 n), (6, .list 1 ((zp n E).map yK)), (7, .own 100 0 0 n), (26, .list 1 ((zp n E).map yK)), (27, .int .i64 n), (28, .int .i64 i), (32, .list 1 ((zi E i).map zt)), (33, .int .i64 (zi E i).length), (34, .int .i64 j)], [(100, ⟨0, .own, 3, 1, (((zi E i).take j).foldl VC M).map zt⟩)]⟩) (fun j => j ≤ (zi E i).length) (fun j => (zi E i).length - j) 0 (Nat.zero_le _) ?_ ?_
  ·show FLe _ ⟨[(0, .int .i64 n), (6, .list 1 ((zp n E).map yK)), (7, .own 100 0 0 n), (26, .list 1 ((zp n E).map yK)), (27, .int .i64 n), (28, .int .i64 i), (32, .list 1 ((zi E i).map zt)), (33, .int .i64 (zi E i).length), (34, .int .i64 0)], [(100, ⟨0, .own, 3, 1, M.map zt⟩)]⟩
   exact (FLe.cv [⟨100, some 100, 0, ⟨0, .own, 3, 1, M.map zt⟩⟩] (by repeat (first | exact .nil | refine .old rfl (by decide) (by first | rfl | (simp; done) | (congr 1; omega) | (simp; omega) | (simp [List.take_of_length_le]; done) | (refine congrArg (FV.int .i64) ?_; omega)) ?_)) (by repeat (first | exact .nil | refine .cons (.plain rfl rfl (by first | rfl | (simp; done) | (congr 1; omega) | (simp; omega) | (simp [List.take_of_length_le]; done) | (refine congrArg (FV.int .i64) ?_; omega))) ?_ | refine .cons (.own rfl (.head _) rfl (by first | rfl | (simp; done) | (congr 1; omega) | (simp; omega) | (simp [List.take_of_length_le]; done) | (refine congrArg (FV.int .i64) ?_; omega))) ?_)))
  intro j hj
  (repeat (first | refine FW.seq ?_ | refine FW.region ?_ | refine zd.nil ?_ | refine zP rfl rfl rfl rfl ?_))
  refine FW.cond rfl (fun h => ?_) (fun h => ?_)
  ·have hlt2 : j < (zi E i).length := by simpa using h
   clear h
   obtain ⟨w, hw⟩ : ∃ w : Nat, nth (zi E i) j = w := ⟨(nth (zi E i) j).toNat, by have := (zL hin (zK hlt2)).1; omega⟩
   have hwn : w < n := by have := (zL hin (zK hlt2)).2; omega
   have hst : ((zi E i).take (j + 1)).foldl VC M = (((zi E i).take j).foldl VC M).set w (nth (((zi E i).take j).foldl VC M) w + 1) := by
    rw [List.take_succ_eq_append_getElem hlt2, List.foldl_append, ← nth_eq hlt2, hw]; rfl
   have hbd : 0 ≤ nth (((zi E i).take j).foldl VC M) w ∧ nth (((zi E i).take j).foldl VC M) w ≤ n + 1 := by
    rw [Wt (n := n) (List.Nodup.sublist (List.take_sublist _ _) (xF E i)) (fun q hq => zL hin (List.mem_of_mem_take hq)) hml w hwn]
    have := hmb w hwn
    split <;> omega
   have hzl : (((zi E i).take j).foldl VC M).length = n := by rw [Ws]; exact hml
   obtain ⟨Z, hZ⟩ : ∃ Z, ((zi E i).take j).foldl VC M = Z := ⟨_, rfl⟩
   rw [hZ] at hst hbd hzl ⊢
   (repeat (first | refine FW.seq ?_ | refine FW.region ?_ | refine FW.block ?_ | refine FW.skip ?_ | refine zd.nil ?_ | refine zc rfl rfl rfl ?_ | refine zb rfl rfl rfl ?_ | refine zy rfl rfl (by first | rfl | exact (Int.toNat_of_nonneg (by omega)).symm) rfl rfl rfl (by first | omega | (simp; omega) | (simp; done)) rfl rfl ?_ | refine zE rfl rfl (by first | rfl | exact (Int.toNat_of_nonneg (by omega)).symm) rfl rfl rfl (by decide) rfl (by first | omega | (simp; omega) | (simp; done)) rfl rfl ?_ | refine zC rfl rfl rfl (by first | omega | (simp; omega) | (simp; done)) (by first | exact zf (by omega) | rfl) rfl rfl rfl rfl ?_ | refine zG rfl rfl rfl rfl rfl (by first | omega | (simp; omega) | (simp; done)) (by first | exact zf (by omega) | rfl) rfl rfl rfl rfl ?_))
   rw [hw, Int.toNat_natCast]
   (repeat (first | refine FW.region ?_ | refine zd.nil ?_ | refine zb rfl rfl rfl ?_ | refine zE rfl rfl (by first | rfl | exact (Int.toNat_of_nonneg (by omega)).symm) rfl rfl rfl (by decide) rfl (by first | omega | (simp; omega) | (simp; done)) rfl rfl ?_ | refine zB rfl rfl (by omega) rfl rfl ?_ | refine xf rfl rfl rfl rfl rfl rfl (by first | omega | (simp; omega) | (simp; done)) (by first | exact zf (by omega) | rfl) rfl rfl rfl ?_))
   rw [show (zt (nth Z w)).set 0 (.int .i64 (nth Z w + 1)) = zt (nth Z w + 1) from rfl, ← List.map_set, ← hst]
   skip
   refine ⟨j + 1, by omega, by omega, ?_⟩
   obtain ⟨Y, hY⟩ : ∃ Y, (((zi E i).take (j + 1)).foldl VC M).map zt = Y := ⟨_, rfl⟩
   rw [hY]
   exact (FLe.cv [⟨100, some 100, 0, ⟨0, .own, 3, 1, Y⟩⟩] (by repeat (first | exact .nil | refine .old rfl (by decide) (by first | rfl | (simp; done) | (congr 1; omega) | (simp; omega) | (simp [List.take_of_length_le]; done) | (refine congrArg (FV.int .i64) ?_; omega)) ?_)) (by repeat (first | exact .nil | refine .cons (.plain rfl rfl (by first | rfl | (simp; done) | (congr 1; omega) | (simp; omega) | (simp [List.take_of_length_le]; done) | (refine congrArg (FV.int .i64) ?_; omega))) ?_ | refine .cons (.own rfl (.head _) rfl (by first | rfl | (simp; done) | (congr 1; omega) | (simp; omega) | (simp [List.take_of_length_le]; done) | (refine congrArg (FV.int .i64) ?_; omega))) ?_)))
  ·obtain rfl : j = (zi E i).length := by simp at h; omega
   clear h hj
   rw [List.take_length, ← hms]
   (repeat (first | refine FW.region ?_ | refine FW.exit ?_ | refine zd.nil ?_ | refine zb rfl rfl rfl ?_ | refine zB rfl rfl (by omega) rfl rfl ?_))
   refine ⟨i + 1, by omega, by omega, ?_⟩
   exact (FLe.cv [⟨100, some 100, 0, ⟨0, .own, 3, 1, (xW n E (i + 1)).map zt⟩⟩] (by repeat (first | exact .nil | refine .old rfl (by decide) (by first | rfl | (simp; done) | (congr 1; omega) | (simp; omega) | (simp [List.take_of_length_le]; done) | (refine congrArg (FV.int .i64) ?_; omega)) ?_)) (by repeat (first | exact .nil | refine .cons (.plain rfl rfl (by first | rfl | (simp; done) | (congr 1; omega) | (simp; omega) | (simp [List.take_of_length_le]; done) | (refine congrArg (FV.int .i64) ?_; omega))) ?_ | refine .cons (.own rfl (.head _) rfl (by first | rfl | (simp; done) | (congr 1; omega) | (simp; omega) | (simp [List.take_of_length_le]; done) | (refine congrArg (FV.int .i64) ?_; omega))) ?_)))
 ·obtain rfl : i = n := by simp at h; omega
  clear h hi hml hmb
  rw [zcN]
  obtain ⟨hml, hmc⟩ := VF hin
  have hcb : ∀ w, zco i E [] w ≤ i := fun w => by
   have : zco i E [] w ≤ (List.range i).length := List.countP_le_length
   rwa [List.length_range] at this
  (repeat (first | refine FW.seq ?_ | refine FW.region ?_ | refine FW.exit ?_ | refine VQ rfl rfl rfl rfl rfl rfl ?_))
  refine zf4 (f := .own 46 (0 + 1) 0 0) rfl (.inr (.inl ⟨_, _, _, _, rfl, ⟨by show zN.own ≠ .dead; decide, rfl⟩⟩)) rfl rfl rfl ?_
  refine WH rfl rfl rfl rfl rfl ?_
  (repeat (first | refine FW.seq ?_ | refine FW.region ?_ | refine FW.block ?_ | refine zd.nil ?_ | refine zc rfl rfl rfl ?_ | refine zb rfl rfl rfl ?_ | refine yl rfl rfl rfl (by decide) rfl rfl ?_ | refine zc5 rfl rfl rfl rfl rfl rfl (by decide) (by first | omega | (simp; omega) | (simp; done)) rfl ?_ | refine Xj rfl rfl rfl rfl ?_))
  obtain ⟨n, hni⟩ : ∃ n, i = n := ⟨_, rfl⟩
  subst hni
  generalize hMM : Vr i E = M at hml hmc
  obtain ⟨n, hni⟩ : ∃ n, n = i := ⟨_, rfl⟩
  subst hni
  refine FW.loop (fun k : Nat => ⟨[(0, .int .i64 n), (6, .list 1 ((zp n E).map yK)), (7, .own 100 0 0 n), (12, .ptr 110 0 0 0), (13, .wrap (.fn 30) [.ptr 110 0 0 0]), (49, .own 100 0 0 n), (50, .int .i64 n), (51, .int .i64 k)], [(100, ⟨0, .own, 3, 1, M.map zt⟩), (110, ⟨0, .hrow, 51, 1, [[.ptr 111 0 0 0]]⟩), (111, ⟨0, .hrow, 52, 1, [[.own 112 0 0 (yO M k).length]]⟩), (112, ⟨0, .own, 3, 1, (yO M k).map zt⟩)]⟩) (fun k => k ≤ n) (fun k => n - k) 0 (Nat.zero_le _) ?_ ?_
  ·show FLe _ ⟨[(0, .int .i64 n), (6, .list 1 ((zp n E).map yK)), (7, .own 100 0 0 n), (12, .ptr 110 0 0 0), (13, .wrap (.fn 30) [.ptr 110 0 0 0]), (49, .own 100 0 0 n), (50, .int .i64 n), (51, .int .i64 0)], [(100, ⟨0, .own, 3, 1, M.map zt⟩), (110, ⟨0, .hrow, 51, 1, [[.ptr 111 0 0 0]]⟩), (111, ⟨0, .hrow, 52, 1, [[.own 112 0 0 0]]⟩), (112, ⟨0, .own, 3, 1, []⟩)]⟩
   exact (FLe.cv [⟨100, some 100, 0, ⟨0, .own, 3, 1, M.map zt⟩⟩, ⟨110, some 12, 0 + 1, ⟨0, .hrow, 51, 1, [[.ptr 111 0 0 0]]⟩⟩, ⟨111, some 47, 0 + 1, ⟨0, .hrow, 52, 1, [[.own 112 0 0 0]]⟩⟩, ⟨112, some 46, 0 + 1, ⟨0, .own, 3, 1, []⟩⟩] (by repeat (first | exact .nil | refine .old rfl (by decide) (by first | rfl | (simp; done) | (congr 1; omega) | (simp; omega) | (simp [List.take_of_length_le]; done) | (refine congrArg (FV.int .i64) ?_; omega)) ?_ | refine .oldH rfl (by repeat (first | exact .nil | refine .cons (.ptr (.tail _ (.tail _ (.head _))) rfl) ?_ | refine .cons (.own (.tail _ (.tail _ (.tail _ (.head _)))) rfl (by first | rfl | (simp; done) | (congr 1; omega) | (simp; omega) | (simp [List.take_of_length_le]; done) | (refine congrArg (FV.int .i64) ?_; omega)) (by first | rfl | (simp; done) | (congr 1; omega) | (simp; omega) | (simp [List.take_of_length_le]; done) | (refine congrArg (FV.int .i64) ?_; omega))) ?_)) ?_)) (by repeat (first | exact .nil | refine .cons (.plain rfl rfl (by first | rfl | (simp; done) | (congr 1; omega) | (simp; omega) | (simp [List.take_of_length_le]; done) | (refine congrArg (FV.int .i64) ?_; omega))) ?_ | refine .cons (.own rfl (.head _) rfl (by first | rfl | (simp; done) | (congr 1; omega) | (simp; omega) | (simp [List.take_of_length_le]; done) | (refine congrArg (FV.int .i64) ?_; omega))) ?_ | refine .cons (.ptr rfl (.tail _ (.head _)) rfl) ?_ | refine .cons (.wrap rfl (by repeat (first | exact za.nil | refine za.cons (.plain rfl rfl) ?_ | refine za.cons (.ptr (.head _) rfl) ?_ | refine za.cons (.own (.head _) rfl rfl rfl) ?_ | refine za.cons (.omap (.head _) rfl) ?_ | refine za.cons (.ptr (.tail _ (.head _)) rfl) ?_ | refine za.cons (.own (.tail _ (.head _)) rfl rfl rfl) ?_ | refine za.cons (.omap (.tail _ (.head _)) rfl) ?_ | refine za.cons (.ptr (.tail _ (.tail _ (.head _))) rfl) ?_ | refine za.cons (.own (.tail _ (.tail _ (.head _))) rfl rfl rfl) ?_ | refine za.cons (.omap (.tail _ (.tail _ (.head _))) rfl) ?_ | refine za.cons (.ptr (.tail _ (.tail _ (.tail _ (.head _)))) rfl) ?_ | refine za.cons (.own (.tail _ (.tail _ (.tail _ (.head _)))) rfl rfl rfl) ?_ | refine za.cons (.omap (.tail _ (.tail _ (.tail _ (.head _)))) rfl) ?_))) ?_)))
  intro k hk
  (repeat (first | refine FW.seq ?_ | refine FW.region ?_ | refine zd.nil ?_ | refine zP rfl rfl rfl rfl ?_))
  refine FW.cond rfl (fun h => ?_) (fun h => ?_)
  ·have hlt : k < n := by simpa using h
   clear h
   have hmk := hmc k hlt
   have hck := hcb k
   have hrs : yO M (k + 1) = if nth M k = 0 then Zz (yO M k) k else yO M k := by
    unfold yO
    rw [List.range_succ, List.foldl_append]; rfl
   have hrl : (yO M k).length ≤ k := xz (Zk M k).2.1 fun x hx => (((Zk M k).2.2 x).1 hx).1
   obtain ⟨H, hH⟩ : ∃ H, yO M k = H := ⟨_, rfl⟩
   rw [hH] at hrs hrl ⊢
   (repeat (first | refine FW.seq ?_ | refine FW.region ?_ | refine FW.block ?_ | refine FW.skip ?_ | refine zd.nil ?_ | refine zc rfl rfl rfl ?_ | refine zb rfl rfl rfl ?_ | refine zE rfl rfl (by first | rfl | exact (Int.toNat_of_nonneg (by omega)).symm) rfl rfl rfl (by decide) rfl (by first | omega | (simp; omega) | (simp; done)) rfl rfl ?_ | refine zG rfl rfl rfl rfl rfl (by first | omega | (simp; omega) | (simp; done)) (by first | exact zf (by omega) | rfl) rfl rfl rfl rfl ?_ | refine Ya rfl rfl rfl rfl ?_))
   refine FW.cond rfl (fun h => ?_) (fun h => ?_)
   ·rw [if_pos (by simpa using h)] at hrs
    (repeat (first | refine FW.region ?_ | refine zb rfl rfl rfl ?_))
    refine xY rfl (WX 0 0 0 H k (by omega)) [(5002, 110), (5000, 111), (5001, 112)] rfl (zh.cons rfl rfl rfl (zh.cons rfl rfl rfl (zh.cons rfl rfl rfl zh.nil))) rfl rfl rfl rfl rfl rfl ?_
    rintro _ ob' ⟨rfl, h2, h0, h1⟩
    refine yd.one [(110, ⟨0, .hrow, 51, 1, [[.ptr 111 0 0 0]]⟩), (111, ⟨0, .hrow, 52, 1, [[.own 112 (0 + 1) 0 (H.length + 1)]]⟩), (112, ⟨0 + 1, .own, 3, 1, (Zz H k).map zt⟩)] (.tup []) rfl (by show [(110, zg.ren _ (look {} ob' 5002)), (111, zg.ren _ (look {} ob' 5000)), (112, zg.ren _ (look {} ob' 5001))] = _; rw [h2, h0, h1]; rfl) ?_
    clear h2 h0 h1 ob'
    (repeat (first | refine FW.region ?_ | refine zd.nil ?_ | refine zb rfl rfl rfl ?_ | refine zB rfl rfl (by omega) rfl rfl ?_))
    refine ⟨k + 1, by omega, by omega, ?_⟩
    rw [hrs]
    have hpl := Wr H k
    generalize Zz H k = Y at hpl
    rw [hpl]
    exact (FLe.cv [⟨100, some 100, 0, ⟨0, .own, 3, 1, M.map zt⟩⟩, ⟨110, some 110, 0, ⟨0, .hrow, 51, 1, [[.ptr 111 0 0 0]]⟩⟩, ⟨111, some 111, 0, ⟨0, .hrow, 52, 1, [[.own 112 0 0 (H.length + 1)]]⟩⟩, ⟨112, some 112, 0 + 1, ⟨0, .own, 3, 1, Y.map zt⟩⟩] (by repeat (first | exact .nil | refine .old rfl (by decide) (by first | rfl | (simp; done) | (congr 1; omega) | (simp; omega) | (simp [List.take_of_length_le]; done) | (refine congrArg (FV.int .i64) ?_; omega)) ?_ | refine .oldH rfl (by repeat (first | exact .nil | refine .cons (.ptr (.tail _ (.tail _ (.head _))) rfl) ?_ | refine .cons (.own (.tail _ (.tail _ (.tail _ (.head _)))) rfl (by first | rfl | (simp; done) | (congr 1; omega) | (simp; omega) | (simp [List.take_of_length_le]; done) | (refine congrArg (FV.int .i64) ?_; omega)) (by first | rfl | (simp; done) | (congr 1; omega) | (simp; omega) | (simp [List.take_of_length_le]; done) | (refine congrArg (FV.int .i64) ?_; omega))) ?_)) ?_)) (by repeat (first | exact .nil | refine .cons (.plain rfl rfl (by first | rfl | (simp; done) | (congr 1; omega) | (simp; omega) | (simp [List.take_of_length_le]; done) | (refine congrArg (FV.int .i64) ?_; omega))) ?_ | refine .cons (.own rfl (.head _) rfl (by first | rfl | (simp; done) | (congr 1; omega) | (simp; omega) | (simp [List.take_of_length_le]; done) | (refine congrArg (FV.int .i64) ?_; omega))) ?_ | refine .cons (.ptr rfl (.tail _ (.head _)) rfl) ?_ | refine .cons (.wrap rfl (by repeat (first | exact za.nil | refine za.cons (.plain rfl rfl) ?_ | refine za.cons (.ptr (.head _) rfl) ?_ | refine za.cons (.own (.head _) rfl rfl rfl) ?_ | refine za.cons (.omap (.head _) rfl) ?_ | refine za.cons (.ptr (.tail _ (.head _)) rfl) ?_ | refine za.cons (.own (.tail _ (.head _)) rfl rfl rfl) ?_ | refine za.cons (.omap (.tail _ (.head _)) rfl) ?_ | refine za.cons (.ptr (.tail _ (.tail _ (.head _))) rfl) ?_ | refine za.cons (.own (.tail _ (.tail _ (.head _))) rfl rfl rfl) ?_ | refine za.cons (.omap (.tail _ (.tail _ (.head _))) rfl) ?_ | refine za.cons (.ptr (.tail _ (.tail _ (.tail _ (.head _)))) rfl) ?_ | refine za.cons (.own (.tail _ (.tail _ (.tail _ (.head _)))) rfl rfl rfl) ?_ | refine za.cons (.omap (.tail _ (.tail _ (.tail _ (.head _)))) rfl) ?_))) ?_)))
   ·rw [if_neg (by simpa using h)] at hrs
    (repeat (first | refine FW.region ?_ | refine FW.skip ?_ | refine zd.nil ?_ | refine zb rfl rfl rfl ?_ | refine zB rfl rfl (by omega) rfl rfl ?_))
    refine ⟨k + 1, by omega, by omega, ?_⟩
    rw [hrs]
    exact (FLe.cv [⟨100, some 100, 0, ⟨0, .own, 3, 1, M.map zt⟩⟩, ⟨110, some 110, 0, ⟨0, .hrow, 51, 1, [[.ptr 111 0 0 0]]⟩⟩, ⟨111, some 111, 0, ⟨0, .hrow, 52, 1, [[.own 112 0 0 H.length]]⟩⟩, ⟨112, some 112, 0, ⟨0, .own, 3, 1, H.map zt⟩⟩] (by repeat (first | exact .nil | refine .old rfl (by decide) (by first | rfl | (simp; done) | (congr 1; omega) | (simp; omega) | (simp [List.take_of_length_le]; done) | (refine congrArg (FV.int .i64) ?_; omega)) ?_ | refine .oldH rfl (by repeat (first | exact .nil | refine .cons (.ptr (.tail _ (.tail _ (.head _))) rfl) ?_ | refine .cons (.own (.tail _ (.tail _ (.tail _ (.head _)))) rfl (by first | rfl | (simp; done) | (congr 1; omega) | (simp; omega) | (simp [List.take_of_length_le]; done) | (refine congrArg (FV.int .i64) ?_; omega)) (by first | rfl | (simp; done) | (congr 1; omega) | (simp; omega) | (simp [List.take_of_length_le]; done) | (refine congrArg (FV.int .i64) ?_; omega))) ?_)) ?_)) (by repeat (first | exact .nil | refine .cons (.plain rfl rfl (by first | rfl | (simp; done) | (congr 1; omega) | (simp; omega) | (simp [List.take_of_length_le]; done) | (refine congrArg (FV.int .i64) ?_; omega))) ?_ | refine .cons (.own rfl (.head _) rfl (by first | rfl | (simp; done) | (congr 1; omega) | (simp; omega) | (simp [List.take_of_length_le]; done) | (refine congrArg (FV.int .i64) ?_; omega))) ?_ | refine .cons (.ptr rfl (.tail _ (.head _)) rfl) ?_ | refine .cons (.wrap rfl (by repeat (first | exact za.nil | refine za.cons (.plain rfl rfl) ?_ | refine za.cons (.ptr (.head _) rfl) ?_ | refine za.cons (.own (.head _) rfl rfl rfl) ?_ | refine za.cons (.omap (.head _) rfl) ?_ | refine za.cons (.ptr (.tail _ (.head _)) rfl) ?_ | refine za.cons (.own (.tail _ (.head _)) rfl rfl rfl) ?_ | refine za.cons (.omap (.tail _ (.head _)) rfl) ?_ | refine za.cons (.ptr (.tail _ (.tail _ (.head _))) rfl) ?_ | refine za.cons (.own (.tail _ (.tail _ (.head _))) rfl rfl rfl) ?_ | refine za.cons (.omap (.tail _ (.tail _ (.head _))) rfl) ?_ | refine za.cons (.ptr (.tail _ (.tail _ (.tail _ (.head _)))) rfl) ?_ | refine za.cons (.own (.tail _ (.tail _ (.tail _ (.head _)))) rfl rfl rfl) ?_ | refine za.cons (.omap (.tail _ (.tail _ (.tail _ (.head _)))) rfl) ?_))) ?_)))
  ·obtain rfl : k = n := by simp at h; omega
   clear h hk
   have hTI := TI.start hin
   have hst : Ze k E = ⟨M, yO M k, []⟩ := by unfold Ze; rw [hMM]
   have hend : (yB E (k + 1) (Ze k E)).out = xk k E := rfl
   rw [hst] at hTI hend
   (repeat (first | refine FW.seq ?_ | refine FW.region ?_ | refine FW.block ?_ | refine FW.exit ?_ | refine zd.nil ?_ | refine zc rfl rfl rfl ?_ | refine zJ rfl rfl rfl rfl rfl rfl rfl ?_ | refine ze3 rfl rfl rfl rfl ?_))
   obtain ⟨n, hni⟩ : ∃ n, n = k := ⟨_, rfl⟩
   subst hni
   generalize yO M n = H at hTI hend
   clear hMM hst hcb hmc hml
   refine FW.loop (fun s : zaQ => ⟨[(0, .int .i64 n), (6, .list 1 ((zp n E).map yK)), (7, .own 100 0 0 n), (12, .ptr 110 0 0 0), (13, .wrap (.fn 30) [.ptr 110 0 0 0]), (16, .own 101 0 0 s.out.length), (17, .wrap (.bound 32) [.ptr 111 0 0 0])], [(101, ⟨0, .own, 3, 1, s.out.map zt⟩), (100, ⟨0, .own, 3, 1, s.m.map zt⟩), (110, ⟨0, .hrow, 51, 1, [[.ptr 111 0 0 0]]⟩), (111, ⟨0, .hrow, 52, 1, [[.own 112 0 0 s.h.length]]⟩), (112, ⟨0, .own, 3, 1, s.h.map zt⟩)]⟩) (fun s => TI n E s ∧ ∃ k, n < s.out.length + k ∧ (yB E k s).out = xk n E) (fun s => n - s.out.length) ⟨M, H, []⟩ ⟨hTI, n + 1, by show n < 0 + (n + 1); omega, hend⟩ ?_ ?_
   ·show FLe _ ⟨[(0, .int .i64 n), (6, .list 1 ((zp n E).map yK)), (7, .own 100 0 0 n), (12, .ptr 110 0 0 0), (13, .wrap (.fn 30) [.ptr 110 0 0 0]), (16, .own 101 0 0 0), (17, .wrap (.bound 32) [.ptr 111 0 0 0])], [(101, ⟨0, .own, 3, 1, []⟩), (100, ⟨0, .own, 3, 1, M.map zt⟩), (110, ⟨0, .hrow, 51, 1, [[.ptr 111 0 0 0]]⟩), (111, ⟨0, .hrow, 52, 1, [[.own 112 0 0 H.length]]⟩), (112, ⟨0, .own, 3, 1, H.map zt⟩)]⟩
    exact (FLe.cv [⟨101, none, 0, ⟨0, .own, 3, 1, []⟩⟩, ⟨100, some 100, 0, ⟨0, .own, 3, 1, M.map zt⟩⟩, ⟨110, some 110, 0, ⟨0, .hrow, 51, 1, [[.ptr 111 0 0 0]]⟩⟩, ⟨111, some 111, 0, ⟨0, .hrow, 52, 1, [[.own 112 0 0 H.length]]⟩⟩, ⟨112, some 112, 0, ⟨0, .own, 3, 1, H.map zt⟩⟩] (by repeat (first | exact .nil | refine .old rfl (by decide) (by first | rfl | (simp; done) | (congr 1; omega) | (simp; omega) | (simp [List.take_of_length_le]; done) | (refine congrArg (FV.int .i64) ?_; omega)) ?_ | refine .oldH rfl (by repeat (first | exact .nil | refine .cons (.ptr (.tail _ (.tail _ (.tail _ (.head _)))) rfl) ?_ | refine .cons (.own (.tail _ (.tail _ (.tail _ (.tail _ (.head _))))) rfl (by first | rfl | (simp; done) | (congr 1; omega) | (simp; omega) | (simp [List.take_of_length_le]; done) | (refine congrArg (FV.int .i64) ?_; omega)) (by first | rfl | (simp; done) | (congr 1; omega) | (simp; omega) | (simp [List.take_of_length_le]; done) | (refine congrArg (FV.int .i64) ?_; omega))) ?_)) ?_ | refine .new ?_)) (by repeat (first | exact .nil | refine .cons (.plain rfl rfl (by first | rfl | (simp; done) | (congr 1; omega) | (simp; omega) | (simp [List.take_of_length_le]; done) | (refine congrArg (FV.int .i64) ?_; omega))) ?_ | refine .cons (.nil rfl (.head _) rfl) ?_ | refine .cons (.own rfl (.tail _ (.head _)) rfl (by first | rfl | (simp; done) | (congr 1; omega) | (simp; omega) | (simp [List.take_of_length_le]; done) | (refine congrArg (FV.int .i64) ?_; omega))) ?_ | refine .cons (.ptr rfl (.tail _ (.tail _ (.head _))) rfl) ?_ | refine .cons (.wrap rfl (by repeat (first | exact za.nil | refine za.cons (.plain rfl rfl) ?_ | refine za.cons (.ptr (.head _) rfl) ?_ | refine za.cons (.own (.head _) rfl rfl rfl) ?_ | refine za.cons (.omap (.head _) rfl) ?_ | refine za.cons (.ptr (.tail _ (.head _)) rfl) ?_ | refine za.cons (.own (.tail _ (.head _)) rfl rfl rfl) ?_ | refine za.cons (.omap (.tail _ (.head _)) rfl) ?_ | refine za.cons (.ptr (.tail _ (.tail _ (.head _))) rfl) ?_ | refine za.cons (.own (.tail _ (.tail _ (.head _))) rfl rfl rfl) ?_ | refine za.cons (.omap (.tail _ (.tail _ (.head _))) rfl) ?_ | refine za.cons (.ptr (.tail _ (.tail _ (.tail _ (.head _)))) rfl) ?_ | refine za.cons (.own (.tail _ (.tail _ (.tail _ (.head _)))) rfl rfl rfl) ?_ | refine za.cons (.omap (.tail _ (.tail _ (.tail _ (.head _)))) rfl) ?_ | refine za.cons (.ptr (.tail _ (.tail _ (.tail _ (.tail _ (.head _))))) rfl) ?_ | refine za.cons (.own (.tail _ (.tail _ (.tail _ (.tail _ (.head _))))) rfl rfl rfl) ?_ | refine za.cons (.omap (.tail _ (.tail _ (.tail _ (.tail _ (.head _))))) rfl) ?_))) ?_)))
   clear hTI hend M H
   rintro ⟨m, h, out⟩ ⟨hTI, fu, hfu, hend⟩
   dsimp only at hfu hend ⊢
   have hhl : h.length ≤ n := hTI.hle
   have hml : m.length = n := hTI.len
   have hol : out.length ≤ n := hTI.le
   (repeat (first | refine FW.seq ?_ | refine FW.region ?_ | refine zb rfl rfl rfl ?_))
   refine zeb rfl (Xf 0 0 h) [(5000, 111), (5001, 112)] rfl (zh.cons rfl rfl rfl (zh.cons rfl rfl rfl zh.nil)) rfl rfl rfl rfl rfl rfl ?_
   rintro _ ob' ⟨rfl, h1, h2⟩
   refine yd.one [(111, ⟨0, .hrow, 52, 1, [[.own 112 0 0 h.length]]⟩), (112, ⟨0, .own, 3, 1, h.map zt⟩)] (.int .i64 h.length) rfl (by show [(111, zg.ren _ (look {} ob' 5000)), (112, zg.ren _ (look {} ob' 5001))] = _; rw [h1, h2]; rfl) ?_
   clear h1 h2 ob'
   (repeat (first | refine zd.nil ?_ | refine Yb rfl rfl rfl rfl ?_))
   refine FW.cond rfl (fun hc => ?_) (fun hc => ?_)
   ·obtain ⟨k, hk⟩ : ∃ k, h.length = k + 1 := ⟨h.length - 1, by simp at hc; omega⟩
    clear hc
    (repeat (first | refine FW.seq ?_ | refine FW.region ?_ | refine FW.block ?_ | refine FW.skip ?_ | refine zJ rfl rfl rfl rfl rfl rfl rfl ?_ | refine WM rfl rfl (by kernel_rfl) rfl rfl ?_))
    refine xb (zcF 0 0 h k hk (by omega)) [(5000, 111), (5001, 112)] rfl (zh.cons rfl rfl rfl (zh.cons rfl rfl rfl zh.nil)) rfl rfl rfl rfl rfl rfl ?_
    rintro _ ob' ⟨rfl, h1, h2⟩
    refine yd.one [(111, ⟨0, .hrow, 52, 1, [[.own 112 (0 + 1) 0 k]]⟩), (112, ⟨0 + 1, .own, 3, 1, ((ye h k).take k).map zt⟩)] (.iface 3 (.int .i64 (nth (ye h k) k))) rfl (by show [(111, zg.ren _ (look {} ob' 5000)), (112, zg.ren _ (look {} ob' 5001))] = _; rw [h1, h2]; rfl) ?_
    clear h1 h2 ob'
    obtain ⟨v, hv, hvn, hvo, hm0, hmin, hDI, hN, hR⟩ := hTI.first hk
    dsimp only at hv hvo hm0 hmin hDI hN hR
    rw [hv]
    have hstep : yC E ⟨m, h, out⟩ = ⟨((zi E v).foldl decr (m, (ye h k).take k)).1, ((zi E v).foldl decr (m, (ye h k).take k)).2, out ++ [(v : Int)]⟩ := by
     unfold yC
     dsimp only
     rw [show h.length - 1 = k by omega, hv]; rfl
    have hTI' := hTI.step hin (by rintro e; rw [show h = [] from e] at hk; simp at hk)
    rw [hstep] at hTI'
    have hend' : ∀ f, fu = f + 1 → (yB E f (yC E ⟨m, h, out⟩)).out = xk n E := fun f hf => by
     subst hf
     rw [← hend]
     exact (congrArg zaQ.out (show yB E (f + 1) ⟨m, h, out⟩ = yB E f (yC E ⟨m, h, out⟩) from if_neg (by rintro e; rw [show h = [] from e] at hk; simp at hk))).symm
    rw [hstep] at hend'
    have hsl := xE E v
    (repeat (first | refine FW.seq ?_ | refine FW.region ?_ | refine FW.block ?_ | refine zd.nil ?_ | refine zc rfl rfl rfl ?_ | refine zb rfl rfl rfl ?_ | refine zA rfl rfl (by first | exact List.length_map _ | exact (List.length_map _).symm | exact List.length_replicate | rfl | (simp; done) | omega | (simp; omega)) rfl rfl ?_ | refine zy rfl rfl (by first | rfl | exact (Int.toNat_of_nonneg (by omega)).symm) rfl rfl rfl (by first | omega | (simp; omega) | (simp; done)) rfl rfl ?_ | refine zC rfl rfl rfl (by first | omega | (simp; omega) | (simp; done)) (by first | exact zf (by omega) | rfl) rfl rfl rfl rfl ?_ | refine yg rfl rfl rfl rfl rfl rfl rfl rfl ?_ | refine zc6 rfl rfl rfl (by kernel_rfl) rfl rfl ?_ | refine Zm rfl rfl (by first | exact List.length_map _ | exact (List.length_map _).symm | exact List.length_replicate | rfl | (simp; done) | omega | (simp; omega)) rfl rfl rfl (by decide) (by first | exact xJ.own rfl rfl (by decide) (by first | exact List.length_map _ | exact (List.length_map _).symm | exact List.length_replicate | rfl | (simp; done) | omega | (simp; omega)) | exact xJ.list rfl | exact xJ.nil rfl | exact xJ.part rfl rfl (by decide)) (by first | omega | (simp; omega) | (simp; done)) (by first | omega | (simp; omega) | (simp; done)) rfl rfl rfl ?_))
    rw [hrn v hvn]
    obtain ⟨O, hO⟩ : ∃ O, out ++ [(v : Int)] = O := ⟨_, rfl⟩
    obtain ⟨Om, hOm⟩ : ∃ Om, out.map zt ++ [[.int .i64 v]] = Om := ⟨_, rfl⟩
    have hOO : O.map zt = Om := by rw [← hO, ← hOm, List.map_append]; rfl
    have hOl : Om.length = O.length := by rw [← hOO, List.length_map]
    have hOl2 : O.length = out.length + 1 := by rw [← hO]; simp
    rw [hO] at hDI hN hR hTI' hend'
    rw [hOm, hOl]
    have htl : ((ye h k).take k).length = k := by rw [List.length_take, Wq]; omega
    obtain ⟨H0, hH0⟩ : ∃ H0, (ye h k).take k = H0 := ⟨_, rfl⟩
    rw [hH0] at hDI htl hTI' hend' ⊢
    clear hstep hH0 hv hmin
    refine FW.loop (fun j : Nat => ⟨[(0, .int .i64 n), (6, .list 1 ((zp n E).map yK)), (7, .own 100 0 0 n), (12, .ptr 110 0 0 0), (13, .wrap (.fn 30) [.ptr 110 0 0 0]), (16, .own 101 0 0 O.length), (17, .wrap (.bound 32) [.ptr 111 0 0 0]), (78, .list 1 ((zi E v).map zt)), (79, .int .i64 (zi E v).length), (80, .int .i64 j)], [(101, ⟨0, .own, 3, 1, O.map zt⟩), (100, ⟨0, .own, 3, 1, (((zi E v).take j).foldl decr (m, H0)).1.map zt⟩), (110, ⟨0, .hrow, 51, 1, [[.ptr 111 0 0 0]]⟩), (111, ⟨0, .hrow, 52, 1, [[.own 112 0 0 (((zi E v).take j).foldl decr (m, H0)).2.length]]⟩), (112, ⟨0, .own, 3, 1, (((zi E v).take j).foldl decr (m, H0)).2.map zt⟩)]⟩) (fun j => j ≤ (zi E v).length) (fun j => (zi E v).length - j) 0 (Nat.zero_le _) ?_ ?_
    ·show FLe _ ⟨[(0, .int .i64 n), (6, .list 1 ((zp n E).map yK)), (7, .own 100 0 0 n), (12, .ptr 110 0 0 0), (13, .wrap (.fn 30) [.ptr 110 0 0 0]), (16, .own 101 0 0 O.length), (17, .wrap (.bound 32) [.ptr 111 0 0 0]), (78, .list 1 ((zi E v).map zt)), (79, .int .i64 (zi E v).length), (80, .int .i64 0)], [(101, ⟨0, .own, 3, 1, O.map zt⟩), (100, ⟨0, .own, 3, 1, m.map zt⟩), (110, ⟨0, .hrow, 51, 1, [[.ptr 111 0 0 0]]⟩), (111, ⟨0, .hrow, 52, 1, [[.own 112 0 0 H0.length]]⟩), (112, ⟨0, .own, 3, 1, H0.map zt⟩)]⟩
     rw [← hOO, htl]
     exact (FLe.cv [⟨101, some 74, 0 + 1, ⟨0, .own, 3, 1, O.map zt⟩⟩, ⟨100, some 100, 0, ⟨0, .own, 3, 1, m.map zt⟩⟩, ⟨110, some 110, 0, ⟨0, .hrow, 51, 1, [[.ptr 111 0 0 0]]⟩⟩, ⟨111, some 111, 0, ⟨0, .hrow, 52, 1, [[.own 112 0 0 k]]⟩⟩, ⟨112, some 112, 0 + 1, ⟨0, .own, 3, 1, H0.map zt⟩⟩] (by repeat (first | exact .nil | refine .old rfl (by decide) (by first | rfl | (simp; done) | (congr 1; omega) | (simp; omega) | (simp [List.take_of_length_le]; done) | (refine congrArg (FV.int .i64) ?_; omega)) ?_ | refine .oldH rfl (by repeat (first | exact .nil | refine .cons (.ptr (.tail _ (.tail _ (.tail _ (.head _)))) rfl) ?_ | refine .cons (.own (.tail _ (.tail _ (.tail _ (.tail _ (.head _))))) rfl (by first | rfl | (simp; done) | (congr 1; omega) | (simp; omega) | (simp [List.take_of_length_le]; done) | (refine congrArg (FV.int .i64) ?_; omega)) (by first | rfl | (simp; done) | (congr 1; omega) | (simp; omega) | (simp [List.take_of_length_le]; done) | (refine congrArg (FV.int .i64) ?_; omega))) ?_)) ?_)) (by repeat (first | exact .nil | refine .cons (.plain rfl rfl (by first | rfl | (simp; done) | (congr 1; omega) | (simp; omega) | (simp [List.take_of_length_le]; done) | (refine congrArg (FV.int .i64) ?_; omega))) ?_ | refine .cons (.own rfl (.head _) rfl (by first | rfl | (simp; done) | (congr 1; omega) | (simp; omega) | (simp [List.take_of_length_le]; done) | (refine congrArg (FV.int .i64) ?_; omega))) ?_ | refine .cons (.own rfl (.tail _ (.head _)) rfl (by first | rfl | (simp; done) | (congr 1; omega) | (simp; omega) | (simp [List.take_of_length_le]; done) | (refine congrArg (FV.int .i64) ?_; omega))) ?_ | refine .cons (.ptr rfl (.tail _ (.tail _ (.head _))) rfl) ?_ | refine .cons (.wrap rfl (by repeat (first | exact za.nil | refine za.cons (.plain rfl rfl) ?_ | refine za.cons (.ptr (.head _) rfl) ?_ | refine za.cons (.own (.head _) rfl rfl rfl) ?_ | refine za.cons (.omap (.head _) rfl) ?_ | refine za.cons (.ptr (.tail _ (.head _)) rfl) ?_ | refine za.cons (.own (.tail _ (.head _)) rfl rfl rfl) ?_ | refine za.cons (.omap (.tail _ (.head _)) rfl) ?_ | refine za.cons (.ptr (.tail _ (.tail _ (.head _))) rfl) ?_ | refine za.cons (.own (.tail _ (.tail _ (.head _))) rfl rfl rfl) ?_ | refine za.cons (.omap (.tail _ (.tail _ (.head _))) rfl) ?_ | refine za.cons (.ptr (.tail _ (.tail _ (.tail _ (.head _)))) rfl) ?_ | refine za.cons (.own (.tail _ (.tail _ (.tail _ (.head _)))) rfl rfl rfl) ?_ | refine za.cons (.omap (.tail _ (.tail _ (.tail _ (.head _)))) rfl) ?_ | refine za.cons (.ptr (.tail _ (.tail _ (.tail _ (.tail _ (.head _))))) rfl) ?_ | refine za.cons (.own (.tail _ (.tail _ (.tail _ (.tail _ (.head _))))) rfl rfl rfl) ?_ | refine za.cons (.omap (.tail _ (.tail _ (.tail _ (.tail _ (.head _))))) rfl) ?_))) ?_)))
    intro j hj
    have hDj := DI.fold (r1 := (zi E v).take j) (r2 := (zi E v).drop j) hR (by rw [List.take_append_drop]; exact hDI) (by rw [List.take_append_drop]; exact xF E v) (by rw [List.take_append_drop]; exact fun w hw => zL hin hw)
    have hst : ∀ hl : j < (zi E v).length, ((zi E v).take (j + 1)).foldl decr (m, H0) = decr (((zi E v).take j).foldl decr (m, H0)) (nth (zi E v) j) := fun hl => by
     rw [List.take_succ_eq_append_getElem hl, List.foldl_append, ← nth_eq hl]; rfl
    have hlast : j = (zi E v).length → (zi E v).foldl decr (m, H0) = ((zi E v).take j).foldl decr (m, H0) := fun e => by rw [e, List.take_length]
    generalize ((zi E v).take j).foldl decr (m, H0) = q at hDj hst hlast
    obtain ⟨qm, qh⟩ := q
    have hql : qm.length = n := hDj.len
    have hqh : qh.length ≤ n := xz hDj.hN fun x hx => ((hDj.hM x).1 hx).1
    dsimp only
    (repeat (first | refine FW.seq ?_ | refine FW.region ?_ | refine zd.nil ?_ | refine zP rfl rfl rfl rfl ?_))
    refine FW.cond rfl (fun hc => ?_) (fun hc => ?_)
    ·have hlt2 : j < (zi E v).length := by simpa using hc
     clear hc hlast
     have hst := hst hlt2
     obtain ⟨w, hw⟩ : ∃ w : Nat, nth (zi E v) j = w := ⟨(nth (zi E v) j).toNat, by have := (zL hin (zK hlt2)).1; omega⟩
     have hwn : w < n := by have := (zL hin (zK hlt2)).2; omega
     have hbd : 0 ≤ nth qm w ∧ nth qm w ≤ n + 1 := by
      have h1 := hDj.cnt w hwn
      have h2 : zco n E O w ≤ (List.range n).length := List.countP_le_length
      rw [List.length_range] at h2
      dsimp only at h1
      rw [h1]
      split <;> omega
     have hdec : decr (qm, qh) (w : Int) = (qm.set w (nth qm w - 1), if nth qm w - 1 = 0 then Zz qh w else qh) := by unfold decr; rw [Int.toNat_natCast]
     rw [hw, hdec] at hst
     obtain ⟨Z, hZ⟩ : ∃ Z, qm.set w (nth qm w - 1) = Z := ⟨_, rfl⟩
     have hZl : Z.length = n := by rw [← hZ]; simpa using hql
     have hZw : nth Z w = nth qm w - 1 := by rw [← hZ]; exact zx (by omega)
     rw [hZ] at hst
     (repeat (first | refine FW.seq ?_ | refine FW.region ?_ | refine FW.block ?_ | refine FW.skip ?_ | refine zd.nil ?_ | refine zc rfl rfl rfl ?_ | refine zb rfl rfl rfl ?_ | refine zy rfl rfl (by first | rfl | exact (Int.toNat_of_nonneg (by omega)).symm) rfl rfl rfl (by first | omega | (simp; omega) | (simp; done)) rfl rfl ?_ | refine zE rfl rfl (by first | rfl | exact (Int.toNat_of_nonneg (by omega)).symm) rfl rfl rfl (by decide) rfl (by first | omega | (simp; omega) | (simp; done)) rfl rfl ?_ | refine zC rfl rfl rfl (by first | omega | (simp; omega) | (simp; done)) (by first | exact zf (by omega) | rfl) rfl rfl rfl rfl ?_ | refine zG rfl rfl rfl rfl rfl (by first | omega | (simp; omega) | (simp; done)) (by first | exact zf (by omega) | rfl) rfl rfl rfl rfl ?_))
     rw [hw, Int.toNat_natCast]
     (repeat (first | refine FW.seq ?_ | refine FW.region ?_ | refine zd.nil ?_ | refine zb rfl rfl rfl ?_ | refine zE rfl rfl (by first | rfl | exact (Int.toNat_of_nonneg (by omega)).symm) rfl rfl rfl (by decide) rfl (by first | omega | (simp; omega) | (simp; done)) rfl rfl ?_ | refine xf rfl rfl rfl rfl rfl rfl (by first | omega | (simp; omega) | (simp; done)) (by first | exact zf (by omega) | rfl) rfl rfl rfl ?_ | refine Zs rfl rfl (by omega) rfl rfl ?_))
     rw [show (zt (nth qm w)).set 0 (.int .i64 (nth qm w - 1)) = zt (nth qm w - 1) from rfl, ← List.map_set, hZ]
     (repeat (first | refine zd.nil ?_ | refine zG rfl rfl rfl rfl rfl (by first | omega | (simp; omega) | (simp; done)) (by first | exact zf (by omega) | rfl) rfl rfl rfl rfl ?_ | refine Ya rfl rfl rfl rfl ?_))
     rw [hZw]
     skip
     refine FW.cond rfl (fun hc => ?_) (fun hc => ?_)
     ·rw [if_pos (by simpa using hc)] at hst
      (repeat (first | refine FW.region ?_ | refine zb rfl rfl rfl ?_))
      refine xY rfl (WX 0 0 0 qh w (by omega)) [(5002, 110), (5000, 111), (5001, 112)] rfl (zh.cons rfl rfl rfl (zh.cons rfl rfl rfl (zh.cons rfl rfl rfl zh.nil))) rfl rfl rfl rfl rfl rfl ?_
      rintro _ ob' ⟨rfl, h2, h0, h1⟩
      refine yd.one [(110, ⟨0, .hrow, 51, 1, [[.ptr 111 0 0 0]]⟩), (111, ⟨0, .hrow, 52, 1, [[.own 112 (0 + 1) 0 (qh.length + 1)]]⟩), (112, ⟨0 + 1, .own, 3, 1, (Zz qh w).map zt⟩)] (.tup []) rfl (by show [(110, zg.ren _ (look {} ob' 5002)), (111, zg.ren _ (look {} ob' 5000)), (112, zg.ren _ (look {} ob' 5001))] = _; rw [h2, h0, h1]; rfl) ?_
      clear h2 h0 h1 ob'
      (repeat (first | refine FW.region ?_ | refine zd.nil ?_ | refine zb rfl rfl rfl ?_ | refine zB rfl rfl (by omega) rfl rfl ?_))
      refine ⟨j + 1, by omega, by omega, ?_⟩
      rw [hst]
      dsimp only
      have hpl := Wr qh w
      generalize Zz qh w = Y at hpl
      rw [hpl]
      exact (FLe.cv [⟨101, some 101, 0, ⟨0, .own, 3, 1, O.map zt⟩⟩, ⟨100, some 100, 0, ⟨0, .own, 3, 1, Z.map zt⟩⟩, ⟨110, some 110, 0, ⟨0, .hrow, 51, 1, [[.ptr 111 0 0 0]]⟩⟩, ⟨111, some 111, 0, ⟨0, .hrow, 52, 1, [[.own 112 0 0 (qh.length + 1)]]⟩⟩, ⟨112, some 112, 0 + 1, ⟨0, .own, 3, 1, Y.map zt⟩⟩] (by repeat (first | exact .nil | refine .old rfl (by decide) (by first | rfl | (simp; done) | (congr 1; omega) | (simp; omega) | (simp [List.take_of_length_le]; done) | (refine congrArg (FV.int .i64) ?_; omega)) ?_ | refine .oldH rfl (by repeat (first | exact .nil | refine .cons (.ptr (.tail _ (.tail _ (.tail _ (.head _)))) rfl) ?_ | refine .cons (.own (.tail _ (.tail _ (.tail _ (.tail _ (.head _))))) rfl (by first | rfl | (simp; done) | (congr 1; omega) | (simp; omega) | (simp [List.take_of_length_le]; done) | (refine congrArg (FV.int .i64) ?_; omega)) (by first | rfl | (simp; done) | (congr 1; omega) | (simp; omega) | (simp [List.take_of_length_le]; done) | (refine congrArg (FV.int .i64) ?_; omega))) ?_)) ?_)) (by repeat (first | exact .nil | refine .cons (.plain rfl rfl (by first | rfl | (simp; done) | (congr 1; omega) | (simp; omega) | (simp [List.take_of_length_le]; done) | (refine congrArg (FV.int .i64) ?_; omega))) ?_ | refine .cons (.own rfl (.head _) rfl (by first | rfl | (simp; done) | (congr 1; omega) | (simp; omega) | (simp [List.take_of_length_le]; done) | (refine congrArg (FV.int .i64) ?_; omega))) ?_ | refine .cons (.own rfl (.tail _ (.head _)) rfl (by first | rfl | (simp; done) | (congr 1; omega) | (simp; omega) | (simp [List.take_of_length_le]; done) | (refine congrArg (FV.int .i64) ?_; omega))) ?_ | refine .cons (.ptr rfl (.tail _ (.tail _ (.head _))) rfl) ?_ | refine .cons (.wrap rfl (by repeat (first | exact za.nil | refine za.cons (.plain rfl rfl) ?_ | refine za.cons (.ptr (.head _) rfl) ?_ | refine za.cons (.own (.head _) rfl rfl rfl) ?_ | refine za.cons (.omap (.head _) rfl) ?_ | refine za.cons (.ptr (.tail _ (.head _)) rfl) ?_ | refine za.cons (.own (.tail _ (.head _)) rfl rfl rfl) ?_ | refine za.cons (.omap (.tail _ (.head _)) rfl) ?_ | refine za.cons (.ptr (.tail _ (.tail _ (.head _))) rfl) ?_ | refine za.cons (.own (.tail _ (.tail _ (.head _))) rfl rfl rfl) ?_ | refine za.cons (.omap (.tail _ (.tail _ (.head _))) rfl) ?_ | refine za.cons (.ptr (.tail _ (.tail _ (.tail _ (.head _)))) rfl) ?_ | refine za.cons (.own (.tail _ (.tail _ (.tail _ (.head _)))) rfl rfl rfl) ?_ | refine za.cons (.omap (.tail _ (.tail _ (.tail _ (.head _)))) rfl) ?_ | refine za.cons (.ptr (.tail _ (.tail _ (.tail _ (.tail _ (.head _))))) rfl) ?_ | refine za.cons (.own (.tail _ (.tail _ (.tail _ (.tail _ (.head _))))) rfl rfl rfl) ?_ | refine za.cons (.omap (.tail _ (.tail _ (.tail _ (.tail _ (.head _))))) rfl) ?_))) ?_)))
     ·rw [if_neg (by simpa using hc)] at hst
      (repeat (first | refine FW.region ?_ | refine FW.skip ?_ | refine zd.nil ?_ | refine zb rfl rfl rfl ?_ | refine zB rfl rfl (by omega) rfl rfl ?_))
      refine ⟨j + 1, by omega, by omega, ?_⟩
      rw [hst]
      dsimp only
      exact (FLe.cv [⟨101, some 101, 0, ⟨0, .own, 3, 1, O.map zt⟩⟩, ⟨100, some 100, 0, ⟨0, .own, 3, 1, Z.map zt⟩⟩, ⟨110, some 110, 0, ⟨0, .hrow, 51, 1, [[.ptr 111 0 0 0]]⟩⟩, ⟨111, some 111, 0, ⟨0, .hrow, 52, 1, [[.own 112 0 0 qh.length]]⟩⟩, ⟨112, some 112, 0, ⟨0, .own, 3, 1, qh.map zt⟩⟩] (by repeat (first | exact .nil | refine .old rfl (by decide) (by first | rfl | (simp; done) | (congr 1; omega) | (simp; omega) | (simp [List.take_of_length_le]; done) | (refine congrArg (FV.int .i64) ?_; omega)) ?_ | refine .oldH rfl (by repeat (first | exact .nil | refine .cons (.ptr (.tail _ (.tail _ (.tail _ (.head _)))) rfl) ?_ | refine .cons (.own (.tail _ (.tail _ (.tail _ (.tail _ (.head _))))) rfl (by first | rfl | (simp; done) | (congr 1; omega) | (simp; omega) | (simp [List.take_of_length_le]; done) | (refine congrArg (FV.int .i64) ?_; omega)) (by first | rfl | (simp; done) | (congr 1; omega) | (simp; omega) | (simp [List.take_of_length_le]; done) | (refine congrArg (FV.int .i64) ?_; omega))) ?_)) ?_)) (by repeat (first | exact .nil | refine .cons (.plain rfl rfl (by first | rfl | (simp; done) | (congr 1; omega) | (simp; omega) | (simp [List.take_of_length_le]; done) | (refine congrArg (FV.int .i64) ?_; omega))) ?_ | refine .cons (.own rfl (.head _) rfl (by first | rfl | (simp; done) | (congr 1; omega) | (simp; omega) | (simp [List.take_of_length_le]; done) | (refine congrArg (FV.int .i64) ?_; omega))) ?_ | refine .cons (.own rfl (.tail _ (.head _)) rfl (by first | rfl | (simp; done) | (congr 1; omega) | (simp; omega) | (simp [List.take_of_length_le]; done) | (refine congrArg (FV.int .i64) ?_; omega))) ?_ | refine .cons (.ptr rfl (.tail _ (.tail _ (.head _))) rfl) ?_ | refine .cons (.wrap rfl (by repeat (first | exact za.nil | refine za.cons (.plain rfl rfl) ?_ | refine za.cons (.ptr (.head _) rfl) ?_ | refine za.cons (.own (.head _) rfl rfl rfl) ?_ | refine za.cons (.omap (.head _) rfl) ?_ | refine za.cons (.ptr (.tail _ (.head _)) rfl) ?_ | refine za.cons (.own (.tail _ (.head _)) rfl rfl rfl) ?_ | refine za.cons (.omap (.tail _ (.head _)) rfl) ?_ | refine za.cons (.ptr (.tail _ (.tail _ (.head _))) rfl) ?_ | refine za.cons (.own (.tail _ (.tail _ (.head _))) rfl rfl rfl) ?_ | refine za.cons (.omap (.tail _ (.tail _ (.head _))) rfl) ?_ | refine za.cons (.ptr (.tail _ (.tail _ (.tail _ (.head _)))) rfl) ?_ | refine za.cons (.own (.tail _ (.tail _ (.tail _ (.head _)))) rfl rfl rfl) ?_ | refine za.cons (.omap (.tail _ (.tail _ (.tail _ (.head _)))) rfl) ?_ | refine za.cons (.ptr (.tail _ (.tail _ (.tail _ (.tail _ (.head _))))) rfl) ?_ | refine za.cons (.own (.tail _ (.tail _ (.tail _ (.tail _ (.head _))))) rfl rfl rfl) ?_ | refine za.cons (.omap (.tail _ (.tail _ (.tail _ (.tail _ (.head _))))) rfl) ?_))) ?_)))
    ·have hje : j = (zi E v).length := by simp at hc; omega
     rw [hlast hje] at hTI' hend'
     clear hc hlast hst
     (repeat (first | refine FW.exit ?_))
     refine ⟨⟨qm, qh, O⟩, ⟨hTI', fu - 1, by show n < O.length + (fu - 1); omega, hend' _ (by omega)⟩, by show n - O.length < n - out.length; have := hTI'.le; dsimp only at this; omega, ?_⟩
     exact (FLe.cv [⟨101, some 101, 0, ⟨0, .own, 3, 1, O.map zt⟩⟩, ⟨100, some 100, 0, ⟨0, .own, 3, 1, qm.map zt⟩⟩, ⟨110, some 110, 0, ⟨0, .hrow, 51, 1, [[.ptr 111 0 0 0]]⟩⟩, ⟨111, some 111, 0, ⟨0, .hrow, 52, 1, [[.own 112 0 0 qh.length]]⟩⟩, ⟨112, some 112, 0, ⟨0, .own, 3, 1, qh.map zt⟩⟩] (by repeat (first | exact .nil | refine .old rfl (by decide) (by first | rfl | (simp; done) | (congr 1; omega) | (simp; omega) | (simp [List.take_of_length_le]; done) | (refine congrArg (FV.int .i64) ?_; omega)) ?_ | refine .oldH rfl (by repeat (first | exact .nil | refine .cons (.ptr (.tail _ (.tail _ (.tail _ (.head _)))) rfl) ?_ | refine .cons (.own (.tail _ (.tail _ (.tail _ (.tail _ (.head _))))) rfl (by first | rfl | (simp; done) | (congr 1; omega) | (simp; omega) | (simp [List.take_of_length_le]; done) | (refine congrArg (FV.int .i64) ?_; omega)) (by first | rfl | (simp; done) | (congr 1; omega) | (simp; omega) | (simp [List.take_of_length_le]; done) | (refine congrArg (FV.int .i64) ?_; omega))) ?_)) ?_)) (by repeat (first | exact .nil | refine .cons (.plain rfl rfl (by first | rfl | (simp; done) | (congr 1; omega) | (simp; omega) | (simp [List.take_of_length_le]; done) | (refine congrArg (FV.int .i64) ?_; omega))) ?_ | refine .cons (.own rfl (.head _) rfl (by first | rfl | (simp; done) | (congr 1; omega) | (simp; omega) | (simp [List.take_of_length_le]; done) | (refine congrArg (FV.int .i64) ?_; omega))) ?_ | refine .cons (.own rfl (.tail _ (.head _)) rfl (by first | rfl | (simp; done) | (congr 1; omega) | (simp; omega) | (simp [List.take_of_length_le]; done) | (refine congrArg (FV.int .i64) ?_; omega))) ?_ | refine .cons (.ptr rfl (.tail _ (.tail _ (.head _))) rfl) ?_ | refine .cons (.wrap rfl (by repeat (first | exact za.nil | refine za.cons (.plain rfl rfl) ?_ | refine za.cons (.ptr (.head _) rfl) ?_ | refine za.cons (.own (.head _) rfl rfl rfl) ?_ | refine za.cons (.omap (.head _) rfl) ?_ | refine za.cons (.ptr (.tail _ (.head _)) rfl) ?_ | refine za.cons (.own (.tail _ (.head _)) rfl rfl rfl) ?_ | refine za.cons (.omap (.tail _ (.head _)) rfl) ?_ | refine za.cons (.ptr (.tail _ (.tail _ (.head _))) rfl) ?_ | refine za.cons (.own (.tail _ (.tail _ (.head _))) rfl rfl rfl) ?_ | refine za.cons (.omap (.tail _ (.tail _ (.head _))) rfl) ?_ | refine za.cons (.ptr (.tail _ (.tail _ (.tail _ (.head _)))) rfl) ?_ | refine za.cons (.own (.tail _ (.tail _ (.tail _ (.head _)))) rfl rfl rfl) ?_ | refine za.cons (.omap (.tail _ (.tail _ (.tail _ (.head _)))) rfl) ?_ | refine za.cons (.ptr (.tail _ (.tail _ (.tail _ (.tail _ (.head _))))) rfl) ?_ | refine za.cons (.own (.tail _ (.tail _ (.tail _ (.tail _ (.head _))))) rfl rfl rfl) ?_ | refine za.cons (.omap (.tail _ (.tail _ (.tail _ (.tail _ (.head _))))) rfl) ?_))) ?_)))
   ·have hh : h = [] := by
     cases h with
     | nil => rfl
     | cons x h => simp at hc
    subst hh
    clear hc
    rw [YS E fu _ rfl] at hend
    dsimp only at hend
    subst hend
    generalize xk n E = O at hol
    (repeat (first | refine FW.seq ?_ | refine FW.region ?_ | refine FW.exit ?_ | refine zd.nil ?_ | refine zb rfl rfl rfl ?_ | refine yl rfl rfl rfl (by decide) rfl rfl ?_ | refine zP rfl rfl rfl rfl ?_))
    refine FW.cond rfl (fun hc => ?_) (fun hc => ?_)
    ·have hlt : O.length < n := by simpa using hc
     rw [if_pos hlt, show decide (O.length < n) = true by simpa using hlt]
     (repeat (first | refine FW.seq ?_ | refine FW.region ?_ | refine zd.nil ?_ | refine zc rfl rfl rfl ?_))
     refine FW.le (s' := ⟨[(4, .list 1 []), (5, .bool false)], []⟩) ?_ (FLe.cv [] (by repeat (first | exact .nil)) (by repeat (first | exact .nil | refine .cons (.plain rfl rfl (by first | rfl | (simp; done) | (congr 1; omega) | (simp; omega) | (simp [List.take_of_length_le]; done) | (refine congrArg (FV.int .i64) ?_; omega))) ?_ | refine .cons (.nilList rfl) ?_)))
     exact FW.ret ⟨.inl rfl, .sh (.cons (.tmp 4 rfl rfl) (.cons (.tmp 5 rfl rfl) .nil)) rfl rfl⟩
    ·have hlt : ¬ O.length < n := by simpa using hc
     rw [if_neg hlt, show decide (O.length < n) = false by simpa using hlt]
     refine FW.skip ?_
     refine FW.le ?_ (FLe.share 16 rfl rfl (by simp))
     (repeat (first | refine FW.seq ?_ | refine FW.region ?_ | refine zd.nil ?_ | refine zc rfl rfl rfl ?_ | refine zb rfl rfl rfl ?_))
     exact FW.ret ⟨.inl rfl, .sh (.cons (.tmp 4 rfl rfl) (.cons (.tmp 5 rfl rfl) .nil)) rfl rfl⟩
end Go.Proofs.Ythjplkjpehdpfaa
