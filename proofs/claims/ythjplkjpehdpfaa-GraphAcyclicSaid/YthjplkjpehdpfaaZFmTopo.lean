/-
  The contract of graph.Topo.
-/
import Derived.Test.YthjplkjpehdpfaaZL
import Derived.Test.YthjplkjpehdpfaaZFmCyc2
namespace Go.Proofs.Ythjplkjpehdpfaa
set_option linter.unusedVariables false
open Go.RowKit

def zbL (a q : Nat) : zh := ⟨a, .hrow, 51, 1, [[.ptr 5000 q 0 0]]⟩
theorem zdc {a q v v' n n' : Nat} {res : FV} {o : Nat → zh} {l l' : List Int} (hr : res.cl [5002, 5000, 5001] = true) (h2 : o 5002 = zbL a q) (h0 : o 5000 = zV q v' n') (h1 : o 5001 = yE v' l') : Zw [(5002, zbL a q), (5000, zV q v n), (5001, yE v l)] [] res o where
 old k hk hl := by
  simp at hk
  rcases hk with rfl | rfl | rfl
  ·rw [h2]; exact ⟨rfl, rfl, rfl⟩
  ·rw [h0]; exact ⟨rfl, rfl, rfl⟩
  ·rw [h1]; exact ⟨rfl, rfl, rfl⟩
 new k hk := by cases hk
 cl k hk := by
  simp at hk
  rcases hk with rfl | rfl | rfl
  ·rw [h2]; rfl
  ·rw [h0]; rfl
  ·rw [h1]; rfl
 res := hr
set_option maxHeartbeats 4000000 in
theorem Wu (a q v : Nat) (l : List Int) (x : Int) (hl : l.length ≤ 100000) : yc Try.prog 30 [.int .i64 x, .ptr 5002 a 0 0] [(5002, zbL a q), (5000, zV q v l.length), (5001, yE v l)] [] (fun res o => res = .tup [] ∧ o 5002 = zbL a q ∧ o 5000 = zV q (v + 1) (l.length + 1) ∧ o 5001 = yE (v + 1) (Zn l x)) := by
 refine yc.of_body (c := (Zf Try.prog zC zt 8)) ⟨Try.func30, rfl, Try.ntmps30, by kernel_rfl⟩ (by exact Nat.le_of_ble_eq_true rfl) ?_ ?_
 ·rintro res o ⟨rfl, h2, h0, h1⟩; exact zdc rfl h2 h0 h1
 change FW _ _ _ ⟨[(0, .int .i64 x), (1, .ptr 5002 a 0 0)], [(5002, zbL a q), (5000, zV q v l.length), (5001, yE v l)]⟩
 unfold zbL
 (repeat (first | refine FW.region ?_ | refine zT rfl rfl rfl rfl rfl rfl rfl ?_ | refine Vg rfl rfl rfl (by kernel_rfl) rfl rfl ?_ | refine Wh rfl rfl (by kernel_rfl) rfl rfl ?_ | refine zb rfl rfl rfl ?_))
 refine yV (zaL q v l x hl) [(5000, 5000), (5001, 5001)] rfl (zi.cons rfl rfl rfl (zi.cons rfl rfl rfl zi.nil)) rfl rfl rfl rfl rfl rfl ?_
 rintro _ ob' ⟨rfl, h1, h2⟩
 refine yi.one [(5000, zV q (v + 1) (l.length + 1)), (5001, yE (v + 1) (Zn l x))] (.tup []) rfl (by show [(5000, zh.ren _ (look {} ob' 5000)), (5001, zh.ren _ (look {} ob' 5001))] = _; rw [h1, h2]; rfl) ?_
 clear h1 h2 ob'
 (repeat (first | refine zd.nil ?_))
 exact ⟨.inr rfl, _, .plain .nil rfl rfl, rfl, rfl, rfl, rfl⟩
def xM (n : Nat) (E : List (Nat × Nat)) (i : Nat) : List Int := ((zq n E).take i).foldl (fun m r => r.foldl WV m) (List.replicate n 0)
theorem zaN (n : Nat) (E : List (Nat × Nat)) {i : Nat} (h : i < n) : xM n E (i + 1) = (zg E i).foldl WV (xM n E i) := by
 have hl := zL n E
 unfold xM
 rw [List.take_succ_eq_append_getElem (by omega), List.foldl_append, ← nth_eq (by omega), yT E h]; rfl
theorem zcd (n : Nat) (E : List (Nat × Nat)) : xM n E n = WN n E := by
 unfold xM WN
 rw [List.take_of_length_le (by rw [zL]; exact Nat.le_refl _)]
theorem zaM {n : Nat} {E : List (Nat × Nat)} (h : InN n E) (i : Nat) : (xM n E i).length = n ∧ ∀ w : Nat, w < n → 0 ≤ nth (xM n E i) w ∧ nth (xM n E i) w ≤ n := by
 obtain ⟨k1, k2⟩ := Wm (n := n) (rows := (zq n E).take i) (m := List.replicate n 0) (fun r hr => by
  obtain ⟨u, _, rfl⟩ := List.mem_map.1 (List.mem_of_mem_take hr)
  exact ⟨xx E u, fun w hw => zK h hw⟩) (by simp)
 refine ⟨k1, fun w hw => ?_⟩
 have h1 : (((zq n E).take i).countP fun r => decide ((w : Int) ∈ r)) ≤ ((zq n E).take i).length := List.countP_le_length
 rw [List.length_take, zL] at h1
 unfold xM
 rw [k2 w hw, nth_eq (by simpa using hw)]
 simp
 omega
set_option maxHeartbeats 4000000 in
theorem zdR (n : Nat) (E : List (Nat × Nat)) (hn : n ≤ 300) (hE : E.length ≤ 100000) (hin : InN n E) : yq Try.prog 14 [.int .i64 n, .list 2 (E.map edf)] .sh (.tup [.list 1 ((if (yf n E).length < n then [] else yf n E).map zm), .bool (!decide ((yf n E).length < n))]) := by
 refine yq.of_body (c := (Zf Try.prog zC zt 104)) ⟨Try.func14, rfl, Try.ntmps14, by kernel_rfl⟩ (by simp [FV.hand]) (by exact Nat.le_of_ble_eq_true rfl) rfl ?_
 change FW _ _ _ ⟨[(0, .int .i64 n), (1, .list 2 (E.map edf))], []⟩
 have hrl := zL n E
 have hrn := fun v (hv : v < n) => yT E hv
 (repeat (first | refine FW.seq ?_ | refine FW.region ?_ | refine zd.nil ?_ | refine zc rfl rfl rfl ?_ | refine zb rfl rfl rfl ?_))
 refine xf (yM n E (by omega) (by omega) hin) (by repeat (first | exact zA.nil | refine zA.cons (by first | exact xz.plain rfl rfl) ?_)) rfl rfl ?_
 rw [Xk]
 (repeat (first | refine FW.seq ?_ | refine FW.region ?_ | refine FW.block ?_ | refine zd.nil ?_ | refine zc rfl rfl rfl ?_ | refine zb rfl rfl rfl ?_ | refine Wg rfl (by first | rfl | exact (Int.toNat_of_nonneg (by omega)).symm) rfl (by first | rfl | exact (Int.toNat_of_nonneg (by omega)).symm) rfl rfl rfl rfl (by first | omega | (simp; omega) | (simp; done)) (by first | omega | (simp; omega) | (simp; done)) rfl rfl rfl ?_ | refine zu rfl rfl (by first | exact List.length_map _ | exact (List.length_map _).symm | exact List.length_replicate | rfl | (simp; done) | omega | (simp; omega)) rfl rfl ?_))
 rw [show List.replicate n [FV.int .i64 0] = (List.replicate n 0).map zm by rw [List.map_replicate]; rfl]
 refine FW.loop (fun i : Nat => ⟨[(0, .int .i64 n), (6, .list 1 ((zq n E).map yW)), (7, .own 100 0 0 n), (26, .list 1 ((zq n E).map yW)), (27, .int .i64 n), (28, .int .i64 i)], [(100, ⟨0, .own, 3, 1, (xM n E i).map zm⟩)]⟩) (fun i => i ≤ n) (fun i => n - i) 0 (Nat.zero_le _) ?_ ?_
 ·rw [hrl, show xM n E 0 = List.replicate n 0 from rfl]
  obtain ⟨z, hz⟩ : ∃ z, (List.replicate n (0 : Int)).map zm = z := ⟨_, rfl⟩
  rw [hz]
  exact (FLe.conv [⟨100, some 25, 0 + 1, ⟨0, .own, 3, 1, z⟩⟩] (by simp) (by simp) rfl (by repeat (first | exact .nil | refine .low rfl ?_ | refine .same rfl ?_ | refine .bump (Nat.lt_succ_self _) ?_)) (by repeat (first | exact .nil | refine .old rfl (by decide) (by first | rfl | (simp; done) | (congr 1; omega) | (simp; omega) | (simp [List.take_of_length_le]; done) | (refine congrArg (FV.int .i64) ?_; omega)) ?_)) (by repeat (first | exact .nil | refine .cons (.plain rfl rfl (by first | rfl | (simp; done) | (congr 1; omega) | (simp; omega) | (simp [List.take_of_length_le]; done) | (refine congrArg (FV.int .i64) ?_; omega))) ?_ | refine .cons (.own rfl (.head _) rfl (by first | rfl | (simp; done) | (congr 1; omega) | (simp; omega) | (simp [List.take_of_length_le]; done) | (refine congrArg (FV.int .i64) ?_; omega))) ?_)))
 intro i hi
 obtain ⟨hml, hmb⟩ := zaM hin i
 (repeat (first | refine FW.seq ?_ | refine FW.region ?_ | refine zd.nil ?_ | refine zQ rfl rfl rfl rfl ?_))
 refine FW.cond rfl (fun h => ?_) (fun h => ?_)
 ·have hlt : i < n := by simpa using h
  clear h
  have hsl := xU E i
  have hms := zaN n E hlt
  (repeat (first | refine FW.seq ?_ | refine FW.region ?_ | refine FW.block ?_ | refine FW.skip ?_ | refine zd.nil ?_ | refine zc rfl rfl rfl ?_ | refine zb rfl rfl rfl ?_ | refine zu rfl rfl (by first | exact List.length_map _ | exact (List.length_map _).symm | exact List.length_replicate | rfl | (simp; done) | omega | (simp; omega)) rfl rfl ?_ | refine zD rfl rfl (by first | rfl | exact (Int.toNat_of_nonneg (by omega)).symm) rfl rfl rfl (by first | omega | (simp; omega) | (simp; done)) rfl rfl ?_ | refine zJ rfl rfl rfl (by first | omega | (simp; omega) | (simp; done)) (by first | exact zf (by omega) | rfl) rfl rfl rfl rfl ?_))
  rw [hrn i hlt]
  skip
  generalize xM n E i = M at hml hmb hms
  refine FW.loop (fun j : Nat => ⟨[(0, .int .i64 n), (6, .list 1 ((zq n E).map yW)), (7, .own 100 0 0 n), (26, .list 1 ((zq n E).map yW)), (27, .int .i64 n), (28, .int .i64 i), (32, .list 1 ((zg E i).map zm)), (33, .int .i64 (zg E i).length), (34, .int .i64 j)], [(100, ⟨0, .own, 3, 1, (((zg E i).take j).foldl WV M).map zm⟩)]⟩) (fun j => j ≤ (zg E i).length) (fun j => (zg E i).length - j) 0 (Nat.zero_le _) ?_ ?_
  ·show FLe _ ⟨[(0, .int .i64 n), (6, .list 1 ((zq n E).map yW)), (7, .own 100 0 0 n), (26, .list 1 ((zq n E).map yW)), (27, .int .i64 n), (28, .int .i64 i), (32, .list 1 ((zg E i).map zm)), (33, .int .i64 (zg E i).length), (34, .int .i64 0)], [(100, ⟨0, .own, 3, 1, M.map zm⟩)]⟩
   exact (FLe.conv [⟨100, some 100, 0, ⟨0, .own, 3, 1, M.map zm⟩⟩] (by simp) (by simp) rfl (by repeat (first | exact .nil | refine .low rfl ?_ | refine .same rfl ?_ | refine .bump (Nat.lt_succ_self _) ?_)) (by repeat (first | exact .nil | refine .old rfl (by decide) (by first | rfl | (simp; done) | (congr 1; omega) | (simp; omega) | (simp [List.take_of_length_le]; done) | (refine congrArg (FV.int .i64) ?_; omega)) ?_)) (by repeat (first | exact .nil | refine .cons (.plain rfl rfl (by first | rfl | (simp; done) | (congr 1; omega) | (simp; omega) | (simp [List.take_of_length_le]; done) | (refine congrArg (FV.int .i64) ?_; omega))) ?_ | refine .cons (.own rfl (.head _) rfl (by first | rfl | (simp; done) | (congr 1; omega) | (simp; omega) | (simp [List.take_of_length_le]; done) | (refine congrArg (FV.int .i64) ?_; omega))) ?_)))
  intro j hj
  (repeat (first | refine FW.seq ?_ | refine FW.region ?_ | refine zd.nil ?_ | refine zQ rfl rfl rfl rfl ?_))
  refine FW.cond rfl (fun h => ?_) (fun h => ?_)
  ·have hlt2 : j < (zg E i).length := by simpa using h
   clear h
   obtain ⟨w, hw⟩ : ∃ w : Nat, nth (zg E i) j = w := ⟨(nth (zg E i) j).toNat, by have := (zK hin (zF hlt2)).1; omega⟩
   have hwn : w < n := by have := (zK hin (zF hlt2)).2; omega
   have hst : ((zg E i).take (j + 1)).foldl WV M = (((zg E i).take j).foldl WV M).set w (nth (((zg E i).take j).foldl WV M) w + 1) := by
    rw [List.take_succ_eq_append_getElem hlt2, List.foldl_append, ← nth_eq hlt2, hw]; rfl
   have hbd : 0 ≤ nth (((zg E i).take j).foldl WV M) w ∧ nth (((zg E i).take j).foldl WV M) w ≤ n + 1 := by
    rw [XO (n := n) (List.Nodup.sublist (List.take_sublist _ _) (xx E i)) (fun q hq => zK hin (List.mem_of_mem_take hq)) hml w hwn]
    have := hmb w hwn
    split <;> omega
   have hzl : (((zg E i).take j).foldl WV M).length = n := by rw [XN]; exact hml
   obtain ⟨Z, hZ⟩ : ∃ Z, ((zg E i).take j).foldl WV M = Z := ⟨_, rfl⟩
   rw [hZ] at hst hbd hzl ⊢
   (repeat (first | refine FW.seq ?_ | refine FW.region ?_ | refine FW.block ?_ | refine FW.skip ?_ | refine zd.nil ?_ | refine zc rfl rfl rfl ?_ | refine zb rfl rfl rfl ?_ | refine zD rfl rfl (by first | rfl | exact (Int.toNat_of_nonneg (by omega)).symm) rfl rfl rfl (by first | omega | (simp; omega) | (simp; done)) rfl rfl ?_ | refine zI rfl rfl (by first | rfl | exact (Int.toNat_of_nonneg (by omega)).symm) rfl rfl rfl (by decide) rfl (by first | omega | (simp; omega) | (simp; done)) rfl rfl ?_ | refine zJ rfl rfl rfl (by first | omega | (simp; omega) | (simp; done)) (by first | exact zf (by omega) | rfl) rfl rfl rfl rfl ?_ | refine zY rfl rfl rfl rfl rfl (by first | omega | (simp; omega) | (simp; done)) (by first | exact zf (by omega) | rfl) rfl rfl rfl rfl ?_))
   rw [hw, Int.toNat_natCast]
   (repeat (first | refine FW.region ?_ | refine zd.nil ?_ | refine zb rfl rfl rfl ?_ | refine zI rfl rfl (by first | rfl | exact (Int.toNat_of_nonneg (by omega)).symm) rfl rfl rfl (by decide) rfl (by first | omega | (simp; omega) | (simp; done)) rfl rfl ?_ | refine zB rfl rfl (by omega) rfl rfl ?_ | refine yZ rfl rfl rfl rfl rfl rfl (by first | omega | (simp; omega) | (simp; done)) (by first | exact zf (by omega) | rfl) rfl rfl rfl ?_))
   rw [show (zm (nth Z w)).set 0 (.int .i64 (nth Z w + 1)) = zm (nth Z w + 1) from rfl, ← List.map_set, ← hst]
   skip
   refine ⟨j + 1, by omega, by omega, ?_⟩
   obtain ⟨Y, hY⟩ : ∃ Y, (((zg E i).take (j + 1)).foldl WV M).map zm = Y := ⟨_, rfl⟩
   rw [hY]
   exact (FLe.conv [⟨100, some 100, 0, ⟨0, .own, 3, 1, Y⟩⟩] (by simp) (by simp) rfl (by repeat (first | exact .nil | refine .low rfl ?_ | refine .same rfl ?_ | refine .bump (Nat.lt_succ_self _) ?_)) (by repeat (first | exact .nil | refine .old rfl (by decide) (by first | rfl | (simp; done) | (congr 1; omega) | (simp; omega) | (simp [List.take_of_length_le]; done) | (refine congrArg (FV.int .i64) ?_; omega)) ?_)) (by repeat (first | exact .nil | refine .cons (.plain rfl rfl (by first | rfl | (simp; done) | (congr 1; omega) | (simp; omega) | (simp [List.take_of_length_le]; done) | (refine congrArg (FV.int .i64) ?_; omega))) ?_ | refine .cons (.own rfl (.head _) rfl (by first | rfl | (simp; done) | (congr 1; omega) | (simp; omega) | (simp [List.take_of_length_le]; done) | (refine congrArg (FV.int .i64) ?_; omega))) ?_)))
  ·obtain rfl : j = (zg E i).length := by simp at h; omega
   clear h hj
   rw [List.take_length, ← hms]
   (repeat (first | refine FW.region ?_ | refine FW.exit ?_ | refine zd.nil ?_ | refine zb rfl rfl rfl ?_ | refine zB rfl rfl (by omega) rfl rfl ?_))
   refine ⟨i + 1, by omega, by omega, ?_⟩
   exact (FLe.conv [⟨100, some 100, 0, ⟨0, .own, 3, 1, (xM n E (i + 1)).map zm⟩⟩] (by simp) (by simp) rfl (by repeat (first | exact .nil | refine .low rfl ?_ | refine .same rfl ?_ | refine .bump (Nat.lt_succ_self _) ?_)) (by repeat (first | exact .nil | refine .old rfl (by decide) (by first | rfl | (simp; done) | (congr 1; omega) | (simp; omega) | (simp [List.take_of_length_le]; done) | (refine congrArg (FV.int .i64) ?_; omega)) ?_)) (by repeat (first | exact .nil | refine .cons (.plain rfl rfl (by first | rfl | (simp; done) | (congr 1; omega) | (simp; omega) | (simp [List.take_of_length_le]; done) | (refine congrArg (FV.int .i64) ?_; omega))) ?_ | refine .cons (.own rfl (.head _) rfl (by first | rfl | (simp; done) | (congr 1; omega) | (simp; omega) | (simp [List.take_of_length_le]; done) | (refine congrArg (FV.int .i64) ?_; omega))) ?_)))
 ·obtain rfl : i = n := by simp at h; omega
  clear h hi hml hmb
  rw [zcd]
  obtain ⟨hml, hmc⟩ := WZ hin
  have hcb : ∀ w, zal i E [] w ≤ i := fun w => by
   have : zal i E [] w ≤ (List.range i).length := List.countP_le_length
   rwa [List.length_range] at this
  (repeat (first | refine FW.seq ?_ | refine FW.region ?_ | refine FW.exit ?_ | refine Ve rfl rfl rfl rfl rfl rfl ?_))
  refine zfe (f := .own 46 (0 + 1) 0 0) rfl (.inr (.inl ⟨_, _, _, _, rfl, ⟨by show zP.own ≠ .dead; decide, rfl⟩⟩)) rfl rfl rfl ?_
  refine UZ rfl rfl rfl rfl rfl ?_
  (repeat (first | refine FW.seq ?_ | refine FW.region ?_ | refine FW.block ?_ | refine zd.nil ?_ | refine zc rfl rfl rfl ?_ | refine zb rfl rfl rfl ?_ | refine yn rfl rfl rfl (by decide) rfl rfl ?_ | refine zcr rfl rfl rfl rfl rfl rfl (by decide) (by first | omega | (simp; omega) | (simp; done)) rfl ?_ | refine Vf rfl rfl rfl rfl ?_))
  obtain ⟨n, hni⟩ : ∃ n, i = n := ⟨_, rfl⟩
  subst hni
  generalize hMM : WN i E = M at hml hmc
  obtain ⟨n, hni⟩ : ∃ n, n = i := ⟨_, rfl⟩
  subst hni
  refine FW.loop (fun k : Nat => ⟨[(0, .int .i64 n), (6, .list 1 ((zq n E).map yW)), (7, .own 100 0 0 n), (12, .ptr 110 0 0 0), (13, .wrap (.fn 30) [.ptr 110 0 0 0]), (49, .own 100 0 0 n), (50, .int .i64 n), (51, .int .i64 k)], [(100, ⟨0, .own, 3, 1, M.map zm⟩), (110, ⟨0, .hrow, 51, 1, [[.ptr 111 0 0 0]]⟩), (111, ⟨0, .hrow, 52, 1, [[.own 112 0 0 (yK M k).length]]⟩), (112, ⟨0, .own, 3, 1, (yK M k).map zm⟩)]⟩) (fun k => k ≤ n) (fun k => n - k) 0 (Nat.zero_le _) ?_ ?_
  ·show FLe _ ⟨[(0, .int .i64 n), (6, .list 1 ((zq n E).map yW)), (7, .own 100 0 0 n), (12, .ptr 110 0 0 0), (13, .wrap (.fn 30) [.ptr 110 0 0 0]), (49, .own 100 0 0 n), (50, .int .i64 n), (51, .int .i64 0)], [(100, ⟨0, .own, 3, 1, M.map zm⟩), (110, ⟨0, .hrow, 51, 1, [[.ptr 111 0 0 0]]⟩), (111, ⟨0, .hrow, 52, 1, [[.own 112 0 0 0]]⟩), (112, ⟨0, .own, 3, 1, []⟩)]⟩
   exact (FLe.conv [⟨100, some 100, 0, ⟨0, .own, 3, 1, M.map zm⟩⟩, ⟨110, some 12, 0 + 1, ⟨0, .hrow, 51, 1, [[.ptr 111 0 0 0]]⟩⟩, ⟨111, some 47, 0 + 1, ⟨0, .hrow, 52, 1, [[.own 112 0 0 0]]⟩⟩, ⟨112, some 46, 0 + 1, ⟨0, .own, 3, 1, []⟩⟩] (by simp) (by simp) rfl (by repeat (first | exact .nil | refine .low rfl ?_ | refine .same rfl ?_ | refine .bump (Nat.lt_succ_self _) ?_)) (by repeat (first | exact .nil | refine .old rfl (by decide) (by first | rfl | (simp; done) | (congr 1; omega) | (simp; omega) | (simp [List.take_of_length_le]; done) | (refine congrArg (FV.int .i64) ?_; omega)) ?_ | refine .oldH rfl (by repeat (first | exact .nil | refine .cons (.ptr (.tail _ (.tail _ (.head _))) rfl) ?_ | refine .cons (.own (.tail _ (.tail _ (.tail _ (.head _)))) rfl (by first | rfl | (simp; done) | (congr 1; omega) | (simp; omega) | (simp [List.take_of_length_le]; done) | (refine congrArg (FV.int .i64) ?_; omega)) (by first | rfl | (simp; done) | (congr 1; omega) | (simp; omega) | (simp [List.take_of_length_le]; done) | (refine congrArg (FV.int .i64) ?_; omega))) ?_)) ?_)) (by repeat (first | exact .nil | refine .cons (.plain rfl rfl (by first | rfl | (simp; done) | (congr 1; omega) | (simp; omega) | (simp [List.take_of_length_le]; done) | (refine congrArg (FV.int .i64) ?_; omega))) ?_ | refine .cons (.own rfl (.head _) rfl (by first | rfl | (simp; done) | (congr 1; omega) | (simp; omega) | (simp [List.take_of_length_le]; done) | (refine congrArg (FV.int .i64) ?_; omega))) ?_ | refine .cons (.ptr rfl (.tail _ (.head _)) rfl) ?_ | refine .cons (.wrap rfl (by repeat (first | exact za.nil | refine za.cons (.plain rfl rfl) ?_ | refine za.cons (.ptr (.head _) rfl) ?_ | refine za.cons (.own (.head _) rfl rfl rfl) ?_ | refine za.cons (.omap (.head _) rfl) ?_ | refine za.cons (.ptr (.tail _ (.head _)) rfl) ?_ | refine za.cons (.own (.tail _ (.head _)) rfl rfl rfl) ?_ | refine za.cons (.omap (.tail _ (.head _)) rfl) ?_ | refine za.cons (.ptr (.tail _ (.tail _ (.head _))) rfl) ?_ | refine za.cons (.own (.tail _ (.tail _ (.head _))) rfl rfl rfl) ?_ | refine za.cons (.omap (.tail _ (.tail _ (.head _))) rfl) ?_ | refine za.cons (.ptr (.tail _ (.tail _ (.tail _ (.head _)))) rfl) ?_ | refine za.cons (.own (.tail _ (.tail _ (.tail _ (.head _)))) rfl rfl rfl) ?_ | refine za.cons (.omap (.tail _ (.tail _ (.tail _ (.head _)))) rfl) ?_))) ?_)))
  intro k hk
  (repeat (first | refine FW.seq ?_ | refine FW.region ?_ | refine zd.nil ?_ | refine zQ rfl rfl rfl rfl ?_))
  refine FW.cond rfl (fun h => ?_) (fun h => ?_)
  ·have hlt : k < n := by simpa using h
   clear h
   have hmk := hmc k hlt
   have hck := hcb k
   have hrs : yK M (k + 1) = if nth M k = 0 then Zn (yK M k) k else yK M k := by
    unfold yK
    rw [List.range_succ, List.foldl_append]; rfl
   have hrl : (yK M k).length ≤ k := xr (Zc M k).2.1 fun x hx => (((Zc M k).2.2 x).1 hx).1
   obtain ⟨H, hH⟩ : ∃ H, yK M k = H := ⟨_, rfl⟩
   rw [hH] at hrs hrl ⊢
   (repeat (first | refine FW.seq ?_ | refine FW.region ?_ | refine FW.block ?_ | refine FW.skip ?_ | refine zd.nil ?_ | refine zc rfl rfl rfl ?_ | refine zb rfl rfl rfl ?_ | refine zI rfl rfl (by first | rfl | exact (Int.toNat_of_nonneg (by omega)).symm) rfl rfl rfl (by decide) rfl (by first | omega | (simp; omega) | (simp; done)) rfl rfl ?_ | refine zY rfl rfl rfl rfl rfl (by first | omega | (simp; omega) | (simp; done)) (by first | exact zf (by omega) | rfl) rfl rfl rfl rfl ?_ | refine xO rfl rfl rfl rfl ?_))
   refine FW.cond rfl (fun h => ?_) (fun h => ?_)
   ·rw [if_pos (by simpa using h)] at hrs
    (repeat (first | refine FW.region ?_ | refine zb rfl rfl rfl ?_))
    refine Yu rfl (Wu 0 0 0 H k (by omega)) [(5002, 110), (5000, 111), (5001, 112)] rfl (zi.cons rfl rfl rfl (zi.cons rfl rfl rfl (zi.cons rfl rfl rfl zi.nil))) rfl rfl rfl rfl rfl rfl ?_
    rintro _ ob' ⟨rfl, h2, h0, h1⟩
    refine yi.one [(110, ⟨0, .hrow, 51, 1, [[.ptr 111 0 0 0]]⟩), (111, ⟨0, .hrow, 52, 1, [[.own 112 (0 + 1) 0 (H.length + 1)]]⟩), (112, ⟨0 + 1, .own, 3, 1, (Zn H k).map zm⟩)] (.tup []) rfl (by show [(110, zh.ren _ (look {} ob' 5002)), (111, zh.ren _ (look {} ob' 5000)), (112, zh.ren _ (look {} ob' 5001))] = _; rw [h2, h0, h1]; rfl) ?_
    clear h2 h0 h1 ob'
    (repeat (first | refine FW.region ?_ | refine zd.nil ?_ | refine zb rfl rfl rfl ?_ | refine zB rfl rfl (by omega) rfl rfl ?_))
    refine ⟨k + 1, by omega, by omega, ?_⟩
    rw [hrs]
    have hpl := XM H k
    generalize Zn H k = Y at hpl
    rw [hpl]
    exact (FLe.conv [⟨100, some 100, 0, ⟨0, .own, 3, 1, M.map zm⟩⟩, ⟨110, some 110, 0, ⟨0, .hrow, 51, 1, [[.ptr 111 0 0 0]]⟩⟩, ⟨111, some 111, 0, ⟨0, .hrow, 52, 1, [[.own 112 0 0 (H.length + 1)]]⟩⟩, ⟨112, some 112, 0 + 1, ⟨0, .own, 3, 1, Y.map zm⟩⟩] (by simp) (by simp) rfl (by repeat (first | exact .nil | refine .low rfl ?_ | refine .same rfl ?_ | refine .bump (Nat.lt_succ_self _) ?_)) (by repeat (first | exact .nil | refine .old rfl (by decide) (by first | rfl | (simp; done) | (congr 1; omega) | (simp; omega) | (simp [List.take_of_length_le]; done) | (refine congrArg (FV.int .i64) ?_; omega)) ?_ | refine .oldH rfl (by repeat (first | exact .nil | refine .cons (.ptr (.tail _ (.tail _ (.head _))) rfl) ?_ | refine .cons (.own (.tail _ (.tail _ (.tail _ (.head _)))) rfl (by first | rfl | (simp; done) | (congr 1; omega) | (simp; omega) | (simp [List.take_of_length_le]; done) | (refine congrArg (FV.int .i64) ?_; omega)) (by first | rfl | (simp; done) | (congr 1; omega) | (simp; omega) | (simp [List.take_of_length_le]; done) | (refine congrArg (FV.int .i64) ?_; omega))) ?_)) ?_)) (by repeat (first | exact .nil | refine .cons (.plain rfl rfl (by first | rfl | (simp; done) | (congr 1; omega) | (simp; omega) | (simp [List.take_of_length_le]; done) | (refine congrArg (FV.int .i64) ?_; omega))) ?_ | refine .cons (.own rfl (.head _) rfl (by first | rfl | (simp; done) | (congr 1; omega) | (simp; omega) | (simp [List.take_of_length_le]; done) | (refine congrArg (FV.int .i64) ?_; omega))) ?_ | refine .cons (.ptr rfl (.tail _ (.head _)) rfl) ?_ | refine .cons (.wrap rfl (by repeat (first | exact za.nil | refine za.cons (.plain rfl rfl) ?_ | refine za.cons (.ptr (.head _) rfl) ?_ | refine za.cons (.own (.head _) rfl rfl rfl) ?_ | refine za.cons (.omap (.head _) rfl) ?_ | refine za.cons (.ptr (.tail _ (.head _)) rfl) ?_ | refine za.cons (.own (.tail _ (.head _)) rfl rfl rfl) ?_ | refine za.cons (.omap (.tail _ (.head _)) rfl) ?_ | refine za.cons (.ptr (.tail _ (.tail _ (.head _))) rfl) ?_ | refine za.cons (.own (.tail _ (.tail _ (.head _))) rfl rfl rfl) ?_ | refine za.cons (.omap (.tail _ (.tail _ (.head _))) rfl) ?_ | refine za.cons (.ptr (.tail _ (.tail _ (.tail _ (.head _)))) rfl) ?_ | refine za.cons (.own (.tail _ (.tail _ (.tail _ (.head _)))) rfl rfl rfl) ?_ | refine za.cons (.omap (.tail _ (.tail _ (.tail _ (.head _)))) rfl) ?_))) ?_)))
   ·rw [if_neg (by simpa using h)] at hrs
    (repeat (first | refine FW.region ?_ | refine FW.skip ?_ | refine zd.nil ?_ | refine zb rfl rfl rfl ?_ | refine zB rfl rfl (by omega) rfl rfl ?_))
    refine ⟨k + 1, by omega, by omega, ?_⟩
    rw [hrs]
    exact (FLe.conv [⟨100, some 100, 0, ⟨0, .own, 3, 1, M.map zm⟩⟩, ⟨110, some 110, 0, ⟨0, .hrow, 51, 1, [[.ptr 111 0 0 0]]⟩⟩, ⟨111, some 111, 0, ⟨0, .hrow, 52, 1, [[.own 112 0 0 H.length]]⟩⟩, ⟨112, some 112, 0, ⟨0, .own, 3, 1, H.map zm⟩⟩] (by simp) (by simp) rfl (by repeat (first | exact .nil | refine .low rfl ?_ | refine .same rfl ?_ | refine .bump (Nat.lt_succ_self _) ?_)) (by repeat (first | exact .nil | refine .old rfl (by decide) (by first | rfl | (simp; done) | (congr 1; omega) | (simp; omega) | (simp [List.take_of_length_le]; done) | (refine congrArg (FV.int .i64) ?_; omega)) ?_ | refine .oldH rfl (by repeat (first | exact .nil | refine .cons (.ptr (.tail _ (.tail _ (.head _))) rfl) ?_ | refine .cons (.own (.tail _ (.tail _ (.tail _ (.head _)))) rfl (by first | rfl | (simp; done) | (congr 1; omega) | (simp; omega) | (simp [List.take_of_length_le]; done) | (refine congrArg (FV.int .i64) ?_; omega)) (by first | rfl | (simp; done) | (congr 1; omega) | (simp; omega) | (simp [List.take_of_length_le]; done) | (refine congrArg (FV.int .i64) ?_; omega))) ?_)) ?_)) (by repeat (first | exact .nil | refine .cons (.plain rfl rfl (by first | rfl | (simp; done) | (congr 1; omega) | (simp; omega) | (simp [List.take_of_length_le]; done) | (refine congrArg (FV.int .i64) ?_; omega))) ?_ | refine .cons (.own rfl (.head _) rfl (by first | rfl | (simp; done) | (congr 1; omega) | (simp; omega) | (simp [List.take_of_length_le]; done) | (refine congrArg (FV.int .i64) ?_; omega))) ?_ | refine .cons (.ptr rfl (.tail _ (.head _)) rfl) ?_ | refine .cons (.wrap rfl (by repeat (first | exact za.nil | refine za.cons (.plain rfl rfl) ?_ | refine za.cons (.ptr (.head _) rfl) ?_ | refine za.cons (.own (.head _) rfl rfl rfl) ?_ | refine za.cons (.omap (.head _) rfl) ?_ | refine za.cons (.ptr (.tail _ (.head _)) rfl) ?_ | refine za.cons (.own (.tail _ (.head _)) rfl rfl rfl) ?_ | refine za.cons (.omap (.tail _ (.head _)) rfl) ?_ | refine za.cons (.ptr (.tail _ (.tail _ (.head _))) rfl) ?_ | refine za.cons (.own (.tail _ (.tail _ (.head _))) rfl rfl rfl) ?_ | refine za.cons (.omap (.tail _ (.tail _ (.head _))) rfl) ?_ | refine za.cons (.ptr (.tail _ (.tail _ (.tail _ (.head _)))) rfl) ?_ | refine za.cons (.own (.tail _ (.tail _ (.tail _ (.head _)))) rfl rfl rfl) ?_ | refine za.cons (.omap (.tail _ (.tail _ (.tail _ (.head _)))) rfl) ?_))) ?_)))
  ·obtain rfl : k = n := by simp at h; omega
   clear h hk
   have hTI := TI.start hin
   have hst : zR k E = ⟨M, yK M k, []⟩ := by unfold zR; rw [hMM]
   have hend : (zH E (k + 1) (zR k E)).out = yf k E := rfl
   rw [hst] at hTI hend
   (repeat (first | refine FW.seq ?_ | refine FW.region ?_ | refine FW.block ?_ | refine FW.exit ?_ | refine zd.nil ?_ | refine zc rfl rfl rfl ?_ | refine zT rfl rfl rfl rfl rfl rfl rfl ?_ | refine zep rfl rfl rfl rfl ?_))
   obtain ⟨n, hni⟩ : ∃ n, n = k := ⟨_, rfl⟩
   subst hni
   generalize yK M n = H at hTI hend
   clear hMM hst hcb hmc hml
   refine FW.loop (fun s : VZ => ⟨[(0, .int .i64 n), (6, .list 1 ((zq n E).map yW)), (7, .own 100 0 0 n), (12, .ptr 110 0 0 0), (13, .wrap (.fn 30) [.ptr 110 0 0 0]), (16, .own 101 0 0 s.out.length), (17, .wrap (.bound 32) [.ptr 111 0 0 0])], [(101, ⟨0, .own, 3, 1, s.out.map zm⟩), (100, ⟨0, .own, 3, 1, s.m.map zm⟩), (110, ⟨0, .hrow, 51, 1, [[.ptr 111 0 0 0]]⟩), (111, ⟨0, .hrow, 52, 1, [[.own 112 0 0 s.h.length]]⟩), (112, ⟨0, .own, 3, 1, s.h.map zm⟩)]⟩) (fun s => TI n E s ∧ ∃ k, n < s.out.length + k ∧ (zH E k s).out = yf n E) (fun s => n - s.out.length) ⟨M, H, []⟩ ⟨hTI, n + 1, by show n < 0 + (n + 1); omega, hend⟩ ?_ ?_
   ·show FLe _ ⟨[(0, .int .i64 n), (6, .list 1 ((zq n E).map yW)), (7, .own 100 0 0 n), (12, .ptr 110 0 0 0), (13, .wrap (.fn 30) [.ptr 110 0 0 0]), (16, .own 101 0 0 0), (17, .wrap (.bound 32) [.ptr 111 0 0 0])], [(101, ⟨0, .own, 3, 1, []⟩), (100, ⟨0, .own, 3, 1, M.map zm⟩), (110, ⟨0, .hrow, 51, 1, [[.ptr 111 0 0 0]]⟩), (111, ⟨0, .hrow, 52, 1, [[.own 112 0 0 H.length]]⟩), (112, ⟨0, .own, 3, 1, H.map zm⟩)]⟩
    exact (FLe.conv [⟨101, none, 0, ⟨0, .own, 3, 1, []⟩⟩, ⟨100, some 100, 0, ⟨0, .own, 3, 1, M.map zm⟩⟩, ⟨110, some 110, 0, ⟨0, .hrow, 51, 1, [[.ptr 111 0 0 0]]⟩⟩, ⟨111, some 111, 0, ⟨0, .hrow, 52, 1, [[.own 112 0 0 H.length]]⟩⟩, ⟨112, some 112, 0, ⟨0, .own, 3, 1, H.map zm⟩⟩] (by simp) (by simp) rfl (by repeat (first | exact .nil | refine .low rfl ?_ | refine .same rfl ?_ | refine .bump (Nat.lt_succ_self _) ?_)) (by repeat (first | exact .nil | refine .old rfl (by decide) (by first | rfl | (simp; done) | (congr 1; omega) | (simp; omega) | (simp [List.take_of_length_le]; done) | (refine congrArg (FV.int .i64) ?_; omega)) ?_ | refine .oldH rfl (by repeat (first | exact .nil | refine .cons (.ptr (.tail _ (.tail _ (.tail _ (.head _)))) rfl) ?_ | refine .cons (.own (.tail _ (.tail _ (.tail _ (.tail _ (.head _))))) rfl (by first | rfl | (simp; done) | (congr 1; omega) | (simp; omega) | (simp [List.take_of_length_le]; done) | (refine congrArg (FV.int .i64) ?_; omega)) (by first | rfl | (simp; done) | (congr 1; omega) | (simp; omega) | (simp [List.take_of_length_le]; done) | (refine congrArg (FV.int .i64) ?_; omega))) ?_)) ?_ | refine .new ?_)) (by repeat (first | exact .nil | refine .cons (.plain rfl rfl (by first | rfl | (simp; done) | (congr 1; omega) | (simp; omega) | (simp [List.take_of_length_le]; done) | (refine congrArg (FV.int .i64) ?_; omega))) ?_ | refine .cons (.nil rfl (.head _) rfl) ?_ | refine .cons (.own rfl (.tail _ (.head _)) rfl (by first | rfl | (simp; done) | (congr 1; omega) | (simp; omega) | (simp [List.take_of_length_le]; done) | (refine congrArg (FV.int .i64) ?_; omega))) ?_ | refine .cons (.ptr rfl (.tail _ (.tail _ (.head _))) rfl) ?_ | refine .cons (.wrap rfl (by repeat (first | exact za.nil | refine za.cons (.plain rfl rfl) ?_ | refine za.cons (.ptr (.head _) rfl) ?_ | refine za.cons (.own (.head _) rfl rfl rfl) ?_ | refine za.cons (.omap (.head _) rfl) ?_ | refine za.cons (.ptr (.tail _ (.head _)) rfl) ?_ | refine za.cons (.own (.tail _ (.head _)) rfl rfl rfl) ?_ | refine za.cons (.omap (.tail _ (.head _)) rfl) ?_ | refine za.cons (.ptr (.tail _ (.tail _ (.head _))) rfl) ?_ | refine za.cons (.own (.tail _ (.tail _ (.head _))) rfl rfl rfl) ?_ | refine za.cons (.omap (.tail _ (.tail _ (.head _))) rfl) ?_ | refine za.cons (.ptr (.tail _ (.tail _ (.tail _ (.head _)))) rfl) ?_ | refine za.cons (.own (.tail _ (.tail _ (.tail _ (.head _)))) rfl rfl rfl) ?_ | refine za.cons (.omap (.tail _ (.tail _ (.tail _ (.head _)))) rfl) ?_ | refine za.cons (.ptr (.tail _ (.tail _ (.tail _ (.tail _ (.head _))))) rfl) ?_ | refine za.cons (.own (.tail _ (.tail _ (.tail _ (.tail _ (.head _))))) rfl rfl rfl) ?_ | refine za.cons (.omap (.tail _ (.tail _ (.tail _ (.tail _ (.head _))))) rfl) ?_))) ?_)))
   clear hTI hend M H
   rintro ⟨m, h, out⟩ ⟨hTI, fu, hfu, hend⟩
   dsimp only at hfu hend ⊢
   have hhl : h.length ≤ n := hTI.hle
   have hml : m.length = n := hTI.len
   have hol : out.length ≤ n := hTI.le
   (repeat (first | refine FW.seq ?_ | refine FW.region ?_ | refine zb rfl rfl rfl ?_))
   refine zdA rfl (YM 0 0 h) [(5000, 111), (5001, 112)] rfl (zi.cons rfl rfl rfl (zi.cons rfl rfl rfl zi.nil)) rfl rfl rfl rfl rfl rfl ?_
   rintro _ ob' ⟨rfl, h1, h2⟩
   refine yi.one [(111, ⟨0, .hrow, 52, 1, [[.own 112 0 0 h.length]]⟩), (112, ⟨0, .own, 3, 1, h.map zm⟩)] (.int .i64 h.length) rfl (by show [(111, zh.ren _ (look {} ob' 5000)), (112, zh.ren _ (look {} ob' 5001))] = _; rw [h1, h2]; rfl) ?_
   clear h1 h2 ob'
   (repeat (first | refine zd.nil ?_ | refine ZO rfl rfl rfl rfl ?_))
   refine FW.cond rfl (fun hc => ?_) (fun hc => ?_)
   ·obtain ⟨k, hk⟩ : ∃ k, h.length = k + 1 := ⟨h.length - 1, by simp at hc; omega⟩
    clear hc
    (repeat (first | refine FW.seq ?_ | refine FW.region ?_ | refine FW.block ?_ | refine FW.skip ?_ | refine zT rfl rfl rfl rfl rfl rfl rfl ?_ | refine Wh rfl rfl (by kernel_rfl) rfl rfl ?_))
    refine yV (zb6 0 0 h k hk (by omega)) [(5000, 111), (5001, 112)] rfl (zi.cons rfl rfl rfl (zi.cons rfl rfl rfl zi.nil)) rfl rfl rfl rfl rfl rfl ?_
    rintro _ ob' ⟨rfl, h1, h2⟩
    refine yi.one [(111, ⟨0, .hrow, 52, 1, [[.own 112 (0 + 1) 0 k]]⟩), (112, ⟨0 + 1, .own, 3, 1, ((yd h k).take k).map zm⟩)] (.iface 3 (.int .i64 (nth (yd h k) k))) rfl (by show [(111, zh.ren _ (look {} ob' 5000)), (112, zh.ren _ (look {} ob' 5001))] = _; rw [h1, h2]; rfl) ?_
    clear h1 h2 ob'
    obtain ⟨v, hv, hvn, hvo, hm0, hmin, hDI, hN, hR⟩ := hTI.first hk
    dsimp only at hv hvo hm0 hmin hDI hN hR
    rw [hv]
    have hstep : yl E ⟨m, h, out⟩ = ⟨((zg E v).foldl decr (m, (yd h k).take k)).1, ((zg E v).foldl decr (m, (yd h k).take k)).2, out ++ [(v : Int)]⟩ := by
     unfold yl
     dsimp only
     rw [show h.length - 1 = k by omega, hv]; rfl
    have hTI' := hTI.step hin (by rintro e; rw [show h = [] from e] at hk; simp at hk)
    rw [hstep] at hTI'
    have hend' : ∀ f, fu = f + 1 → (zH E f (yl E ⟨m, h, out⟩)).out = yf n E := fun f hf => by
     subst hf
     rw [← hend]
     exact (congrArg VZ.out (show zH E (f + 1) ⟨m, h, out⟩ = zH E f (yl E ⟨m, h, out⟩) from if_neg (by rintro e; rw [show h = [] from e] at hk; simp at hk))).symm
    rw [hstep] at hend'
    have hsl := xU E v
    (repeat (first | refine FW.seq ?_ | refine FW.region ?_ | refine FW.block ?_ | refine zd.nil ?_ | refine zc rfl rfl rfl ?_ | refine zb rfl rfl rfl ?_ | refine zu rfl rfl (by first | exact List.length_map _ | exact (List.length_map _).symm | exact List.length_replicate | rfl | (simp; done) | omega | (simp; omega)) rfl rfl ?_ | refine zD rfl rfl (by first | rfl | exact (Int.toNat_of_nonneg (by omega)).symm) rfl rfl rfl (by first | omega | (simp; omega) | (simp; done)) rfl rfl ?_ | refine zJ rfl rfl rfl (by first | omega | (simp; omega) | (simp; done)) (by first | exact zf (by omega) | rfl) rfl rfl rfl rfl ?_ | refine yo rfl rfl rfl rfl rfl rfl rfl rfl ?_ | refine zct rfl rfl rfl (by kernel_rfl) rfl rfl ?_ | refine YO rfl rfl (by first | exact List.length_map _ | exact (List.length_map _).symm | exact List.length_replicate | rfl | (simp; done) | omega | (simp; omega)) rfl rfl rfl (by decide) (by first | exact Ze.own rfl rfl (by decide) (by first | exact List.length_map _ | exact (List.length_map _).symm | exact List.length_replicate | rfl | (simp; done) | omega | (simp; omega)) | exact Ze.list rfl | exact Ze.nil rfl | exact Ze.part rfl rfl (by decide)) (by first | omega | (simp; omega) | (simp; done)) (by first | omega | (simp; omega) | (simp; done)) rfl rfl rfl ?_))
    rw [hrn v hvn]
    obtain ⟨O, hO⟩ : ∃ O, out ++ [(v : Int)] = O := ⟨_, rfl⟩
    obtain ⟨Om, hOm⟩ : ∃ Om, out.map zm ++ [[.int .i64 v]] = Om := ⟨_, rfl⟩
    have hOO : O.map zm = Om := by rw [← hO, ← hOm, List.map_append]; rfl
    have hOl : Om.length = O.length := by rw [← hOO, List.length_map]
    have hOl2 : O.length = out.length + 1 := by rw [← hO]; simp
    rw [hO] at hDI hN hR hTI' hend'
    rw [hOm, hOl]
    have htl : ((yd h k).take k).length = k := by rw [List.length_take, XL]; omega
    obtain ⟨H0, hH0⟩ : ∃ H0, (yd h k).take k = H0 := ⟨_, rfl⟩
    rw [hH0] at hDI htl hTI' hend' ⊢
    clear hstep hH0 hv hmin
    refine FW.loop (fun j : Nat => ⟨[(0, .int .i64 n), (6, .list 1 ((zq n E).map yW)), (7, .own 100 0 0 n), (12, .ptr 110 0 0 0), (13, .wrap (.fn 30) [.ptr 110 0 0 0]), (16, .own 101 0 0 O.length), (17, .wrap (.bound 32) [.ptr 111 0 0 0]), (78, .list 1 ((zg E v).map zm)), (79, .int .i64 (zg E v).length), (80, .int .i64 j)], [(101, ⟨0, .own, 3, 1, O.map zm⟩), (100, ⟨0, .own, 3, 1, (((zg E v).take j).foldl decr (m, H0)).1.map zm⟩), (110, ⟨0, .hrow, 51, 1, [[.ptr 111 0 0 0]]⟩), (111, ⟨0, .hrow, 52, 1, [[.own 112 0 0 (((zg E v).take j).foldl decr (m, H0)).2.length]]⟩), (112, ⟨0, .own, 3, 1, (((zg E v).take j).foldl decr (m, H0)).2.map zm⟩)]⟩) (fun j => j ≤ (zg E v).length) (fun j => (zg E v).length - j) 0 (Nat.zero_le _) ?_ ?_
    ·show FLe _ ⟨[(0, .int .i64 n), (6, .list 1 ((zq n E).map yW)), (7, .own 100 0 0 n), (12, .ptr 110 0 0 0), (13, .wrap (.fn 30) [.ptr 110 0 0 0]), (16, .own 101 0 0 O.length), (17, .wrap (.bound 32) [.ptr 111 0 0 0]), (78, .list 1 ((zg E v).map zm)), (79, .int .i64 (zg E v).length), (80, .int .i64 0)], [(101, ⟨0, .own, 3, 1, O.map zm⟩), (100, ⟨0, .own, 3, 1, m.map zm⟩), (110, ⟨0, .hrow, 51, 1, [[.ptr 111 0 0 0]]⟩), (111, ⟨0, .hrow, 52, 1, [[.own 112 0 0 H0.length]]⟩), (112, ⟨0, .own, 3, 1, H0.map zm⟩)]⟩
     rw [← hOO, htl]
     exact (FLe.conv [⟨101, some 74, 0 + 1, ⟨0, .own, 3, 1, O.map zm⟩⟩, ⟨100, some 100, 0, ⟨0, .own, 3, 1, m.map zm⟩⟩, ⟨110, some 110, 0, ⟨0, .hrow, 51, 1, [[.ptr 111 0 0 0]]⟩⟩, ⟨111, some 111, 0, ⟨0, .hrow, 52, 1, [[.own 112 0 0 k]]⟩⟩, ⟨112, some 112, 0 + 1, ⟨0, .own, 3, 1, H0.map zm⟩⟩] (by simp) (by simp) rfl (by repeat (first | exact .nil | refine .low rfl ?_ | refine .same rfl ?_ | refine .bump (Nat.lt_succ_self _) ?_)) (by repeat (first | exact .nil | refine .old rfl (by decide) (by first | rfl | (simp; done) | (congr 1; omega) | (simp; omega) | (simp [List.take_of_length_le]; done) | (refine congrArg (FV.int .i64) ?_; omega)) ?_ | refine .oldH rfl (by repeat (first | exact .nil | refine .cons (.ptr (.tail _ (.tail _ (.tail _ (.head _)))) rfl) ?_ | refine .cons (.own (.tail _ (.tail _ (.tail _ (.tail _ (.head _))))) rfl (by first | rfl | (simp; done) | (congr 1; omega) | (simp; omega) | (simp [List.take_of_length_le]; done) | (refine congrArg (FV.int .i64) ?_; omega)) (by first | rfl | (simp; done) | (congr 1; omega) | (simp; omega) | (simp [List.take_of_length_le]; done) | (refine congrArg (FV.int .i64) ?_; omega))) ?_)) ?_)) (by repeat (first | exact .nil | refine .cons (.plain rfl rfl (by first | rfl | (simp; done) | (congr 1; omega) | (simp; omega) | (simp [List.take_of_length_le]; done) | (refine congrArg (FV.int .i64) ?_; omega))) ?_ | refine .cons (.own rfl (.head _) rfl (by first | rfl | (simp; done) | (congr 1; omega) | (simp; omega) | (simp [List.take_of_length_le]; done) | (refine congrArg (FV.int .i64) ?_; omega))) ?_ | refine .cons (.own rfl (.tail _ (.head _)) rfl (by first | rfl | (simp; done) | (congr 1; omega) | (simp; omega) | (simp [List.take_of_length_le]; done) | (refine congrArg (FV.int .i64) ?_; omega))) ?_ | refine .cons (.ptr rfl (.tail _ (.tail _ (.head _))) rfl) ?_ | refine .cons (.wrap rfl (by repeat (first | exact za.nil | refine za.cons (.plain rfl rfl) ?_ | refine za.cons (.ptr (.head _) rfl) ?_ | refine za.cons (.own (.head _) rfl rfl rfl) ?_ | refine za.cons (.omap (.head _) rfl) ?_ | refine za.cons (.ptr (.tail _ (.head _)) rfl) ?_ | refine za.cons (.own (.tail _ (.head _)) rfl rfl rfl) ?_ | refine za.cons (.omap (.tail _ (.head _)) rfl) ?_ | refine za.cons (.ptr (.tail _ (.tail _ (.head _))) rfl) ?_ | refine za.cons (.own (.tail _ (.tail _ (.head _))) rfl rfl rfl) ?_ | refine za.cons (.omap (.tail _ (.tail _ (.head _))) rfl) ?_ | refine za.cons (.ptr (.tail _ (.tail _ (.tail _ (.head _)))) rfl) ?_ | refine za.cons (.own (.tail _ (.tail _ (.tail _ (.head _)))) rfl rfl rfl) ?_ | refine za.cons (.omap (.tail _ (.tail _ (.tail _ (.head _)))) rfl) ?_ | refine za.cons (.ptr (.tail _ (.tail _ (.tail _ (.tail _ (.head _))))) rfl) ?_ | refine za.cons (.own (.tail _ (.tail _ (.tail _ (.tail _ (.head _))))) rfl rfl rfl) ?_ | refine za.cons (.omap (.tail _ (.tail _ (.tail _ (.tail _ (.head _))))) rfl) ?_))) ?_)))
    intro j hj
    have hDj := DI.fold (r1 := (zg E v).take j) (r2 := (zg E v).drop j) hR (by rw [List.take_append_drop]; exact hDI) (by rw [List.take_append_drop]; exact xx E v) (by rw [List.take_append_drop]; exact fun w hw => zK hin hw)
    have hst : ∀ hl : j < (zg E v).length, ((zg E v).take (j + 1)).foldl decr (m, H0) = decr (((zg E v).take j).foldl decr (m, H0)) (nth (zg E v) j) := fun hl => by
     rw [List.take_succ_eq_append_getElem hl, List.foldl_append, ← nth_eq hl]; rfl
    have hlast : j = (zg E v).length → (zg E v).foldl decr (m, H0) = ((zg E v).take j).foldl decr (m, H0) := fun e => by rw [e, List.take_length]
    generalize ((zg E v).take j).foldl decr (m, H0) = q at hDj hst hlast
    obtain ⟨qm, qh⟩ := q
    have hql : qm.length = n := hDj.len
    have hqh : qh.length ≤ n := xr hDj.hN fun x hx => ((hDj.hM x).1 hx).1
    dsimp only
    (repeat (first | refine FW.seq ?_ | refine FW.region ?_ | refine zd.nil ?_ | refine zQ rfl rfl rfl rfl ?_))
    refine FW.cond rfl (fun hc => ?_) (fun hc => ?_)
    ·have hlt2 : j < (zg E v).length := by simpa using hc
     clear hc hlast
     have hst := hst hlt2
     obtain ⟨w, hw⟩ : ∃ w : Nat, nth (zg E v) j = w := ⟨(nth (zg E v) j).toNat, by have := (zK hin (zF hlt2)).1; omega⟩
     have hwn : w < n := by have := (zK hin (zF hlt2)).2; omega
     have hbd : 0 ≤ nth qm w ∧ nth qm w ≤ n + 1 := by
      have h1 := hDj.cnt w hwn
      have h2 : zal n E O w ≤ (List.range n).length := List.countP_le_length
      rw [List.length_range] at h2
      dsimp only at h1
      rw [h1]
      split <;> omega
     have hdec : decr (qm, qh) (w : Int) = (qm.set w (nth qm w - 1), if nth qm w - 1 = 0 then Zn qh w else qh) := by unfold decr; rw [Int.toNat_natCast]
     rw [hw, hdec] at hst
     obtain ⟨Z, hZ⟩ : ∃ Z, qm.set w (nth qm w - 1) = Z := ⟨_, rfl⟩
     have hZl : Z.length = n := by rw [← hZ]; simpa using hql
     have hZw : nth Z w = nth qm w - 1 := by rw [← hZ]; exact zy (by omega)
     rw [hZ] at hst
     (repeat (first | refine FW.seq ?_ | refine FW.region ?_ | refine FW.block ?_ | refine FW.skip ?_ | refine zd.nil ?_ | refine zc rfl rfl rfl ?_ | refine zb rfl rfl rfl ?_ | refine zD rfl rfl (by first | rfl | exact (Int.toNat_of_nonneg (by omega)).symm) rfl rfl rfl (by first | omega | (simp; omega) | (simp; done)) rfl rfl ?_ | refine zI rfl rfl (by first | rfl | exact (Int.toNat_of_nonneg (by omega)).symm) rfl rfl rfl (by decide) rfl (by first | omega | (simp; omega) | (simp; done)) rfl rfl ?_ | refine zJ rfl rfl rfl (by first | omega | (simp; omega) | (simp; done)) (by first | exact zf (by omega) | rfl) rfl rfl rfl rfl ?_ | refine zY rfl rfl rfl rfl rfl (by first | omega | (simp; omega) | (simp; done)) (by first | exact zf (by omega) | rfl) rfl rfl rfl rfl ?_))
     rw [hw, Int.toNat_natCast]
     (repeat (first | refine FW.seq ?_ | refine FW.region ?_ | refine zd.nil ?_ | refine zb rfl rfl rfl ?_ | refine zI rfl rfl (by first | rfl | exact (Int.toNat_of_nonneg (by omega)).symm) rfl rfl rfl (by decide) rfl (by first | omega | (simp; omega) | (simp; done)) rfl rfl ?_ | refine yZ rfl rfl rfl rfl rfl rfl (by first | omega | (simp; omega) | (simp; done)) (by first | exact zf (by omega) | rfl) rfl rfl rfl ?_ | refine Xa rfl rfl (by omega) rfl rfl ?_))
     rw [show (zm (nth qm w)).set 0 (.int .i64 (nth qm w - 1)) = zm (nth qm w - 1) from rfl, ← List.map_set, hZ]
     (repeat (first | refine zd.nil ?_ | refine zY rfl rfl rfl rfl rfl (by first | omega | (simp; omega) | (simp; done)) (by first | exact zf (by omega) | rfl) rfl rfl rfl rfl ?_ | refine xO rfl rfl rfl rfl ?_))
     rw [hZw]
     skip
     refine FW.cond rfl (fun hc => ?_) (fun hc => ?_)
     ·rw [if_pos (by simpa using hc)] at hst
      (repeat (first | refine FW.region ?_ | refine zb rfl rfl rfl ?_))
      refine Yu rfl (Wu 0 0 0 qh w (by omega)) [(5002, 110), (5000, 111), (5001, 112)] rfl (zi.cons rfl rfl rfl (zi.cons rfl rfl rfl (zi.cons rfl rfl rfl zi.nil))) rfl rfl rfl rfl rfl rfl ?_
      rintro _ ob' ⟨rfl, h2, h0, h1⟩
      refine yi.one [(110, ⟨0, .hrow, 51, 1, [[.ptr 111 0 0 0]]⟩), (111, ⟨0, .hrow, 52, 1, [[.own 112 (0 + 1) 0 (qh.length + 1)]]⟩), (112, ⟨0 + 1, .own, 3, 1, (Zn qh w).map zm⟩)] (.tup []) rfl (by show [(110, zh.ren _ (look {} ob' 5002)), (111, zh.ren _ (look {} ob' 5000)), (112, zh.ren _ (look {} ob' 5001))] = _; rw [h2, h0, h1]; rfl) ?_
      clear h2 h0 h1 ob'
      (repeat (first | refine FW.region ?_ | refine zd.nil ?_ | refine zb rfl rfl rfl ?_ | refine zB rfl rfl (by omega) rfl rfl ?_))
      refine ⟨j + 1, by omega, by omega, ?_⟩
      rw [hst]
      dsimp only
      have hpl := XM qh w
      generalize Zn qh w = Y at hpl
      rw [hpl]
      exact (FLe.conv [⟨101, some 101, 0, ⟨0, .own, 3, 1, O.map zm⟩⟩, ⟨100, some 100, 0, ⟨0, .own, 3, 1, Z.map zm⟩⟩, ⟨110, some 110, 0, ⟨0, .hrow, 51, 1, [[.ptr 111 0 0 0]]⟩⟩, ⟨111, some 111, 0, ⟨0, .hrow, 52, 1, [[.own 112 0 0 (qh.length + 1)]]⟩⟩, ⟨112, some 112, 0 + 1, ⟨0, .own, 3, 1, Y.map zm⟩⟩] (by simp) (by simp) rfl (by repeat (first | exact .nil | refine .low rfl ?_ | refine .same rfl ?_ | refine .bump (Nat.lt_succ_self _) ?_)) (by repeat (first | exact .nil | refine .old rfl (by decide) (by first | rfl | (simp; done) | (congr 1; omega) | (simp; omega) | (simp [List.take_of_length_le]; done) | (refine congrArg (FV.int .i64) ?_; omega)) ?_ | refine .oldH rfl (by repeat (first | exact .nil | refine .cons (.ptr (.tail _ (.tail _ (.tail _ (.head _)))) rfl) ?_ | refine .cons (.own (.tail _ (.tail _ (.tail _ (.tail _ (.head _))))) rfl (by first | rfl | (simp; done) | (congr 1; omega) | (simp; omega) | (simp [List.take_of_length_le]; done) | (refine congrArg (FV.int .i64) ?_; omega)) (by first | rfl | (simp; done) | (congr 1; omega) | (simp; omega) | (simp [List.take_of_length_le]; done) | (refine congrArg (FV.int .i64) ?_; omega))) ?_)) ?_)) (by repeat (first | exact .nil | refine .cons (.plain rfl rfl (by first | rfl | (simp; done) | (congr 1; omega) | (simp; omega) | (simp [List.take_of_length_le]; done) | (refine congrArg (FV.int .i64) ?_; omega))) ?_ | refine .cons (.own rfl (.head _) rfl (by first | rfl | (simp; done) | (congr 1; omega) | (simp; omega) | (simp [List.take_of_length_le]; done) | (refine congrArg (FV.int .i64) ?_; omega))) ?_ | refine .cons (.own rfl (.tail _ (.head _)) rfl (by first | rfl | (simp; done) | (congr 1; omega) | (simp; omega) | (simp [List.take_of_length_le]; done) | (refine congrArg (FV.int .i64) ?_; omega))) ?_ | refine .cons (.ptr rfl (.tail _ (.tail _ (.head _))) rfl) ?_ | refine .cons (.wrap rfl (by repeat (first | exact za.nil | refine za.cons (.plain rfl rfl) ?_ | refine za.cons (.ptr (.head _) rfl) ?_ | refine za.cons (.own (.head _) rfl rfl rfl) ?_ | refine za.cons (.omap (.head _) rfl) ?_ | refine za.cons (.ptr (.tail _ (.head _)) rfl) ?_ | refine za.cons (.own (.tail _ (.head _)) rfl rfl rfl) ?_ | refine za.cons (.omap (.tail _ (.head _)) rfl) ?_ | refine za.cons (.ptr (.tail _ (.tail _ (.head _))) rfl) ?_ | refine za.cons (.own (.tail _ (.tail _ (.head _))) rfl rfl rfl) ?_ | refine za.cons (.omap (.tail _ (.tail _ (.head _))) rfl) ?_ | refine za.cons (.ptr (.tail _ (.tail _ (.tail _ (.head _)))) rfl) ?_ | refine za.cons (.own (.tail _ (.tail _ (.tail _ (.head _)))) rfl rfl rfl) ?_ | refine za.cons (.omap (.tail _ (.tail _ (.tail _ (.head _)))) rfl) ?_ | refine za.cons (.ptr (.tail _ (.tail _ (.tail _ (.tail _ (.head _))))) rfl) ?_ | refine za.cons (.own (.tail _ (.tail _ (.tail _ (.tail _ (.head _))))) rfl rfl rfl) ?_ | refine za.cons (.omap (.tail _ (.tail _ (.tail _ (.tail _ (.head _))))) rfl) ?_))) ?_)))
     ·rw [if_neg (by simpa using hc)] at hst
      (repeat (first | refine FW.region ?_ | refine FW.skip ?_ | refine zd.nil ?_ | refine zb rfl rfl rfl ?_ | refine zB rfl rfl (by omega) rfl rfl ?_))
      refine ⟨j + 1, by omega, by omega, ?_⟩
      rw [hst]
      dsimp only
      exact (FLe.conv [⟨101, some 101, 0, ⟨0, .own, 3, 1, O.map zm⟩⟩, ⟨100, some 100, 0, ⟨0, .own, 3, 1, Z.map zm⟩⟩, ⟨110, some 110, 0, ⟨0, .hrow, 51, 1, [[.ptr 111 0 0 0]]⟩⟩, ⟨111, some 111, 0, ⟨0, .hrow, 52, 1, [[.own 112 0 0 qh.length]]⟩⟩, ⟨112, some 112, 0, ⟨0, .own, 3, 1, qh.map zm⟩⟩] (by simp) (by simp) rfl (by repeat (first | exact .nil | refine .low rfl ?_ | refine .same rfl ?_ | refine .bump (Nat.lt_succ_self _) ?_)) (by repeat (first | exact .nil | refine .old rfl (by decide) (by first | rfl | (simp; done) | (congr 1; omega) | (simp; omega) | (simp [List.take_of_length_le]; done) | (refine congrArg (FV.int .i64) ?_; omega)) ?_ | refine .oldH rfl (by repeat (first | exact .nil | refine .cons (.ptr (.tail _ (.tail _ (.tail _ (.head _)))) rfl) ?_ | refine .cons (.own (.tail _ (.tail _ (.tail _ (.tail _ (.head _))))) rfl (by first | rfl | (simp; done) | (congr 1; omega) | (simp; omega) | (simp [List.take_of_length_le]; done) | (refine congrArg (FV.int .i64) ?_; omega)) (by first | rfl | (simp; done) | (congr 1; omega) | (simp; omega) | (simp [List.take_of_length_le]; done) | (refine congrArg (FV.int .i64) ?_; omega))) ?_)) ?_)) (by repeat (first | exact .nil | refine .cons (.plain rfl rfl (by first | rfl | (simp; done) | (congr 1; omega) | (simp; omega) | (simp [List.take_of_length_le]; done) | (refine congrArg (FV.int .i64) ?_; omega))) ?_ | refine .cons (.own rfl (.head _) rfl (by first | rfl | (simp; done) | (congr 1; omega) | (simp; omega) | (simp [List.take_of_length_le]; done) | (refine congrArg (FV.int .i64) ?_; omega))) ?_ | refine .cons (.own rfl (.tail _ (.head _)) rfl (by first | rfl | (simp; done) | (congr 1; omega) | (simp; omega) | (simp [List.take_of_length_le]; done) | (refine congrArg (FV.int .i64) ?_; omega))) ?_ | refine .cons (.ptr rfl (.tail _ (.tail _ (.head _))) rfl) ?_ | refine .cons (.wrap rfl (by repeat (first | exact za.nil | refine za.cons (.plain rfl rfl) ?_ | refine za.cons (.ptr (.head _) rfl) ?_ | refine za.cons (.own (.head _) rfl rfl rfl) ?_ | refine za.cons (.omap (.head _) rfl) ?_ | refine za.cons (.ptr (.tail _ (.head _)) rfl) ?_ | refine za.cons (.own (.tail _ (.head _)) rfl rfl rfl) ?_ | refine za.cons (.omap (.tail _ (.head _)) rfl) ?_ | refine za.cons (.ptr (.tail _ (.tail _ (.head _))) rfl) ?_ | refine za.cons (.own (.tail _ (.tail _ (.head _))) rfl rfl rfl) ?_ | refine za.cons (.omap (.tail _ (.tail _ (.head _))) rfl) ?_ | refine za.cons (.ptr (.tail _ (.tail _ (.tail _ (.head _)))) rfl) ?_ | refine za.cons (.own (.tail _ (.tail _ (.tail _ (.head _)))) rfl rfl rfl) ?_ | refine za.cons (.omap (.tail _ (.tail _ (.tail _ (.head _)))) rfl) ?_ | refine za.cons (.ptr (.tail _ (.tail _ (.tail _ (.tail _ (.head _))))) rfl) ?_ | refine za.cons (.own (.tail _ (.tail _ (.tail _ (.tail _ (.head _))))) rfl rfl rfl) ?_ | refine za.cons (.omap (.tail _ (.tail _ (.tail _ (.tail _ (.head _))))) rfl) ?_))) ?_)))
    ·have hje : j = (zg E v).length := by simp at hc; omega
     rw [hlast hje] at hTI' hend'
     clear hc hlast hst
     (repeat (first | refine FW.exit ?_))
     refine ⟨⟨qm, qh, O⟩, ⟨hTI', fu - 1, by show n < O.length + (fu - 1); omega, hend' _ (by omega)⟩, by show n - O.length < n - out.length; have := hTI'.le; dsimp only at this; omega, ?_⟩
     exact (FLe.conv [⟨101, some 101, 0, ⟨0, .own, 3, 1, O.map zm⟩⟩, ⟨100, some 100, 0, ⟨0, .own, 3, 1, qm.map zm⟩⟩, ⟨110, some 110, 0, ⟨0, .hrow, 51, 1, [[.ptr 111 0 0 0]]⟩⟩, ⟨111, some 111, 0, ⟨0, .hrow, 52, 1, [[.own 112 0 0 qh.length]]⟩⟩, ⟨112, some 112, 0, ⟨0, .own, 3, 1, qh.map zm⟩⟩] (by simp) (by simp) rfl (by repeat (first | exact .nil | refine .low rfl ?_ | refine .same rfl ?_ | refine .bump (Nat.lt_succ_self _) ?_)) (by repeat (first | exact .nil | refine .old rfl (by decide) (by first | rfl | (simp; done) | (congr 1; omega) | (simp; omega) | (simp [List.take_of_length_le]; done) | (refine congrArg (FV.int .i64) ?_; omega)) ?_ | refine .oldH rfl (by repeat (first | exact .nil | refine .cons (.ptr (.tail _ (.tail _ (.tail _ (.head _)))) rfl) ?_ | refine .cons (.own (.tail _ (.tail _ (.tail _ (.tail _ (.head _))))) rfl (by first | rfl | (simp; done) | (congr 1; omega) | (simp; omega) | (simp [List.take_of_length_le]; done) | (refine congrArg (FV.int .i64) ?_; omega)) (by first | rfl | (simp; done) | (congr 1; omega) | (simp; omega) | (simp [List.take_of_length_le]; done) | (refine congrArg (FV.int .i64) ?_; omega))) ?_)) ?_)) (by repeat (first | exact .nil | refine .cons (.plain rfl rfl (by first | rfl | (simp; done) | (congr 1; omega) | (simp; omega) | (simp [List.take_of_length_le]; done) | (refine congrArg (FV.int .i64) ?_; omega))) ?_ | refine .cons (.own rfl (.head _) rfl (by first | rfl | (simp; done) | (congr 1; omega) | (simp; omega) | (simp [List.take_of_length_le]; done) | (refine congrArg (FV.int .i64) ?_; omega))) ?_ | refine .cons (.own rfl (.tail _ (.head _)) rfl (by first | rfl | (simp; done) | (congr 1; omega) | (simp; omega) | (simp [List.take_of_length_le]; done) | (refine congrArg (FV.int .i64) ?_; omega))) ?_ | refine .cons (.ptr rfl (.tail _ (.tail _ (.head _))) rfl) ?_ | refine .cons (.wrap rfl (by repeat (first | exact za.nil | refine za.cons (.plain rfl rfl) ?_ | refine za.cons (.ptr (.head _) rfl) ?_ | refine za.cons (.own (.head _) rfl rfl rfl) ?_ | refine za.cons (.omap (.head _) rfl) ?_ | refine za.cons (.ptr (.tail _ (.head _)) rfl) ?_ | refine za.cons (.own (.tail _ (.head _)) rfl rfl rfl) ?_ | refine za.cons (.omap (.tail _ (.head _)) rfl) ?_ | refine za.cons (.ptr (.tail _ (.tail _ (.head _))) rfl) ?_ | refine za.cons (.own (.tail _ (.tail _ (.head _))) rfl rfl rfl) ?_ | refine za.cons (.omap (.tail _ (.tail _ (.head _))) rfl) ?_ | refine za.cons (.ptr (.tail _ (.tail _ (.tail _ (.head _)))) rfl) ?_ | refine za.cons (.own (.tail _ (.tail _ (.tail _ (.head _)))) rfl rfl rfl) ?_ | refine za.cons (.omap (.tail _ (.tail _ (.tail _ (.head _)))) rfl) ?_ | refine za.cons (.ptr (.tail _ (.tail _ (.tail _ (.tail _ (.head _))))) rfl) ?_ | refine za.cons (.own (.tail _ (.tail _ (.tail _ (.tail _ (.head _))))) rfl rfl rfl) ?_ | refine za.cons (.omap (.tail _ (.tail _ (.tail _ (.tail _ (.head _))))) rfl) ?_))) ?_)))
   ·have hh : h = [] := by
     cases h with
     | nil => rfl
     | cons x h => simp at hc
    subst hh
    clear hc
    rw [YB E fu _ rfl] at hend
    dsimp only at hend
    subst hend
    generalize yf n E = O at hol
    (repeat (first | refine FW.seq ?_ | refine FW.region ?_ | refine FW.exit ?_ | refine zd.nil ?_ | refine zb rfl rfl rfl ?_ | refine yn rfl rfl rfl (by decide) rfl rfl ?_ | refine zQ rfl rfl rfl rfl ?_))
    refine FW.cond rfl (fun hc => ?_) (fun hc => ?_)
    ·have hlt : O.length < n := by simpa using hc
     rw [if_pos hlt, show decide (O.length < n) = true by simpa using hlt]
     (repeat (first | refine FW.seq ?_ | refine FW.region ?_ | refine zd.nil ?_ | refine zc rfl rfl rfl ?_))
     refine FW.le (s' := ⟨[(4, .list 1 []), (5, .bool false)], []⟩) ?_ (FLe.conv [] (by simp) (by simp) rfl (by repeat (first | exact .nil | refine .low rfl ?_ | refine .same rfl ?_ | refine .bump (Nat.lt_succ_self _) ?_)) (by repeat (first | exact .nil)) (by repeat (first | exact .nil | refine .cons (.plain rfl rfl (by first | rfl | (simp; done) | (congr 1; omega) | (simp; omega) | (simp [List.take_of_length_le]; done) | (refine congrArg (FV.int .i64) ?_; omega))) ?_ | refine .cons (.nilList rfl) ?_)))
     exact FW.ret ⟨.inl rfl, .sh (.cons (.tmp 4 rfl rfl) (.cons (.tmp 5 rfl rfl) .nil)) rfl rfl⟩
    ·have hlt : ¬ O.length < n := by simpa using hc
     rw [if_neg hlt, show decide (O.length < n) = false by simpa using hlt]
     refine FW.skip ?_
     refine FW.le ?_ (FLe.share 16 rfl rfl (by simp))
     (repeat (first | refine FW.seq ?_ | refine FW.region ?_ | refine zd.nil ?_ | refine zc rfl rfl rfl ?_ | refine zb rfl rfl rfl ?_))
     exact FW.ret ⟨.inl rfl, .sh (.cons (.tmp 4 rfl rfl) (.cons (.tmp 5 rfl rfl) .nil)) rfl rfl⟩
end Go.Proofs.Ythjplkjpehdpfaa
