/-
  graph.Topo of a graph without cycles: the order is the caller's own.
-/
import Derived.Test.YtokmanfcndelfaaZFmTopo
namespace Go.Proofs.Ytokmanfcndelfaa
set_option linter.unusedVariables false
open Go.RowKit

set_option maxHeartbeats 8000000 in
theorem zfH (n : Nat) (E : List (Nat × Nat)) (hn : n ≤ 300) (hE : E.length ≤ 100000) (hin : InN n E) (hac : (yB n E).length = n) : xh Try.prog 18 [.int .i64 n, .list 2 (E.map edf)] [] [4000] (fun res o => res = .wrap .tup [.own 4000 1 0 n, .bool true] ∧ o 4000 = ⟨1, .own, 3, 1, (yB n E).map zp⟩) := by
 refine xh.of_body (c := (xB Try.prog zE zq 104)) ⟨Try.func18, rfl, Try.ntmps18, by kernel_rfl⟩ (by exact Nat.le_of_ble_eq_true rfl) ?_ ?_
 ·rintro res o ⟨rfl, h⟩
  exact ⟨(fun k hk => by cases hk), (fun k hk => by obtain rfl := List.mem_singleton.1 hk; rw [h]; exact ⟨Nat.zero_lt_one, fun _ => rfl⟩), (fun k hk => by obtain rfl := List.mem_singleton.1 hk; rw [h]; rfl), rfl⟩
 change FW _ _ _ ⟨[(0, .int .i64 n), (1, .list 2 (E.map edf))], []⟩
 have hrl := yl n E
 have hrn := fun v (hv : v < n) => Zf E hv
 (repeat (first | refine FW.seq ?_ | refine FW.region ?_ | refine zd.nil ?_ | refine za rfl rfl rfl ?_ | refine zb rfl rfl rfl ?_))
 refine xc (Zp n E (by omega) (by omega) hin) (by repeat (first | exact zx.nil | refine zx.cons (by exact yI.plain rfl rfl) ?_)) rfl rfl ?_
 rw [zbi]
 (repeat (first | refine FW.seq ?_ | refine FW.region ?_ | refine FW.block ?_ | refine zd.nil ?_ | refine za rfl rfl rfl ?_ | refine zb rfl rfl rfl ?_ | refine Uq rfl rfl rfl rfl rfl rfl rfl rfl (by omega) (by omega) rfl rfl rfl ?_ | refine zg rfl rfl (by first | exact List.length_map _ | rfl | omega) rfl rfl ?_))
 rw [show List.replicate n [FV.int .i64 0] = (List.replicate n 0).map zp by rw [List.map_replicate]; rfl]
 refine FW.loop (fun i : Nat => ⟨[(0, .int .i64 n), (6, .list 1 ((zS n E).map Yf)), (7, .own 100 0 0 n), (26, .list 1 ((zS n E).map Yf)), (27, .int .i64 n), (28, .int .i64 i)], [(100, ⟨0, .own, 3, 1, (ZH n E i).map zp⟩)]⟩) (fun i => i ≤ n) (fun i => n - i) 0 (Nat.zero_le _) ?_ ?_
 ·rw [hrl, show ZH n E 0 = List.replicate n 0 from rfl]
  obtain ⟨z, hz⟩ : ∃ z, (List.replicate n (0 : Int)).map zp = z := ⟨_, rfl⟩
  rw [hz]
  exact (FLe.cv [⟨100, some 25, 0 + 1, ⟨0, .own, 3, 1, z⟩⟩] (by repeat (first | exact .nil | refine .old rfl (by decide) rfl ?_)) (by repeat (first | exact .nil | refine .cons (.plain rfl rfl rfl) ?_ | refine .cons (.own rfl (.head _) rfl rfl) ?_)))
 intro i hi
 obtain ⟨hml, hmb⟩ := zdi hin i
 (repeat (first | refine FW.seq ?_ | refine FW.region ?_ | refine zd.nil ?_ | refine zN rfl rfl rfl rfl ?_))
 refine FW.cond rfl (fun h => ?_) (fun h => ?_)
 ·have hlt : i < n := by simpa using h
  clear h
  have hsl := Yz E i
  have hms := zdj n E hlt
  (repeat (first | refine FW.seq ?_ | refine FW.region ?_ | refine FW.block ?_ | refine FW.skip ?_ | refine zd.nil ?_ | refine za rfl rfl rfl ?_ | refine zb rfl rfl rfl ?_ | refine zg rfl rfl (by first | exact List.length_map _ | rfl | (simp; omega)) rfl rfl ?_ | refine zh rfl rfl rfl rfl rfl rfl (by simp; omega) rfl rfl ?_ | refine zA rfl rfl rfl (by simp; omega) (by first | exact zc (by omega) | rfl) rfl rfl rfl rfl ?_))
  rw [hrn i hlt]
  skip
  generalize ZH n E i = M at hml hmb hms
  refine FW.loop (fun j : Nat => ⟨[(0, .int .i64 n), (6, .list 1 ((zS n E).map Yf)), (7, .own 100 0 0 n), (26, .list 1 ((zS n E).map Yf)), (27, .int .i64 n), (28, .int .i64 i), (32, .list 1 ((zy E i).map zp)), (33, .int .i64 (zy E i).length), (34, .int .i64 j)], [(100, ⟨0, .own, 3, 1, (((zy E i).take j).foldl zap M).map zp⟩)]⟩) (fun j => j ≤ (zy E i).length) (fun j => (zy E i).length - j) 0 (Nat.zero_le _) ?_ ?_
  ·show FLe _ ⟨[(0, .int .i64 n), (6, .list 1 ((zS n E).map Yf)), (7, .own 100 0 0 n), (26, .list 1 ((zS n E).map Yf)), (27, .int .i64 n), (28, .int .i64 i), (32, .list 1 ((zy E i).map zp)), (33, .int .i64 (zy E i).length), (34, .int .i64 0)], [(100, ⟨0, .own, 3, 1, M.map zp⟩)]⟩
   exact (FLe.cv [⟨100, some 100, 0, ⟨0, .own, 3, 1, M.map zp⟩⟩] (by repeat (first | exact .nil | refine .old rfl (by decide) rfl ?_)) (by repeat (first | exact .nil | refine .cons (.plain rfl rfl rfl) ?_ | refine .cons (.own rfl (.head _) rfl rfl) ?_)))
  intro j hj
  (repeat (first | refine FW.seq ?_ | refine FW.region ?_ | refine zd.nil ?_ | refine zN rfl rfl rfl rfl ?_))
  refine FW.cond rfl (fun h => ?_) (fun h => ?_)
  ·have hlt2 : j < (zy E i).length := by simpa using h
   clear h
   obtain ⟨w, hw⟩ : ∃ w : Nat, nth (zy E i) j = w := ⟨(nth (zy E i) j).toNat, by have := (yw hin (zI hlt2)).1; omega⟩
   have hwn : w < n := by have := (yw hin (zI hlt2)).2; omega
   have hst : ((zy E i).take (j + 1)).foldl zap M = (((zy E i).take j).foldl zap M).set w (nth (((zy E i).take j).foldl zap M) w + 1) := by
    rw [List.take_succ_eq_append_getElem hlt2, List.foldl_append, ← nth_eq hlt2, hw]; rfl
   have hbd : 0 ≤ nth (((zy E i).take j).foldl zap M) w ∧ nth (((zy E i).take j).foldl zap M) w ≤ n + 1 := by
    rw [VV (n := n) (List.Nodup.sublist (List.take_sublist _ _) (Zq E i)) (fun q hq => yw hin (List.mem_of_mem_take hq)) hml w hwn]
    have := hmb w hwn
    split <;> omega
   have hzl : (((zy E i).take j).foldl zap M).length = n := by rw [VU]; exact hml
   obtain ⟨Z, hZ⟩ : ∃ Z, ((zy E i).take j).foldl zap M = Z := ⟨_, rfl⟩
   rw [hZ] at hst hbd hzl ⊢
   (repeat (first | refine FW.seq ?_ | refine FW.region ?_ | refine FW.block ?_ | refine FW.skip ?_ | refine zd.nil ?_ | refine za rfl rfl rfl ?_ | refine zb rfl rfl rfl ?_ | refine zh rfl rfl (by first | rfl | exact (Int.toNat_of_nonneg (by omega)).symm) rfl rfl rfl (by first | omega | (simp; omega)) rfl rfl ?_ | refine zG rfl rfl (by first | rfl | exact (Int.toNat_of_nonneg (by omega)).symm) rfl rfl rfl (by decide) rfl (by first | omega | (simp; omega)) rfl rfl ?_ | refine zA rfl rfl rfl (by first | omega | (simp; omega)) (by first | exact zc (by omega) | rfl) rfl rfl rfl rfl ?_ | refine zm rfl rfl rfl rfl rfl (by first | omega | (simp; omega)) (by first | exact zc (by omega) | rfl) rfl rfl rfl rfl ?_))
   rw [hw, Int.toNat_natCast]
   (repeat (first | refine FW.region ?_ | refine zd.nil ?_ | refine zb rfl rfl rfl ?_ | refine zG rfl rfl rfl rfl rfl rfl (by decide) rfl (by first | omega | (simp; omega)) rfl rfl ?_ | refine zw rfl rfl (by omega) rfl rfl ?_ | refine zY rfl rfl rfl rfl rfl rfl (by first | omega | (simp; omega)) (by first | exact zc (by omega) | rfl) rfl rfl rfl ?_))
   rw [show (zp (nth Z w)).set 0 (.int .i64 (nth Z w + 1)) = zp (nth Z w + 1) from rfl, ← List.map_set, ← hst]
   skip
   refine ⟨j + 1, by omega, by omega, ?_⟩
   obtain ⟨Y, hY⟩ : ∃ Y, (((zy E i).take (j + 1)).foldl zap M).map zp = Y := ⟨_, rfl⟩
   rw [hY]
   exact (FLe.cv [⟨100, some 100, 0, ⟨0, .own, 3, 1, Y⟩⟩] (by repeat (first | exact .nil | refine .old rfl (by decide) rfl ?_)) (by repeat (first | exact .nil | refine .cons (.plain rfl rfl rfl) ?_ | refine .cons (.own rfl (.head _) rfl rfl) ?_)))
  ·obtain rfl : j = (zy E i).length := by simp at h; omega
   clear h hj
   rw [List.take_length, ← hms]
   (repeat (first | refine FW.region ?_ | refine FW.exit ?_ | refine zd.nil ?_ | refine zb rfl rfl rfl ?_ | refine zw rfl rfl (by omega) rfl rfl ?_))
   refine ⟨i + 1, by omega, by omega, ?_⟩
   exact (FLe.cv [⟨100, some 100, 0, ⟨0, .own, 3, 1, (ZH n E (i + 1)).map zp⟩⟩] (by repeat (first | exact .nil | refine .old rfl (by decide) rfl ?_)) (by repeat (first | exact .nil | refine .cons (.plain rfl rfl rfl) ?_ | refine .cons (.own rfl (.head _) rfl rfl) ?_)))
 ·obtain rfl : i = n := by simp at h; omega
  clear h hi hml hmb
  rw [ze2]
  obtain ⟨hml, hmc⟩ := zav hin
  have hcb : ∀ w, zcN i E [] w ≤ i := fun w => by
   have : zcN i E [] w ≤ (List.range i).length := List.countP_le_length
   rwa [List.length_range] at this
  (repeat (first | refine FW.seq ?_ | refine FW.region ?_ | refine FW.exit ?_ | refine zaB rfl rfl rfl rfl rfl rfl ?_))
  refine ziO (f := .own 46 (0 + 1) 0 0) rfl (.inr (.inl ⟨_, _, _, _, rfl, ⟨by show yb.own ≠ .dead; decide, rfl⟩⟩)) rfl rfl rfl ?_
  refine zcw rfl rfl rfl rfl rfl ?_
  (repeat (first | refine FW.seq ?_ | refine FW.region ?_ | refine FW.block ?_ | refine zd.nil ?_ | refine za rfl rfl rfl ?_ | refine zb rfl rfl rfl ?_ | refine yp rfl rfl rfl (by decide) rfl rfl ?_ | refine zfs rfl rfl rfl rfl rfl rfl (by decide) (by simp; done) rfl ?_ | refine zfp rfl rfl rfl rfl ?_))
  obtain ⟨n, hni⟩ : ∃ n, i = n := ⟨_, rfl⟩
  subst hni
  generalize hMM : UZ i E = M at hml hmc
  obtain ⟨n, hni⟩ : ∃ n, n = i := ⟨_, rfl⟩
  subst hni
  refine FW.loop (fun k : Nat => ⟨[(0, .int .i64 n), (6, .list 1 ((zS n E).map Yf)), (7, .own 100 0 0 n), (12, .ptr 110 0 0 0), (13, .wrap (.fn 45) [.ptr 110 0 0 0]), (49, .own 100 0 0 n), (50, .int .i64 n), (51, .int .i64 k)], [(100, ⟨0, .own, 3, 1, M.map zp⟩), (110, ⟨0, .hrow, 82, 1, [[.ptr 111 0 0 0]]⟩), (111, ⟨0, .hrow, 83, 1, [[.own 112 0 0 (xH M k).length]]⟩), (112, ⟨0, .own, 3, 1, (xH M k).map zp⟩)]⟩) (fun k => k ≤ n) (fun k => n - k) 0 (Nat.zero_le _) ?_ ?_
  ·show FLe _ ⟨[(0, .int .i64 n), (6, .list 1 ((zS n E).map Yf)), (7, .own 100 0 0 n), (12, .ptr 110 0 0 0), (13, .wrap (.fn 45) [.ptr 110 0 0 0]), (49, .own 100 0 0 n), (50, .int .i64 n), (51, .int .i64 0)], [(100, ⟨0, .own, 3, 1, M.map zp⟩), (110, ⟨0, .hrow, 82, 1, [[.ptr 111 0 0 0]]⟩), (111, ⟨0, .hrow, 83, 1, [[.own 112 0 0 0]]⟩), (112, ⟨0, .own, 3, 1, []⟩)]⟩
   exact (FLe.cv [⟨100, some 100, 0, ⟨0, .own, 3, 1, M.map zp⟩⟩, ⟨110, some 12, 0 + 1, ⟨0, .hrow, 82, 1, [[.ptr 111 0 0 0]]⟩⟩, ⟨111, some 47, 0 + 1, ⟨0, .hrow, 83, 1, [[.own 112 0 0 0]]⟩⟩, ⟨112, some 46, 0 + 1, ⟨0, .own, 3, 1, []⟩⟩] (by repeat (first | exact .nil | refine .old rfl (by decide) rfl ?_ | refine .oldH rfl (by repeat (first | exact .nil | refine .cons (.ptr (.tail _ (.tail _ (.head _))) rfl) ?_ | refine .cons (.own (.tail _ (.tail _ (.tail _ (.head _)))) rfl rfl rfl) ?_)) ?_)) (by repeat (first | exact .nil | refine .cons (.plain rfl rfl rfl) ?_ | refine .cons (.own rfl (.head _) rfl rfl) ?_ | refine .cons (.ptr rfl (.tail _ (.head _)) rfl) ?_ | refine .cons (.wrap rfl (by repeat (first | exact zf.nil | refine zf.cons (.plain rfl rfl) ?_ | refine zf.cons (.ptr (.head _) rfl) ?_ | refine zf.cons (.own (.head _) rfl rfl rfl) ?_ | refine zf.cons (.omap (.head _) rfl) ?_ | refine zf.cons (.ptr (.tail _ (.head _)) rfl) ?_ | refine zf.cons (.own (.tail _ (.head _)) rfl rfl rfl) ?_ | refine zf.cons (.omap (.tail _ (.head _)) rfl) ?_ | refine zf.cons (.ptr (.tail _ (.tail _ (.head _))) rfl) ?_ | refine zf.cons (.own (.tail _ (.tail _ (.head _))) rfl rfl rfl) ?_ | refine zf.cons (.omap (.tail _ (.tail _ (.head _))) rfl) ?_ | refine zf.cons (.ptr (.tail _ (.tail _ (.tail _ (.head _)))) rfl) ?_ | refine zf.cons (.own (.tail _ (.tail _ (.tail _ (.head _)))) rfl rfl rfl) ?_ | refine zf.cons (.omap (.tail _ (.tail _ (.tail _ (.head _)))) rfl) ?_))) ?_)))
  intro k hk
  (repeat (first | refine FW.seq ?_ | refine FW.region ?_ | refine zd.nil ?_ | refine zN rfl rfl rfl rfl ?_))
  refine FW.cond rfl (fun h => ?_) (fun h => ?_)
  ·have hlt : k < n := by simpa using h
   clear h
   have hmk := hmc k hlt
   have hck := hcb k
   have hrs : xH M (k + 1) = if nth M k = 0 then Yo (xH M k) k else xH M k := by
    unfold xH
    rw [List.range_succ, List.foldl_append]; rfl
   have hrl : (xH M k).length ≤ k := xT (ZY M k).2.1 fun x hx => (((ZY M k).2.2 x).1 hx).1
   obtain ⟨H, hH⟩ : ∃ H, xH M k = H := ⟨_, rfl⟩
   rw [hH] at hrs hrl ⊢
   (repeat (first | refine FW.seq ?_ | refine FW.region ?_ | refine FW.block ?_ | refine FW.skip ?_ | refine zd.nil ?_ | refine za rfl rfl rfl ?_ | refine zb rfl rfl rfl ?_ | refine zG rfl rfl rfl rfl rfl rfl (by decide) rfl (by first | omega | (simp; omega)) rfl rfl ?_ | refine zm rfl rfl rfl rfl rfl (by first | omega | (simp; omega)) (by first | exact zc (by omega) | rfl) rfl rfl rfl rfl ?_ | refine zU rfl rfl rfl rfl ?_))
   refine FW.cond rfl (fun h => ?_) (fun h => ?_)
   ·rw [if_pos (by simpa using h)] at hrs
    (repeat (first | refine FW.region ?_ | refine zb rfl rfl rfl ?_))
    refine zcx rfl (UD 0 0 0 H k (by omega)) [(5002, 110), (5000, 111), (5001, 112)] rfl (zH.cons rfl rfl rfl (zH.cons rfl rfl rfl (zH.cons rfl rfl rfl zH.nil))) rfl rfl rfl rfl rfl rfl ?_
    rintro _ ob' ⟨rfl, h2, h0, h1⟩
    refine xf.one [(110, ⟨0, .hrow, 82, 1, [[.ptr 111 0 0 0]]⟩), (111, ⟨0, .hrow, 83, 1, [[.own 112 (0 + 1) 0 (H.length + 1)]]⟩), (112, ⟨0 + 1, .own, 3, 1, (Yo H k).map zp⟩)] (.tup []) rfl (by show [(110, zt.ren _ (look {} ob' 5002)), (111, zt.ren _ (look {} ob' 5000)), (112, zt.ren _ (look {} ob' 5001))] = _; rw [h2, h0, h1]; rfl) ?_
    clear h2 h0 h1 ob'
    (repeat (first | refine FW.region ?_ | refine zd.nil ?_ | refine zb rfl rfl rfl ?_ | refine zw rfl rfl (by omega) rfl rfl ?_))
    refine ⟨k + 1, by omega, by omega, ?_⟩
    rw [hrs]
    have hpl := VT H k
    generalize Yo H k = Y at hpl
    rw [hpl]
    exact (FLe.cv [⟨100, some 100, 0, ⟨0, .own, 3, 1, M.map zp⟩⟩, ⟨110, some 110, 0, ⟨0, .hrow, 82, 1, [[.ptr 111 0 0 0]]⟩⟩, ⟨111, some 111, 0, ⟨0, .hrow, 83, 1, [[.own 112 0 0 (H.length + 1)]]⟩⟩, ⟨112, some 112, 0 + 1, ⟨0, .own, 3, 1, Y.map zp⟩⟩] (by repeat (first | exact .nil | refine .old rfl (by decide) rfl ?_ | refine .oldH rfl (by repeat (first | exact .nil | refine .cons (.ptr (.tail _ (.tail _ (.head _))) rfl) ?_ | refine .cons (.own (.tail _ (.tail _ (.tail _ (.head _)))) rfl rfl rfl) ?_)) ?_)) (by repeat (first | exact .nil | refine .cons (.plain rfl rfl rfl) ?_ | refine .cons (.own rfl (.head _) rfl rfl) ?_ | refine .cons (.ptr rfl (.tail _ (.head _)) rfl) ?_ | refine .cons (.wrap rfl (by repeat (first | exact zf.nil | refine zf.cons (.plain rfl rfl) ?_ | refine zf.cons (.ptr (.head _) rfl) ?_ | refine zf.cons (.own (.head _) rfl rfl rfl) ?_ | refine zf.cons (.omap (.head _) rfl) ?_ | refine zf.cons (.ptr (.tail _ (.head _)) rfl) ?_ | refine zf.cons (.own (.tail _ (.head _)) rfl rfl rfl) ?_ | refine zf.cons (.omap (.tail _ (.head _)) rfl) ?_ | refine zf.cons (.ptr (.tail _ (.tail _ (.head _))) rfl) ?_ | refine zf.cons (.own (.tail _ (.tail _ (.head _))) rfl rfl rfl) ?_ | refine zf.cons (.omap (.tail _ (.tail _ (.head _))) rfl) ?_ | refine zf.cons (.ptr (.tail _ (.tail _ (.tail _ (.head _)))) rfl) ?_ | refine zf.cons (.own (.tail _ (.tail _ (.tail _ (.head _)))) rfl rfl rfl) ?_ | refine zf.cons (.omap (.tail _ (.tail _ (.tail _ (.head _)))) rfl) ?_))) ?_)))
   ·rw [if_neg (by simpa using h)] at hrs
    (repeat (first | refine FW.region ?_ | refine FW.skip ?_ | refine zd.nil ?_ | refine zb rfl rfl rfl ?_ | refine zw rfl rfl (by omega) rfl rfl ?_))
    refine ⟨k + 1, by omega, by omega, ?_⟩
    rw [hrs]
    exact (FLe.cv [⟨100, some 100, 0, ⟨0, .own, 3, 1, M.map zp⟩⟩, ⟨110, some 110, 0, ⟨0, .hrow, 82, 1, [[.ptr 111 0 0 0]]⟩⟩, ⟨111, some 111, 0, ⟨0, .hrow, 83, 1, [[.own 112 0 0 H.length]]⟩⟩, ⟨112, some 112, 0, ⟨0, .own, 3, 1, H.map zp⟩⟩] (by repeat (first | exact .nil | refine .old rfl (by decide) rfl ?_ | refine .oldH rfl (by repeat (first | exact .nil | refine .cons (.ptr (.tail _ (.tail _ (.head _))) rfl) ?_ | refine .cons (.own (.tail _ (.tail _ (.tail _ (.head _)))) rfl rfl rfl) ?_)) ?_)) (by repeat (first | exact .nil | refine .cons (.plain rfl rfl rfl) ?_ | refine .cons (.own rfl (.head _) rfl rfl) ?_ | refine .cons (.ptr rfl (.tail _ (.head _)) rfl) ?_ | refine .cons (.wrap rfl (by repeat (first | exact zf.nil | refine zf.cons (.plain rfl rfl) ?_ | refine zf.cons (.ptr (.head _) rfl) ?_ | refine zf.cons (.own (.head _) rfl rfl rfl) ?_ | refine zf.cons (.omap (.head _) rfl) ?_ | refine zf.cons (.ptr (.tail _ (.head _)) rfl) ?_ | refine zf.cons (.own (.tail _ (.head _)) rfl rfl rfl) ?_ | refine zf.cons (.omap (.tail _ (.head _)) rfl) ?_ | refine zf.cons (.ptr (.tail _ (.tail _ (.head _))) rfl) ?_ | refine zf.cons (.own (.tail _ (.tail _ (.head _))) rfl rfl rfl) ?_ | refine zf.cons (.omap (.tail _ (.tail _ (.head _))) rfl) ?_ | refine zf.cons (.ptr (.tail _ (.tail _ (.tail _ (.head _)))) rfl) ?_ | refine zf.cons (.own (.tail _ (.tail _ (.tail _ (.head _)))) rfl rfl rfl) ?_ | refine zf.cons (.omap (.tail _ (.tail _ (.tail _ (.head _)))) rfl) ?_))) ?_)))
  ·obtain rfl : k = n := by simp at h; omega
   clear h hk
   have hTI := TI.start hin
   have hst : yq k E = ⟨M, xH M k, []⟩ := by unfold yq; rw [hMM]
   have hend : (yd E (k + 1) (yq k E)).out = yB k E := rfl
   rw [hst] at hTI hend
   (repeat (first | refine FW.seq ?_ | refine FW.region ?_ | refine FW.block ?_ | refine FW.exit ?_ | refine zd.nil ?_ | refine za rfl rfl rfl ?_ | refine YS rfl rfl rfl rfl rfl rfl rfl ?_ | refine zh2 rfl rfl rfl rfl ?_))
   obtain ⟨n, hni⟩ : ∃ n, n = k := ⟨_, rfl⟩
   subst hni
   generalize xH M n = H at hTI hend
   clear hMM hst hcb hmc hml
   refine FW.loop (fun s : zbq => ⟨[(0, .int .i64 n), (6, .list 1 ((zS n E).map Yf)), (7, .own 100 0 0 n), (12, .ptr 110 0 0 0), (13, .wrap (.fn 45) [.ptr 110 0 0 0]), (16, .own 101 0 0 s.out.length), (17, .wrap (.bound 47) [.ptr 111 0 0 0])], [(101, ⟨0, .own, 3, 1, s.out.map zp⟩), (100, ⟨0, .own, 3, 1, s.m.map zp⟩), (110, ⟨0, .hrow, 82, 1, [[.ptr 111 0 0 0]]⟩), (111, ⟨0, .hrow, 83, 1, [[.own 112 0 0 s.h.length]]⟩), (112, ⟨0, .own, 3, 1, s.h.map zp⟩)]⟩) (fun s => TI n E s ∧ ∃ k, n < s.out.length + k ∧ (yd E k s).out = yB n E) (fun s => n - s.out.length) ⟨M, H, []⟩ ⟨hTI, n + 1, by show n < 0 + (n + 1); omega, hend⟩ ?_ ?_
   ·show FLe _ ⟨[(0, .int .i64 n), (6, .list 1 ((zS n E).map Yf)), (7, .own 100 0 0 n), (12, .ptr 110 0 0 0), (13, .wrap (.fn 45) [.ptr 110 0 0 0]), (16, .own 101 0 0 0), (17, .wrap (.bound 47) [.ptr 111 0 0 0])], [(101, ⟨0, .own, 3, 1, []⟩), (100, ⟨0, .own, 3, 1, M.map zp⟩), (110, ⟨0, .hrow, 82, 1, [[.ptr 111 0 0 0]]⟩), (111, ⟨0, .hrow, 83, 1, [[.own 112 0 0 H.length]]⟩), (112, ⟨0, .own, 3, 1, H.map zp⟩)]⟩
    exact (FLe.cv [⟨101, none, 0, ⟨0, .own, 3, 1, []⟩⟩, ⟨100, some 100, 0, ⟨0, .own, 3, 1, M.map zp⟩⟩, ⟨110, some 110, 0, ⟨0, .hrow, 82, 1, [[.ptr 111 0 0 0]]⟩⟩, ⟨111, some 111, 0, ⟨0, .hrow, 83, 1, [[.own 112 0 0 H.length]]⟩⟩, ⟨112, some 112, 0, ⟨0, .own, 3, 1, H.map zp⟩⟩] (by repeat (first | exact .nil | refine .old rfl (by decide) rfl ?_ | refine .oldH rfl (by repeat (first | exact .nil | refine .cons (.ptr (.tail _ (.tail _ (.tail _ (.head _)))) rfl) ?_ | refine .cons (.own (.tail _ (.tail _ (.tail _ (.tail _ (.head _))))) rfl rfl rfl) ?_)) ?_ | refine .new ?_)) (by repeat (first | exact .nil | refine .cons (.plain rfl rfl rfl) ?_ | refine .cons (.nil rfl (.head _) rfl) ?_ | refine .cons (.own rfl (.tail _ (.head _)) rfl rfl) ?_ | refine .cons (.ptr rfl (.tail _ (.tail _ (.head _))) rfl) ?_ | refine .cons (.wrap rfl (by repeat (first | exact zf.nil | refine zf.cons (.plain rfl rfl) ?_ | refine zf.cons (.ptr (.head _) rfl) ?_ | refine zf.cons (.own (.head _) rfl rfl rfl) ?_ | refine zf.cons (.omap (.head _) rfl) ?_ | refine zf.cons (.ptr (.tail _ (.head _)) rfl) ?_ | refine zf.cons (.own (.tail _ (.head _)) rfl rfl rfl) ?_ | refine zf.cons (.omap (.tail _ (.head _)) rfl) ?_ | refine zf.cons (.ptr (.tail _ (.tail _ (.head _))) rfl) ?_ | refine zf.cons (.own (.tail _ (.tail _ (.head _))) rfl rfl rfl) ?_ | refine zf.cons (.omap (.tail _ (.tail _ (.head _))) rfl) ?_ | refine zf.cons (.ptr (.tail _ (.tail _ (.tail _ (.head _)))) rfl) ?_ | refine zf.cons (.own (.tail _ (.tail _ (.tail _ (.head _)))) rfl rfl rfl) ?_ | refine zf.cons (.omap (.tail _ (.tail _ (.tail _ (.head _)))) rfl) ?_ | refine zf.cons (.ptr (.tail _ (.tail _ (.tail _ (.tail _ (.head _))))) rfl) ?_ | refine zf.cons (.own (.tail _ (.tail _ (.tail _ (.tail _ (.head _))))) rfl rfl rfl) ?_ | refine zf.cons (.omap (.tail _ (.tail _ (.tail _ (.tail _ (.head _))))) rfl) ?_))) ?_)))
   clear hTI hend M H
   rintro ⟨m, h, out⟩ ⟨hTI, fu, hfu, hend⟩
   dsimp only at hfu hend ⊢
   have hhl : h.length ≤ n := hTI.hle
   have hml : m.length = n := hTI.len
   have hol : out.length ≤ n := hTI.le
   (repeat (first | refine FW.seq ?_ | refine FW.region ?_ | refine zb rfl rfl rfl ?_))
   refine zgZ rfl (Wr 0 0 h) [(5000, 111), (5001, 112)] rfl (zH.cons rfl rfl rfl (zH.cons rfl rfl rfl zH.nil)) rfl rfl rfl rfl rfl rfl ?_
   rintro _ ob' ⟨rfl, h1, h2⟩
   refine xf.one [(111, ⟨0, .hrow, 83, 1, [[.own 112 0 0 h.length]]⟩), (112, ⟨0, .own, 3, 1, h.map zp⟩)] (.int .i64 h.length) rfl (by show [(111, zt.ren _ (look {} ob' 5000)), (112, zt.ren _ (look {} ob' 5001))] = _; rw [h1, h2]; rfl) ?_
   clear h1 h2 ob'
   (repeat (first | refine zd.nil ?_ | refine xC rfl rfl rfl rfl ?_))
   refine FW.cond rfl (fun hc => ?_) (fun hc => ?_)
   ·obtain ⟨k, hk⟩ : ∃ k, h.length = k + 1 := ⟨h.length - 1, by simp at hc; omega⟩
    clear hc
    (repeat (first | refine FW.seq ?_ | refine FW.region ?_ | refine FW.block ?_ | refine FW.skip ?_ | refine YS rfl rfl rfl rfl rfl rfl rfl ?_ | refine Ur rfl rfl (by kernel_rfl) rfl rfl ?_))
    refine Zx (zeQ 0 0 h k hk (by omega)) [(5000, 111), (5001, 112)] rfl (zH.cons rfl rfl rfl (zH.cons rfl rfl rfl zH.nil)) rfl rfl rfl rfl rfl rfl ?_
    rintro _ ob' ⟨rfl, h1, h2⟩
    refine xf.one [(111, ⟨0, .hrow, 83, 1, [[.own 112 (0 + 1) 0 k]]⟩), (112, ⟨0 + 1, .own, 3, 1, ((yJ h k).take k).map zp⟩)] (.iface 3 (.int .i64 (nth (yJ h k) k))) rfl (by show [(111, zt.ren _ (look {} ob' 5000)), (112, zt.ren _ (look {} ob' 5001))] = _; rw [h1, h2]; rfl) ?_
    clear h1 h2 ob'
    obtain ⟨v, hv, hvn, hvo, hm0, hmin, hDI, hN, hR⟩ := hTI.first hk
    dsimp only at hv hvo hm0 hmin hDI hN hR
    rw [hv]
    have hstep : yS E ⟨m, h, out⟩ = ⟨((zy E v).foldl decr (m, (yJ h k).take k)).1, ((zy E v).foldl decr (m, (yJ h k).take k)).2, out ++ [(v : Int)]⟩ := by
     unfold yS
     dsimp only
     rw [show h.length - 1 = k by omega, hv]; rfl
    have hTI' := hTI.step hin (by rintro e; rw [show h = [] from e] at hk; simp at hk)
    rw [hstep] at hTI'
    have hend' : ∀ f, fu = f + 1 → (yd E f (yS E ⟨m, h, out⟩)).out = yB n E := fun f hf => by
     subst hf
     rw [← hend]
     exact (congrArg zbq.out (show yd E (f + 1) ⟨m, h, out⟩ = yd E f (yS E ⟨m, h, out⟩) from if_neg (by rintro e; rw [show h = [] from e] at hk; simp at hk))).symm
    rw [hstep] at hend'
    have hsl := Yz E v
    (repeat (first | refine FW.seq ?_ | refine FW.region ?_ | refine FW.block ?_ | refine zd.nil ?_ | refine za rfl rfl rfl ?_ | refine zb rfl rfl rfl ?_ | refine zg rfl rfl (by first | exact List.length_map _ | exact (List.length_map _).symm | rfl | (simp; done) | (simp; omega)) rfl rfl ?_ | refine zh rfl rfl rfl rfl rfl rfl (by first | (simp; omega) | (simp; done)) rfl rfl ?_ | refine zA rfl rfl rfl (by first | (simp; omega) | (simp; done)) (by first | exact zc (by omega) | rfl) rfl rfl rfl rfl ?_ | refine yg rfl rfl rfl rfl rfl rfl rfl rfl ?_ | refine zfw rfl rfl rfl (by kernel_rfl) rfl rfl ?_ | refine xa rfl rfl (by first | exact List.length_map _ | exact (List.length_map _).symm | rfl | (simp; done) | (simp; omega)) rfl rfl rfl (by decide) (by exact xi.own rfl rfl (by decide) (by first | exact List.length_map _ | exact (List.length_map _).symm | exact List.length_replicate | rfl | (simp; done) | omega | (simp; omega))) (by first | (simp; omega) | (simp; done)) (by first | (simp; omega) | (simp; done)) rfl rfl rfl ?_))
    rw [hrn v hvn]
    obtain ⟨O, hO⟩ : ∃ O, out ++ [(v : Int)] = O := ⟨_, rfl⟩
    obtain ⟨Om, hOm⟩ : ∃ Om, out.map zp ++ [[.int .i64 v]] = Om := ⟨_, rfl⟩
    have hOO : O.map zp = Om := by rw [← hO, ← hOm, List.map_append]; rfl
    have hOl : Om.length = O.length := by rw [← hOO, List.length_map]
    have hOl2 : O.length = out.length + 1 := by rw [← hO]; simp
    rw [hO] at hDI hN hR hTI' hend'
    rw [hOm, hOl]
    have htl : ((yJ h k).take k).length = k := by rw [List.length_take, VQ]; omega
    obtain ⟨H0, hH0⟩ : ∃ H0, (yJ h k).take k = H0 := ⟨_, rfl⟩
    rw [hH0] at hDI htl hTI' hend' ⊢
    clear hstep hH0 hv hmin
    refine FW.loop (fun j : Nat => ⟨[(0, .int .i64 n), (6, .list 1 ((zS n E).map Yf)), (7, .own 100 0 0 n), (12, .ptr 110 0 0 0), (13, .wrap (.fn 45) [.ptr 110 0 0 0]), (16, .own 101 0 0 O.length), (17, .wrap (.bound 47) [.ptr 111 0 0 0]), (78, .list 1 ((zy E v).map zp)), (79, .int .i64 (zy E v).length), (80, .int .i64 j)], [(101, ⟨0, .own, 3, 1, O.map zp⟩), (100, ⟨0, .own, 3, 1, (((zy E v).take j).foldl decr (m, H0)).1.map zp⟩), (110, ⟨0, .hrow, 82, 1, [[.ptr 111 0 0 0]]⟩), (111, ⟨0, .hrow, 83, 1, [[.own 112 0 0 (((zy E v).take j).foldl decr (m, H0)).2.length]]⟩), (112, ⟨0, .own, 3, 1, (((zy E v).take j).foldl decr (m, H0)).2.map zp⟩)]⟩) (fun j => j ≤ (zy E v).length) (fun j => (zy E v).length - j) 0 (Nat.zero_le _) ?_ ?_
    ·show FLe _ ⟨[(0, .int .i64 n), (6, .list 1 ((zS n E).map Yf)), (7, .own 100 0 0 n), (12, .ptr 110 0 0 0), (13, .wrap (.fn 45) [.ptr 110 0 0 0]), (16, .own 101 0 0 O.length), (17, .wrap (.bound 47) [.ptr 111 0 0 0]), (78, .list 1 ((zy E v).map zp)), (79, .int .i64 (zy E v).length), (80, .int .i64 0)], [(101, ⟨0, .own, 3, 1, O.map zp⟩), (100, ⟨0, .own, 3, 1, m.map zp⟩), (110, ⟨0, .hrow, 82, 1, [[.ptr 111 0 0 0]]⟩), (111, ⟨0, .hrow, 83, 1, [[.own 112 0 0 H0.length]]⟩), (112, ⟨0, .own, 3, 1, H0.map zp⟩)]⟩
     rw [← hOO, htl]
     exact (FLe.cv [⟨101, some 74, 0 + 1, ⟨0, .own, 3, 1, O.map zp⟩⟩, ⟨100, some 100, 0, ⟨0, .own, 3, 1, m.map zp⟩⟩, ⟨110, some 110, 0, ⟨0, .hrow, 82, 1, [[.ptr 111 0 0 0]]⟩⟩, ⟨111, some 111, 0, ⟨0, .hrow, 83, 1, [[.own 112 0 0 k]]⟩⟩, ⟨112, some 112, 0 + 1, ⟨0, .own, 3, 1, H0.map zp⟩⟩] (by repeat (first | exact .nil | refine .old rfl (by decide) rfl ?_ | refine .oldH rfl (by repeat (first | exact .nil | refine .cons (.ptr (.tail _ (.tail _ (.tail _ (.head _)))) rfl) ?_ | refine .cons (.own (.tail _ (.tail _ (.tail _ (.tail _ (.head _))))) rfl rfl rfl) ?_)) ?_)) (by repeat (first | exact .nil | refine .cons (.plain rfl rfl rfl) ?_ | refine .cons (.own rfl (.head _) rfl rfl) ?_ | refine .cons (.own rfl (.tail _ (.head _)) rfl rfl) ?_ | refine .cons (.ptr rfl (.tail _ (.tail _ (.head _))) rfl) ?_ | refine .cons (.wrap rfl (by repeat (first | exact zf.nil | refine zf.cons (.plain rfl rfl) ?_ | refine zf.cons (.ptr (.head _) rfl) ?_ | refine zf.cons (.own (.head _) rfl rfl rfl) ?_ | refine zf.cons (.omap (.head _) rfl) ?_ | refine zf.cons (.ptr (.tail _ (.head _)) rfl) ?_ | refine zf.cons (.own (.tail _ (.head _)) rfl rfl rfl) ?_ | refine zf.cons (.omap (.tail _ (.head _)) rfl) ?_ | refine zf.cons (.ptr (.tail _ (.tail _ (.head _))) rfl) ?_ | refine zf.cons (.own (.tail _ (.tail _ (.head _))) rfl rfl rfl) ?_ | refine zf.cons (.omap (.tail _ (.tail _ (.head _))) rfl) ?_ | refine zf.cons (.ptr (.tail _ (.tail _ (.tail _ (.head _)))) rfl) ?_ | refine zf.cons (.own (.tail _ (.tail _ (.tail _ (.head _)))) rfl rfl rfl) ?_ | refine zf.cons (.omap (.tail _ (.tail _ (.tail _ (.head _)))) rfl) ?_ | refine zf.cons (.ptr (.tail _ (.tail _ (.tail _ (.tail _ (.head _))))) rfl) ?_ | refine zf.cons (.own (.tail _ (.tail _ (.tail _ (.tail _ (.head _))))) rfl rfl rfl) ?_ | refine zf.cons (.omap (.tail _ (.tail _ (.tail _ (.tail _ (.head _))))) rfl) ?_))) ?_)))
    intro j hj
    have hDj := DI.fold (r1 := (zy E v).take j) (r2 := (zy E v).drop j) hR (by rw [List.take_append_drop]; exact hDI) (by rw [List.take_append_drop]; exact Zq E v) (by rw [List.take_append_drop]; exact fun w hw => yw hin hw)
    have hst : ∀ hl : j < (zy E v).length, ((zy E v).take (j + 1)).foldl decr (m, H0) = decr (((zy E v).take j).foldl decr (m, H0)) (nth (zy E v) j) := fun hl => by
     rw [List.take_succ_eq_append_getElem hl, List.foldl_append, ← nth_eq hl]; rfl
    have hlast : j = (zy E v).length → (zy E v).foldl decr (m, H0) = ((zy E v).take j).foldl decr (m, H0) := fun e => by rw [e, List.take_length]
    generalize ((zy E v).take j).foldl decr (m, H0) = q at hDj hst hlast
    obtain ⟨qm, qh⟩ := q
    have hql : qm.length = n := hDj.len
    have hqh : qh.length ≤ n := xT hDj.hN fun x hx => ((hDj.hM x).1 hx).1
    dsimp only
    (repeat (first | refine FW.seq ?_ | refine FW.region ?_ | refine zd.nil ?_ | refine zN rfl rfl rfl rfl ?_))
    refine FW.cond rfl (fun hc => ?_) (fun hc => ?_)
    ·have hlt2 : j < (zy E v).length := by simpa using hc
     clear hc hlast
     have hst := hst hlt2
     obtain ⟨w, hw⟩ : ∃ w : Nat, nth (zy E v) j = w := ⟨(nth (zy E v) j).toNat, by have := (yw hin (zI hlt2)).1; omega⟩
     have hwn : w < n := by have := (yw hin (zI hlt2)).2; omega
     have hbd : 0 ≤ nth qm w ∧ nth qm w ≤ n + 1 := by
      have h1 := hDj.cnt w hwn
      have h2 : zcN n E O w ≤ (List.range n).length := List.countP_le_length
      rw [List.length_range] at h2
      dsimp only at h1
      rw [h1]
      split <;> omega
     have hdec : decr (qm, qh) (w : Int) = (qm.set w (nth qm w - 1), if nth qm w - 1 = 0 then Yo qh w else qh) := by unfold decr; rw [Int.toNat_natCast]
     rw [hw, hdec] at hst
     obtain ⟨Z, hZ⟩ : ∃ Z, qm.set w (nth qm w - 1) = Z := ⟨_, rfl⟩
     have hZl : Z.length = n := by rw [← hZ]; simpa using hql
     have hZw : nth Z w = nth qm w - 1 := by rw [← hZ]; exact zM (by omega)
     rw [hZ] at hst
     (repeat (first | refine FW.seq ?_ | refine FW.region ?_ | refine FW.block ?_ | refine FW.skip ?_ | refine zd.nil ?_ | refine za rfl rfl rfl ?_ | refine zb rfl rfl rfl ?_ | refine zh rfl rfl (by first | rfl | exact (Int.toNat_of_nonneg (by omega)).symm) rfl rfl rfl (by first | omega | (simp; omega)) rfl rfl ?_ | refine zG rfl rfl (by first | rfl | exact (Int.toNat_of_nonneg (by omega)).symm) rfl rfl rfl (by decide) rfl (by first | omega | (simp; omega)) rfl rfl ?_ | refine zA rfl rfl rfl (by first | omega | (simp; omega)) (by first | exact zc (by omega) | rfl) rfl rfl rfl rfl ?_ | refine zm rfl rfl rfl rfl rfl (by first | omega | (simp; omega)) (by first | exact zc (by omega) | rfl) rfl rfl rfl rfl ?_))
     rw [hw, Int.toNat_natCast]
     (repeat (first | refine FW.seq ?_ | refine FW.region ?_ | refine zd.nil ?_ | refine zb rfl rfl rfl ?_ | refine zG rfl rfl rfl rfl rfl rfl (by decide) rfl (by first | omega | (simp; omega)) rfl rfl ?_ | refine zY rfl rfl rfl rfl rfl rfl (by first | omega | (simp; omega)) (by first | exact zc (by omega) | rfl) rfl rfl rfl ?_ | refine Yv rfl rfl (by omega) rfl rfl ?_))
     rw [show (zp (nth qm w)).set 0 (.int .i64 (nth qm w - 1)) = zp (nth qm w - 1) from rfl, ← List.map_set, hZ]
     (repeat (first | refine zd.nil ?_ | refine zm rfl rfl rfl rfl rfl (by simp; omega) (by exact zc (by omega)) rfl rfl rfl rfl ?_ | refine zU rfl rfl rfl rfl ?_))
     rw [hZw]
     skip
     refine FW.cond rfl (fun hc => ?_) (fun hc => ?_)
     ·rw [if_pos (by simpa using hc)] at hst
      (repeat (first | refine FW.region ?_ | refine zb rfl rfl rfl ?_))
      refine zcx rfl (UD 0 0 0 qh w (by omega)) [(5002, 110), (5000, 111), (5001, 112)] rfl (zH.cons rfl rfl rfl (zH.cons rfl rfl rfl (zH.cons rfl rfl rfl zH.nil))) rfl rfl rfl rfl rfl rfl ?_
      rintro _ ob' ⟨rfl, h2, h0, h1⟩
      refine xf.one [(110, ⟨0, .hrow, 82, 1, [[.ptr 111 0 0 0]]⟩), (111, ⟨0, .hrow, 83, 1, [[.own 112 (0 + 1) 0 (qh.length + 1)]]⟩), (112, ⟨0 + 1, .own, 3, 1, (Yo qh w).map zp⟩)] (.tup []) rfl (by show [(110, zt.ren _ (look {} ob' 5002)), (111, zt.ren _ (look {} ob' 5000)), (112, zt.ren _ (look {} ob' 5001))] = _; rw [h2, h0, h1]; rfl) ?_
      clear h2 h0 h1 ob'
      (repeat (first | refine FW.region ?_ | refine zd.nil ?_ | refine zb rfl rfl rfl ?_ | refine zw rfl rfl (by omega) rfl rfl ?_))
      refine ⟨j + 1, by omega, by omega, ?_⟩
      rw [hst]
      dsimp only
      have hpl := VT qh w
      generalize Yo qh w = Y at hpl
      rw [hpl]
      exact (FLe.cv [⟨101, some 101, 0, ⟨0, .own, 3, 1, O.map zp⟩⟩, ⟨100, some 100, 0, ⟨0, .own, 3, 1, Z.map zp⟩⟩, ⟨110, some 110, 0, ⟨0, .hrow, 82, 1, [[.ptr 111 0 0 0]]⟩⟩, ⟨111, some 111, 0, ⟨0, .hrow, 83, 1, [[.own 112 0 0 (qh.length + 1)]]⟩⟩, ⟨112, some 112, 0 + 1, ⟨0, .own, 3, 1, Y.map zp⟩⟩] (by repeat (first | exact .nil | refine .old rfl (by decide) rfl ?_ | refine .oldH rfl (by repeat (first | exact .nil | refine .cons (.ptr (.tail _ (.tail _ (.tail _ (.head _)))) rfl) ?_ | refine .cons (.own (.tail _ (.tail _ (.tail _ (.tail _ (.head _))))) rfl rfl rfl) ?_)) ?_)) (by repeat (first | exact .nil | refine .cons (.plain rfl rfl rfl) ?_ | refine .cons (.own rfl (.head _) rfl rfl) ?_ | refine .cons (.own rfl (.tail _ (.head _)) rfl rfl) ?_ | refine .cons (.ptr rfl (.tail _ (.tail _ (.head _))) rfl) ?_ | refine .cons (.wrap rfl (by repeat (first | exact zf.nil | refine zf.cons (.plain rfl rfl) ?_ | refine zf.cons (.ptr (.head _) rfl) ?_ | refine zf.cons (.own (.head _) rfl rfl rfl) ?_ | refine zf.cons (.omap (.head _) rfl) ?_ | refine zf.cons (.ptr (.tail _ (.head _)) rfl) ?_ | refine zf.cons (.own (.tail _ (.head _)) rfl rfl rfl) ?_ | refine zf.cons (.omap (.tail _ (.head _)) rfl) ?_ | refine zf.cons (.ptr (.tail _ (.tail _ (.head _))) rfl) ?_ | refine zf.cons (.own (.tail _ (.tail _ (.head _))) rfl rfl rfl) ?_ | refine zf.cons (.omap (.tail _ (.tail _ (.head _))) rfl) ?_ | refine zf.cons (.ptr (.tail _ (.tail _ (.tail _ (.head _)))) rfl) ?_ | refine zf.cons (.own (.tail _ (.tail _ (.tail _ (.head _)))) rfl rfl rfl) ?_ | refine zf.cons (.omap (.tail _ (.tail _ (.tail _ (.head _)))) rfl) ?_ | refine zf.cons (.ptr (.tail _ (.tail _ (.tail _ (.tail _ (.head _))))) rfl) ?_ | refine zf.cons (.own (.tail _ (.tail _ (.tail _ (.tail _ (.head _))))) rfl rfl rfl) ?_ | refine zf.cons (.omap (.tail _ (.tail _ (.tail _ (.tail _ (.head _))))) rfl) ?_))) ?_)))
     ·rw [if_neg (by simpa using hc)] at hst
      (repeat (first | refine FW.region ?_ | refine FW.skip ?_ | refine zd.nil ?_ | refine zb rfl rfl rfl ?_ | refine zw rfl rfl (by omega) rfl rfl ?_))
      refine ⟨j + 1, by omega, by omega, ?_⟩
      rw [hst]
      dsimp only
      exact (FLe.cv [⟨101, some 101, 0, ⟨0, .own, 3, 1, O.map zp⟩⟩, ⟨100, some 100, 0, ⟨0, .own, 3, 1, Z.map zp⟩⟩, ⟨110, some 110, 0, ⟨0, .hrow, 82, 1, [[.ptr 111 0 0 0]]⟩⟩, ⟨111, some 111, 0, ⟨0, .hrow, 83, 1, [[.own 112 0 0 qh.length]]⟩⟩, ⟨112, some 112, 0, ⟨0, .own, 3, 1, qh.map zp⟩⟩] (by repeat (first | exact .nil | refine .old rfl (by decide) rfl ?_ | refine .oldH rfl (by repeat (first | exact .nil | refine .cons (.ptr (.tail _ (.tail _ (.tail _ (.head _)))) rfl) ?_ | refine .cons (.own (.tail _ (.tail _ (.tail _ (.tail _ (.head _))))) rfl rfl rfl) ?_)) ?_)) (by repeat (first | exact .nil | refine .cons (.plain rfl rfl rfl) ?_ | refine .cons (.own rfl (.head _) rfl rfl) ?_ | refine .cons (.own rfl (.tail _ (.head _)) rfl rfl) ?_ | refine .cons (.ptr rfl (.tail _ (.tail _ (.head _))) rfl) ?_ | refine .cons (.wrap rfl (by repeat (first | exact zf.nil | refine zf.cons (.plain rfl rfl) ?_ | refine zf.cons (.ptr (.head _) rfl) ?_ | refine zf.cons (.own (.head _) rfl rfl rfl) ?_ | refine zf.cons (.omap (.head _) rfl) ?_ | refine zf.cons (.ptr (.tail _ (.head _)) rfl) ?_ | refine zf.cons (.own (.tail _ (.head _)) rfl rfl rfl) ?_ | refine zf.cons (.omap (.tail _ (.head _)) rfl) ?_ | refine zf.cons (.ptr (.tail _ (.tail _ (.head _))) rfl) ?_ | refine zf.cons (.own (.tail _ (.tail _ (.head _))) rfl rfl rfl) ?_ | refine zf.cons (.omap (.tail _ (.tail _ (.head _))) rfl) ?_ | refine zf.cons (.ptr (.tail _ (.tail _ (.tail _ (.head _)))) rfl) ?_ | refine zf.cons (.own (.tail _ (.tail _ (.tail _ (.head _)))) rfl rfl rfl) ?_ | refine zf.cons (.omap (.tail _ (.tail _ (.tail _ (.head _)))) rfl) ?_ | refine zf.cons (.ptr (.tail _ (.tail _ (.tail _ (.tail _ (.head _))))) rfl) ?_ | refine zf.cons (.own (.tail _ (.tail _ (.tail _ (.tail _ (.head _))))) rfl rfl rfl) ?_ | refine zf.cons (.omap (.tail _ (.tail _ (.tail _ (.tail _ (.head _))))) rfl) ?_))) ?_)))
    ·have hje : j = (zy E v).length := by simp at hc; omega
     rw [hlast hje] at hTI' hend'
     clear hc hlast hst
     (repeat (first | refine FW.exit ?_))
     refine ⟨⟨qm, qh, O⟩, ⟨hTI', fu - 1, by show n < O.length + (fu - 1); omega, hend' _ (by omega)⟩, by show n - O.length < n - out.length; have := hTI'.le; dsimp only at this; omega, ?_⟩
     exact (FLe.cv [⟨101, some 101, 0, ⟨0, .own, 3, 1, O.map zp⟩⟩, ⟨100, some 100, 0, ⟨0, .own, 3, 1, qm.map zp⟩⟩, ⟨110, some 110, 0, ⟨0, .hrow, 82, 1, [[.ptr 111 0 0 0]]⟩⟩, ⟨111, some 111, 0, ⟨0, .hrow, 83, 1, [[.own 112 0 0 qh.length]]⟩⟩, ⟨112, some 112, 0, ⟨0, .own, 3, 1, qh.map zp⟩⟩] (by repeat (first | exact .nil | refine .old rfl (by decide) rfl ?_ | refine .oldH rfl (by repeat (first | exact .nil | refine .cons (.ptr (.tail _ (.tail _ (.tail _ (.head _)))) rfl) ?_ | refine .cons (.own (.tail _ (.tail _ (.tail _ (.tail _ (.head _))))) rfl rfl rfl) ?_)) ?_)) (by repeat (first | exact .nil | refine .cons (.plain rfl rfl rfl) ?_ | refine .cons (.own rfl (.head _) rfl rfl) ?_ | refine .cons (.own rfl (.tail _ (.head _)) rfl rfl) ?_ | refine .cons (.ptr rfl (.tail _ (.tail _ (.head _))) rfl) ?_ | refine .cons (.wrap rfl (by repeat (first | exact zf.nil | refine zf.cons (.plain rfl rfl) ?_ | refine zf.cons (.ptr (.head _) rfl) ?_ | refine zf.cons (.own (.head _) rfl rfl rfl) ?_ | refine zf.cons (.omap (.head _) rfl) ?_ | refine zf.cons (.ptr (.tail _ (.head _)) rfl) ?_ | refine zf.cons (.own (.tail _ (.head _)) rfl rfl rfl) ?_ | refine zf.cons (.omap (.tail _ (.head _)) rfl) ?_ | refine zf.cons (.ptr (.tail _ (.tail _ (.head _))) rfl) ?_ | refine zf.cons (.own (.tail _ (.tail _ (.head _))) rfl rfl rfl) ?_ | refine zf.cons (.omap (.tail _ (.tail _ (.head _))) rfl) ?_ | refine zf.cons (.ptr (.tail _ (.tail _ (.tail _ (.head _)))) rfl) ?_ | refine zf.cons (.own (.tail _ (.tail _ (.tail _ (.head _)))) rfl rfl rfl) ?_ | refine zf.cons (.omap (.tail _ (.tail _ (.tail _ (.head _)))) rfl) ?_ | refine zf.cons (.ptr (.tail _ (.tail _ (.tail _ (.tail _ (.head _))))) rfl) ?_ | refine zf.cons (.own (.tail _ (.tail _ (.tail _ (.tail _ (.head _))))) rfl rfl rfl) ?_ | refine zf.cons (.omap (.tail _ (.tail _ (.tail _ (.tail _ (.head _))))) rfl) ?_))) ?_)))
   ·have hh : h = [] := by
     cases h with
     | nil => rfl
     | cons x h => simp at hc
    subst hh
    clear hc
    rw [Wa E fu _ rfl] at hend
    dsimp only at hend
    subst hend
    generalize yB n E = O at hol hac
    subst hac
    (repeat (first | refine FW.seq ?_ | refine FW.region ?_ | refine FW.exit ?_ | refine zd.nil ?_ | refine zb rfl rfl rfl ?_ | refine yp rfl rfl rfl (by decide) rfl rfl ?_ | refine zN rfl rfl rfl rfl ?_))
    refine FW.cond rfl (fun hc => ?_) (fun hc => ?_)
    ·exfalso; simp at hc
    ·(repeat (first | refine FW.seq ?_ | refine FW.region ?_ | refine FW.skip ?_ | refine zd.nil ?_ | refine za rfl rfl rfl ?_ | refine zb rfl rfl rfl ?_))
     refine FW.le (s' := ⟨[(4, .own 4000 1 0 O.length), (5, .bool true)], [(4000, ⟨1, .own, 3, 1, O.map zp⟩)]⟩) ?_ (FLe.cv [⟨4000, some 101, 0, ⟨1, .own, 3, 1, O.map zp⟩⟩] (by repeat (first | exact .nil | refine .old rfl (by decide) rfl ?_)) (by repeat (first | exact .nil | refine .cons (.plain rfl rfl rfl) ?_ | refine .cons (.own rfl (.head _) rfl rfl) ?_)))
     exact FW.ret ⟨.inl rfl, _, .pair rfl rfl rfl (fun _ _ e => by cases e) (fun _ _ e => by cases e), rfl, rfl⟩
end Go.Proofs.Ytokmanfcndelfaa
