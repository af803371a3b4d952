/-
  simproofref22.History, at plain values.
-/
import Derived.Test.YtokmanfcndelfaaZD
import Derived.Test.YtokmanfcndelfaaZGenSer2
namespace Go.Proofs.Ytokmanfcndelfaa
set_option linter.unusedVariables false
open Go.RowKit

def vfv (v : List Int) : List FV := [.list 1 (v.map zp)]
def VD (t : Nat) (o : OpV) : OpV := xF.hsFix22 t o
def WS (t : Nat) (l : List OpV) (j : Nat) : List OpV := (l.map (VD t)).take j ++ l.drop j
theorem zgd (t : Nat) (l : List OpV) (j : Nat) (hj : j ≤ l.length) : (WS t l j).length = l.length := by unfold WS; simp; omega
theorem zge {t : Nat} {l : List OpV} {j : Nat} (hj : j < l.length) : nth (WS t l j) j = nth l j := by
 unfold WS
 have hl : ((l.map (VD t)).take j).length = j := by simp; omega
 rw [nth_eq (by simp; omega), nth_eq hj, List.getElem_append_right (by omega)]
 simp only [hl, List.getElem_drop]
 congr 1
 omega
theorem zeF {t : Nat} {l : List OpV} {j : Nat} (hj : j < l.length) : WS t l (j + 1) = (WS t l j).set j (VD t (nth l j)) := by
 unfold WS
 have hl : ((l.map (VD t)).take j).length = j := by simp; omega
 have hd : l.drop j = l[j] :: l.drop (j + 1) := List.drop_eq_getElem_cons hj
 rw [List.set_append_right _ _ (by omega), hl, Nat.sub_self, List.take_succ_eq_append_getElem (by simpa using hj), List.append_assoc, hd]
 simp only [List.set_cons_zero, List.getElem_map, nth_eq hj, List.singleton_append]
theorem zgc (t : Nat) (l : List OpV) : WS t l l.length = l.map (VD t) := by
 unfold WS
 rw [List.drop_length, List.append_nil, List.take_of_length_le (by simp)]
theorem zjs {L : List OpV} {k : Nat} (hk : k < L.length) (X : List FV) (o' : OpV) (hX : X = o'.fv) : ∃ L2 : List OpV, (L.map OpV.fv).set k X = L2.map OpV.fv ∧ L2.length = L.length ∧ nth L2 k = o' ∧ L2 = L.set k o' :=
 ⟨L.set k o', by rw [hX, List.map_set], by simp, by rw [nth_eq (by simpa using hk), List.getElem_set_self], rfl⟩
set_option maxHeartbeats 8000000 in
theorem zeT (most : Nat) (f : Bool) (l : List Int) (h12 : most ≤ 12) (hl : ∀ x ∈ l, I64 x) (hlen : l.length ≤ 9223372036854775807) : yc Try.prog 5 [.list 1 (l.map zp), .int .i64 most, .bool f] (.ow 37 8) (.list 8 ((xF most f l).map OpV.fv)) := by
 refine yc.of_body (c := (xB Try.prog zE zq 177)) ⟨Try.func5, rfl, Try.ntmps5, by kernel_rfl⟩ (by simp [FV.hand]) (by exact Nat.le_of_ble_eq_true rfl) rfl ?_
 change FW _ _ _ ⟨[(0, .list 1 (l.map zp)), (1, .int .i64 most), (2, .bool f)], []⟩
 (repeat (first | refine FW.seq ?_ | refine FW.region ?_ | refine zd.nil ?_ | refine za rfl rfl rfl ?_))
 refine zfm rfl rfl rfl rfl rfl rfl rfl rfl rfl ?_
 (repeat (first | refine FW.seq ?_ | refine FW.region ?_ | refine zd.nil ?_ | refine za rfl rfl rfl ?_ | refine zfV.nil ?_ | refine zfV.one rfl rfl rfl ?_))
 refine zaC (es := [[.int .i64 0]]) rfl rfl rfl (by refine xJ.int rfl rfl ?_; exact xJ.nil) rfl rfl rfl rfl rfl ?_
 refine zaC (es := [[.int .i64 0]]) rfl rfl rfl (by refine xJ.int rfl rfl ?_; exact xJ.nil) rfl rfl rfl rfl rfl ?_
 refine Yt (es := [[0], [0]].map vfv) rfl rfl rfl (by refine xJ.list rfl rfl ?_; refine xJ.list rfl rfl ?_; exact xJ.nil) rfl rfl rfl rfl rfl rfl ?_
 (repeat (first | refine FW.seq ?_ | refine FW.region ?_ | refine FW.block ?_ | refine zd.nil ?_ | refine za rfl rfl rfl ?_))
 refine FW.loop (fun i : Nat => ⟨[(0, .list 1 (l.map zp)), (1, .int .i64 most), (2, .bool f), (7, .own 101 0 0 (za4 most f l i).out.length), (8, .own 102 0 0 3), (9, .own 103 0 0 2), (10, .int .i64 (za4 most f l i).time), (11, .int .i64 i)], [(101, ⟨0, .own, 37, 8, (za4 most f l i).out.map OpV.fv⟩), (102, ⟨0, .own, 3, 1, (za4 most f l i).op.map zp⟩), (103, ⟨0, .own, 22, 1, (za4 most f l i).vs.map vfv⟩)]⟩) (fun i => i ≤ l.length) (fun i => l.length - i) 0 (Nat.zero_le _) ?_ ?_
 ·show FLe _ ⟨[(0, .list 1 (l.map zp)), (1, .int .i64 most), (2, .bool f), (7, .own 101 0 0 0), (8, .own 102 0 0 3), (9, .own 103 0 0 2), (10, .int .i64 0), (11, .int .i64 0)], [(101, ⟨0, .own, 37, 8, []⟩), (102, ⟨0, .own, 3, 1, ([-1, -1, -1] : List Int).map zp⟩), (103, ⟨0, .own, 22, 1, [[0], [0]].map vfv⟩)]⟩
  obtain ⟨Z, hZ⟩ : ∃ Z, ([-1, -1, -1] : List Int).map zp = Z := ⟨_, rfl⟩
  rw [hZ, show ([[FV.int .i64 (-1)], [FV.int .i64 (-1)], [FV.int .i64 (-1)]] : List (List FV)) = Z from hZ]
  exact (FLe.cv [⟨101, none, 0, ⟨0, .own, 37, 8, []⟩⟩, ⟨102, some 18, 0 + 1, ⟨0, .own, 3, 1, Z⟩⟩, ⟨103, some 21, 0 + 1, ⟨0, .own, 22, 1, [[0], [0]].map vfv⟩⟩] (by repeat (first | exact .nil | refine .old rfl (by decide) rfl ?_ | refine .new ?_)) (by repeat (first | exact .nil | refine .cons (.plain rfl rfl rfl) ?_ | refine .cons (.nil rfl (.head _) rfl) ?_ | refine .cons (.own rfl (.tail _ (.head _)) rfl rfl) ?_ | refine .cons (.own rfl (.tail _ (.tail _ (.head _))) rfl rfl) ?_)))
 intro i hi
 have hI := XK most f l h12 i
 have hnext : ∀ s', WM most f (nth l i) (za4 most f l i) = s' → za4 most f l (i + 1) = s' := fun s' h => h
 have hlast : i = l.length → xF most f l = (za4 most f l i).out.map (VD (za4 most f l i).time) := fun e => by subst e; rfl
 generalize za4 most f l i = s at hI hnext hlast
 have ho3 := hI.o3
 have hv2 := hI.v2
 have hli := hI.li
 have hti := hI.time
 (repeat (first | refine FW.seq ?_ | refine FW.region ?_ | refine zd.nil ?_ | refine zb rfl rfl rfl ?_ | refine zg rfl rfl (by exact List.length_map _) rfl rfl ?_ | refine zN rfl rfl rfl rfl ?_))
 refine FW.cond rfl (fun hc => ?_) (fun hc => ?_)
 ·have hlt : i < l.length := by simpa using hc
  clear hc hlast
  have hx := hl _ (zI hlt)
  obtain ⟨n, hn⟩ : ∃ n, xj (nth l i) 1000000 = n := ⟨_, rfl⟩
  have hn0 : 0 ≤ n ∧ n < 1000000 := hn ▸ ⟨Yh (by decide), Vm (by decide)⟩
  have hA := ZO (nth l i) 1000000 hx (by decide) (by decide)
  have hstep : WM most f (nth l i) s = if nth s.op (n % 3).toNat < 0 then (if most ≤ s.out.length then s else xl n (n % 3).toNat s) else xt f n (n % 3).toNat s := by unfold WM; rw [hn]
  rw [hn] at hA
  (repeat (first | refine FW.seq ?_ | refine FW.region ?_ | refine FW.block ?_ | refine FW.skip ?_ | refine zb rfl rfl rfl ?_ | refine zh rfl rfl rfl rfl rfl rfl (by simp; omega) rfl rfl ?_ | refine zA rfl rfl rfl (by simp; omega) (by first | exact zc (by omega) | rfl) rfl rfl rfl rfl ?_))
  refine zX hA (by repeat (first | exact zx.nil | refine zx.cons (by exact yI.plain rfl rfl) ?_)) rfl rfl ?_
  (repeat (first | refine FW.seq ?_ | refine FW.region ?_ | refine zd.nil ?_ | refine za rfl rfl rfl ?_ | refine zb rfl rfl rfl ?_ | refine zN rfl rfl rfl rfl ?_ | refine zG rfl rfl (by exact (Int.toNat_of_nonneg (by omega)).symm) rfl rfl rfl (by decide) rfl (by first | omega | (simp; omega)) rfl rfl ?_ | refine zm rfl rfl rfl rfl rfl (by first | omega | (simp; omega)) (by exact zc (by omega)) rfl rfl rfl rfl ?_ | refine XU rfl rfl (by omega) rfl rfl ?_))
  have hp3 : n % 3 = ((n % 3).toNat : Int) := by omega
  refine FW.cond rfl (fun hop => ?_) (fun hop => ?_)
  ·have hop : nth s.op (n % 3).toNat < 0 := by simpa using hop
   rw [if_pos hop] at hstep
   (repeat (first | refine FW.seq ?_ | refine FW.region ?_ | refine zd.nil ?_ | refine zb rfl rfl rfl ?_ | refine yp rfl rfl rfl (by decide) rfl rfl ?_ | refine Yu rfl rfl rfl rfl ?_))
   refine FW.cond rfl (fun hm => ?_) (fun hm => ?_)
   ·have hm : most ≤ s.out.length := by simpa using hm
    rw [if_pos hm] at hstep
    have hnext := hnext _ hstep
    (repeat (first | refine FW.region ?_ | refine FW.exit ?_ | refine zd.nil ?_ | refine za rfl rfl rfl ?_ | refine zb rfl rfl rfl ?_ | refine zw rfl rfl (by omega) rfl rfl ?_))
    refine ⟨i + 1, by omega, by omega, ?_⟩
    rw [hnext]
    exact (FLe.cv [⟨101, some 101, 0, ⟨0, .own, 37, 8, s.out.map OpV.fv⟩⟩, ⟨102, some 102, 0, ⟨0, .own, 3, 1, s.op.map zp⟩⟩, ⟨103, some 103, 0, ⟨0, .own, 22, 1, s.vs.map vfv⟩⟩] (by repeat (first | exact .nil | refine .old rfl (by decide) rfl ?_)) (by repeat (first | exact .nil | refine .cons (.plain rfl rfl rfl) ?_ | refine .cons (.own rfl (.head _) rfl rfl) ?_ | refine .cons (.own rfl (.tail _ (.head _)) rfl rfl) ?_ | refine .cons (.own rfl (.tail _ (.tail _ (.head _))) rfl rfl) ?_)))
   ·have hm : ¬ most ≤ s.out.length := by simp at hm; omega
    rw [if_neg hm] at hstep
    have hnext := hnext _ hstep
    (repeat (first | refine FW.seq ?_ | refine FW.region ?_ | refine FW.skip ?_ | refine zd.nil ?_ | refine zb rfl rfl rfl ?_ | refine XU rfl rfl (by omega) rfl rfl ?_ | refine zcA rfl rfl (by omega) rfl rfl ?_ | refine yA rfl rfl rfl rfl ?_ | refine yu rfl rfl rfl rfl rfl rfl rfl ?_ | refine zP rfl rfl rfl rfl rfl rfl rfl rfl rfl ?_ | refine xC rfl rfl rfl rfl ?_ | refine yO.nil ?_ | refine yO.one rfl rfl rfl rfl rfl ?_))
    refine FW.cond rfl (fun hk => ?_) (fun hk => ?_)
    ·have hk : 1 < n / 6 % 5 := by simp at hk; omega
     have H : xl n (n % 3).toNat s = ⟨s.out ++ [⟨n % 3, 2, n / 3 % 2, (s.out.length : Int) + 1, 0, s.time, 0, false⟩], s.op.set (n % 3).toNat (s.out.length : Int), s.vs, s.time + 1⟩ := by
      unfold xl ZT WL
      rw [if_pos hk, if_pos hk, ← hp3]
     rw [H] at hnext
     (repeat (first | refine FW.seq ?_ | refine FW.region ?_ | refine FW.exit ?_ | refine zd.nil ?_ | refine za rfl rfl rfl ?_ | refine xn rfl rfl rfl rfl rfl rfl rfl rfl rfl rfl ?_ | refine zb rfl rfl rfl ?_ | refine yp rfl rfl rfl (by decide) rfl rfl ?_ | refine zG rfl rfl (by first | rfl | exact (Int.toNat_of_nonneg (by omega)).symm) rfl rfl rfl (by decide) rfl (by first | omega | (simp; omega) | (simp; done)) rfl rfl ?_ | refine yL rfl rfl rfl (by decide) rfl rfl (by first | omega | (simp; omega) | (simp; done)) (by first | exact zc (by omega) | rfl) rfl rfl rfl ?_ | refine xz rfl rfl rfl rfl rfl rfl rfl rfl rfl ?_ | refine zY rfl rfl rfl rfl rfl rfl (by first | omega | (simp; omega) | (simp; done)) (by first | exact zc (by omega) | rfl) rfl rfl rfl ?_ | refine zi rfl rfl rfl rfl rfl rfl (by decide) rfl rfl ?_ | refine zw rfl rfl (by omega) rfl rfl ?_ | refine xa rfl rfl (by first | exact (List.length_map _).symm | rfl | (simp; done) | omega | (simp; omega)) rfl rfl rfl (by decide) (by exact xi.own rfl rfl (by decide) (by first | exact List.length_map _ | exact (List.length_map _).symm | exact List.length_replicate | rfl | (simp; done) | omega | (simp; omega))) (by first | omega | (simp; omega) | (simp; done)) (by first | omega | (simp; omega) | (simp; done)) rfl rfl rfl ?_))
     refine ⟨i + 1, by omega, by omega, ?_⟩
     rw [hnext]
     dsimp only
     rw [List.map_append, List.map_set, List.length_append]
     exact (FLe.cv [⟨101, some 67, 0 + 1, ⟨0, .own, 37, 8, s.out.map OpV.fv ++ [⟨n % 3, 2, n / 3 % 2, (s.out.length : Int) + 1, 0, s.time, 0, false⟩].map OpV.fv⟩⟩, ⟨102, some 102, 0, ⟨0, .own, 3, 1, (s.op.map zp).set (n % 3).toNat (zp s.out.length)⟩⟩, ⟨103, some 103, 0, ⟨0, .own, 22, 1, s.vs.map vfv⟩⟩] (by repeat (first | exact .nil | refine .old rfl (by decide) (by first | rfl | (simp; done)) ?_)) (by repeat (first | exact .nil | refine .cons (.plain rfl rfl (by first | rfl | (simp; done))) ?_ | refine .cons (.own rfl (.head _) rfl (by first | rfl | (simp; done))) ?_ | refine .cons (.own rfl (.tail _ (.head _)) rfl (by first | rfl | (simp; done))) ?_ | refine .cons (.own rfl (.tail _ (.tail _ (.head _))) rfl (by first | rfl | (simp; done))) ?_)))
    ·have hk : ¬ 1 < n / 6 % 5 := by simp at hk; omega
     have H : xl n (n % 3).toNat s = ⟨s.out ++ [⟨n % 3, 0, n / 3 % 2, 0, 0, s.time, 0, false⟩], s.op.set (n % 3).toNat (s.out.length : Int), s.vs, s.time + 1⟩ := by
      unfold xl ZT WL
      rw [if_neg hk, if_neg hk, ← hp3]
     rw [H] at hnext
     (repeat (first | refine FW.seq ?_ | refine FW.region ?_ | refine FW.skip ?_ | refine FW.exit ?_ | refine zd.nil ?_ | refine za rfl rfl rfl ?_ | refine xn rfl rfl rfl rfl rfl rfl rfl rfl rfl rfl ?_ | refine zb rfl rfl rfl ?_ | refine yp rfl rfl rfl (by decide) rfl rfl ?_ | refine zG rfl rfl (by first | rfl | exact (Int.toNat_of_nonneg (by omega)).symm) rfl rfl rfl (by decide) rfl (by first | omega | (simp; omega) | (simp; done)) rfl rfl ?_ | refine yL rfl rfl rfl (by decide) rfl rfl (by first | omega | (simp; omega) | (simp; done)) (by first | exact zc (by omega) | rfl) rfl rfl rfl ?_ | refine zY rfl rfl rfl rfl rfl rfl (by first | omega | (simp; omega) | (simp; done)) (by first | exact zc (by omega) | rfl) rfl rfl rfl ?_ | refine zw rfl rfl (by omega) rfl rfl ?_ | refine xa rfl rfl (by first | exact (List.length_map _).symm | rfl | (simp; done) | omega | (simp; omega)) rfl rfl rfl (by decide) (by exact xi.own rfl rfl (by decide) (by first | exact List.length_map _ | exact (List.length_map _).symm | exact List.length_replicate | rfl | (simp; done) | omega | (simp; omega))) (by first | omega | (simp; omega) | (simp; done)) (by first | omega | (simp; omega) | (simp; done)) rfl rfl rfl ?_))
     refine ⟨i + 1, by omega, by omega, ?_⟩
     rw [hnext]
     dsimp only
     rw [List.map_append, List.map_set, List.length_append]
     exact (FLe.cv [⟨101, some 67, 0 + 1, ⟨0, .own, 37, 8, s.out.map OpV.fv ++ [⟨n % 3, 0, n / 3 % 2, 0, 0, s.time, 0, false⟩].map OpV.fv⟩⟩, ⟨102, some 102, 0, ⟨0, .own, 3, 1, (s.op.map zp).set (n % 3).toNat (zp s.out.length)⟩⟩, ⟨103, some 103, 0, ⟨0, .own, 22, 1, s.vs.map vfv⟩⟩] (by repeat (first | exact .nil | refine .old rfl (by decide) (by first | rfl | (simp; done)) ?_)) (by repeat (first | exact .nil | refine .cons (.plain rfl rfl (by first | rfl | (simp; done))) ?_ | refine .cons (.own rfl (.head _) rfl (by first | rfl | (simp; done))) ?_ | refine .cons (.own rfl (.tail _ (.head _)) rfl (by first | rfl | (simp; done))) ?_ | refine .cons (.own rfl (.tail _ (.tail _ (.head _))) rfl (by first | rfl | (simp; done))) ?_)))
  ·have hop : ¬ nth s.op (n % 3).toNat < 0 := by simp at hop; omega
   rw [if_neg hop] at hstep
   have hnext := hnext _ hstep
   obtain ⟨k, hk⟩ : ∃ k : Nat, nth s.op (n % 3).toNat = k := ⟨(nth s.op (n % 3).toNat).toNat, by omega⟩
   obtain ⟨hkl, _, hkd⟩ := hI.opn (n % 3).toNat (by omega) (by omega)
   rw [hk, Int.toNat_natCast] at hkl hkd
   have hO := hI.ops k hkl
   obtain ⟨c, hc⟩ : ∃ c : Nat, (nth s.out k).key = c := ⟨(nth s.out k).key.toNat, by have := hO.key; omega⟩
   have hc2 : c < 2 := by have := hO.key; omega
   have hV := hI.val c hc2
   have hVl : 0 < (nth s.vs c).length := List.length_pos_iff.2 hV.ne
   have hVm := hV.len
   have hE : xt f n (n % 3).toNat s = ⟨s.out.set k { nth s.out k with res := ZU f n (nth s.vs c), ret := (s.time : Int), done := true }, s.op.set (n % 3).toNat (-1), if (nth s.out k).k = 2 then s.vs.set c (nth s.vs c ++ [(nth s.out k).arg]) else s.vs, s.time + 1⟩ := by
    unfold xt
    dsimp only
    rw [hk, Int.toNat_natCast, hc, Int.toNat_natCast]
   rw [hE] at hnext
   have hcv : c < s.vs.length := by omega
   obtain ⟨V, hVV⟩ : ∃ V, nth s.vs c = V := ⟨_, rfl⟩
   rw [hVV] at hVl hVm hnext
   obtain ⟨o, ho⟩ : ∃ o, nth s.out k = o := ⟨_, rfl⟩
   rw [ho] at hkd hO hc hnext
   have hmo : s.out.length ≤ 12 := by omega
   clear hE hstep hV hI
   have hp : (n % 3).toNat < 3 := by omega
   (repeat (first | refine FW.seq ?_ | refine FW.region ?_ | refine FW.skip ?_ | refine zd.nil ?_ | refine za rfl rfl rfl ?_ | refine zb rfl rfl rfl ?_ | refine zG rfl rfl (by exact (Int.toNat_of_nonneg (by omega)).symm) rfl rfl rfl (by decide) rfl (by first | omega | (simp; omega)) rfl rfl ?_ | refine zm rfl rfl rfl rfl rfl (by first | omega | (simp; omega)) (by exact zc (by omega)) rfl rfl rfl rfl ?_ | refine zi rfl rfl rfl rfl rfl rfl (by decide) rfl rfl ?_))
   rw [hk]
   skip
   simp only [Int.toNat_natCast]
   rw [ho, hc]
   (repeat (first | refine FW.seq ?_ | refine FW.region ?_ | refine zd.nil ?_ | refine za rfl rfl rfl ?_ | refine zb rfl rfl rfl ?_ | refine zg rfl rfl (by first | exact List.length_map _ | rfl | omega | (simp; omega)) rfl rfl ?_ | refine zG rfl rfl rfl rfl rfl rfl (by decide) rfl (by first | omega | (simp; omega)) rfl rfl ?_ | refine zm rfl rfl rfl rfl rfl (by first | omega | (simp; omega)) (by first | exact zc (by omega) | rfl) rfl rfl rfl rfl ?_))
   rw [hVV]
   (repeat (first | refine zd.nil ?_ | refine zh rfl rfl (by first | rfl | exact (Int.toNat_of_nonneg (by omega)).symm) rfl rfl rfl (by first | omega | (simp; omega)) rfl rfl ?_ | refine zG rfl rfl (by first | rfl | exact (Int.toNat_of_nonneg (by omega)).symm) rfl rfl rfl (by decide) rfl (by first | omega | (simp; omega)) rfl rfl ?_ | refine zA rfl rfl rfl (by first | omega | (simp; omega)) (by first | exact zc (by omega) | rfl) rfl rfl rfl rfl ?_ | refine zY rfl rfl rfl rfl rfl rfl (by first | omega | (simp; omega)) (by first | exact zc (by omega) | rfl) rfl rfl rfl ?_ | refine zi rfl rfl rfl rfl rfl rfl (by decide) rfl rfl ?_ | refine Yv rfl rfl (by omega) rfl rfl ?_))
   rw [show ((V.length : Int) - 1).toNat = V.length - 1 by omega]
   refine FW.seq ?_
   refine FW.join (fun _ : Unit => ⟨[(0, .list 1 (l.map zp)), (1, .int .i64 most), (2, .bool f), (7, .own 101 0 0 (s.out.set k { o with res := ZU f n V }).length), (8, .own 102 0 0 3), (9, .own 103 0 0 2), (10, .int .i64 s.time), (11, .int .i64 i), (13, .int .i64 (n % 3)), (15, .int .i64 k), (16, .list 1 (V.map zp))], [(101, ⟨0, .own, 37, 8, (s.out.set k { o with res := ZU f n V }).map OpV.fv⟩), (102, ⟨0, .own, 3, 1, s.op.map zp⟩), (103, ⟨0, .own, 22, 1, s.vs.map vfv⟩)]⟩) (fun _ => True) ?_ ?_
   ·rw [ho]
    obtain ⟨L1, e1, l1, n1, s1⟩ := zjs hkl (o.fv.set (0 + 4) (.int .i64 (nth V (V.length - 1)))) { o with res := nth V (V.length - 1) } rfl
    rw [e1]
    have hk1 : k < L1.length := by omega
    cases f with
    | false =>
     have hg : ZU false n V = nth V (V.length - 1) := by unfold ZU; rw [if_neg (by simp)]
     (repeat (first | refine FW.seq ?_ | refine FW.region ?_ | refine FW.skip ?_ | refine FW.condF rfl ?_ | refine zd.nil ?_ | refine zb rfl rfl rfl ?_ | refine zn rfl rfl rfl rfl ?_ | refine zK rfl rfl ⟨_, _, rfl, rfl, rfl⟩ ?_))
     refine ⟨rfl, (), trivial, ?_⟩
     rw [hg, ← s1, l1]
     exact (FLe.cv [⟨101, some 101, 0, ⟨0, .own, 37, 8, L1.map OpV.fv⟩⟩, ⟨102, some 102, 0, ⟨0, .own, 3, 1, s.op.map zp⟩⟩, ⟨103, some 103, 0, ⟨0, .own, 22, 1, s.vs.map vfv⟩⟩] (by repeat (first | exact .nil | refine .old rfl (by decide) rfl ?_)) (by repeat (first | exact .nil | refine .cons (.plain rfl rfl rfl) ?_ | refine .cons (.own rfl (.head _) rfl rfl) ?_ | refine .cons (.own rfl (.tail _ (.head _)) rfl rfl) ?_ | refine .cons (.own rfl (.tail _ (.tail _ (.head _))) rfl rfl) ?_)))
    | true =>
     (repeat (first | refine FW.seq ?_ | refine FW.region ?_ | refine zd.nil ?_ | refine zb rfl rfl rfl ?_ | refine zu rfl rfl rfl rfl ?_ | refine zb rfl rfl ⟨_, _, rfl, rfl, rfl⟩ ?_ | refine zcA rfl rfl (by omega) rfl ⟨_, _, rfl, rfl, rfl⟩ ?_ | refine XU rfl rfl (by omega) rfl ⟨_, _, rfl, rfl, rfl⟩ ?_ | refine zU rfl rfl rfl ⟨_, _, rfl, rfl, rfl⟩ ?_))
     refine FW.cond rfl (fun hf => ?_) (fun hf => ?_)
     ·have hf : n / 3 % 4 = 0 := by simpa using hf
      (repeat (first | refine FW.seq ?_ | refine FW.region ?_ | refine zb rfl rfl rfl ?_ | refine zg rfl rfl (by exact List.length_map _) rfl rfl ?_ | refine XU rfl rfl (by omega) rfl rfl ?_ | refine zcA rfl rfl (by omega) rfl rfl ?_))
      obtain ⟨q, hq⟩ : ∃ q : Nat, n / 12 % (V.length : Int) = q := ⟨(n / 12 % (V.length : Int)).toNat, by have := Int.emod_nonneg (n / 12) (show (V.length : Int) ≠ 0 by omega); omega⟩
      have hq2 : q < V.length := by have := Int.emod_lt_of_pos (n / 12) (show (0 : Int) < (V.length : Int) by omega); omega
      rw [hq]
      (repeat (first | refine zd.nil ?_ | refine zh rfl rfl rfl rfl rfl rfl (by first | omega | (simp; omega)) rfl rfl ?_ | refine zG rfl rfl rfl rfl rfl rfl (by decide) rfl (by first | omega | (simp; omega)) rfl rfl ?_ | refine zA rfl rfl rfl (by first | omega | (simp; omega)) (by first | exact zc (by omega) | rfl) rfl rfl rfl rfl ?_ | refine zY rfl rfl rfl rfl rfl rfl (by first | omega | (simp; omega)) (by first | exact zc (by omega) | rfl) rfl rfl rfl ?_ | refine zi rfl rfl rfl rfl rfl rfl (by decide) rfl rfl ?_))
      obtain ⟨L2, e2, l2, n2, s2⟩ := zjs hk1 ((nth L1 k).fv.set (0 + 4) (.int .i64 (nth V q))) { nth L1 k with res := nth V q } rfl
      rw [e2]
      rw [n1, s1, List.set_set] at s2
      rw [n1] at n2
      have hk2 : k < L2.length := by omega
      (repeat (first | refine FW.seq ?_ | refine FW.region ?_ | refine zd.nil ?_ | refine zb rfl rfl rfl ?_ | refine XU rfl rfl (by omega) rfl rfl ?_ | refine zcA rfl rfl (by omega) rfl rfl ?_ | refine zU rfl rfl rfl rfl ?_))
      refine FW.cond rfl (fun h12 => ?_) (fun h12 => ?_)
      ·have h12 : n / 12 % 13 = 12 := by simpa using h12
       have hg : ZU true n V = n / 156 % 9 := by unfold ZU; rw [if_pos ⟨rfl, hf⟩, if_pos h12]
       (repeat (first | refine FW.region ?_ | refine zd.nil ?_ | refine zb rfl rfl rfl ?_ | refine zG rfl rfl rfl rfl rfl rfl (by decide) rfl (by first | omega | (simp; omega)) rfl rfl ?_ | refine XU rfl rfl (by omega) rfl rfl ?_ | refine zcA rfl rfl (by omega) rfl rfl ?_ | refine zY rfl rfl rfl rfl rfl rfl (by first | omega | (simp; omega)) (by first | exact zc (by omega) | rfl) rfl rfl rfl ?_ | refine zi rfl rfl rfl rfl rfl rfl (by decide) rfl rfl ?_))
       obtain ⟨L3, e3, l3, n3, s3⟩ := zjs hk2 ((nth L2 k).fv.set (0 + 4) (.int .i64 (n / 156 % 9))) { nth L2 k with res := n / 156 % 9 } rfl
       refine ⟨rfl, (), trivial, ?_⟩
       rw [e3]
       rw [n2, s2, List.set_set] at s3
       rw [hg, show s.out.set k { o with res := n / 156 % 9 } = L3 from s3.symm, l3, l2, l1]
       exact (FLe.cv [⟨101, some 101, 0, ⟨0, .own, 37, 8, L3.map OpV.fv⟩⟩, ⟨102, some 102, 0, ⟨0, .own, 3, 1, s.op.map zp⟩⟩, ⟨103, some 103, 0, ⟨0, .own, 22, 1, s.vs.map vfv⟩⟩] (by repeat (first | exact .nil | refine .old rfl (by decide) rfl ?_)) (by repeat (first | exact .nil | refine .cons (.plain rfl rfl rfl) ?_ | refine .cons (.own rfl (.head _) rfl rfl) ?_ | refine .cons (.own rfl (.tail _ (.head _)) rfl rfl) ?_ | refine .cons (.own rfl (.tail _ (.tail _ (.head _))) rfl rfl) ?_)))
      ·have h12 : ¬ n / 12 % 13 = 12 := by simpa using h12
       have hg : ZU true n V = nth V q := by unfold ZU; rw [if_pos ⟨rfl, hf⟩, if_neg h12, hq, Int.toNat_natCast]
       (repeat (first | refine FW.skip ?_))
       refine ⟨rfl, (), trivial, ?_⟩
       rw [hg, show s.out.set k { o with res := nth V q } = L2 from s2.symm, l2, l1]
       exact (FLe.cv [⟨101, some 101, 0, ⟨0, .own, 37, 8, L2.map OpV.fv⟩⟩, ⟨102, some 102, 0, ⟨0, .own, 3, 1, s.op.map zp⟩⟩, ⟨103, some 103, 0, ⟨0, .own, 22, 1, s.vs.map vfv⟩⟩] (by repeat (first | exact .nil | refine .old rfl (by decide) rfl ?_)) (by repeat (first | exact .nil | refine .cons (.plain rfl rfl rfl) ?_ | refine .cons (.own rfl (.head _) rfl rfl) ?_ | refine .cons (.own rfl (.tail _ (.head _)) rfl rfl) ?_ | refine .cons (.own rfl (.tail _ (.tail _ (.head _))) rfl rfl) ?_)))
     ·have hf : ¬ n / 3 % 4 = 0 := by simpa using hf
      have hg : ZU true n V = nth V (V.length - 1) := by unfold ZU; rw [if_neg (by simp [hf])]
      (repeat (first | refine FW.skip ?_))
      refine ⟨rfl, (), trivial, ?_⟩
      rw [hg, ← s1, l1]
      exact (FLe.cv [⟨101, some 101, 0, ⟨0, .own, 37, 8, L1.map OpV.fv⟩⟩, ⟨102, some 102, 0, ⟨0, .own, 3, 1, s.op.map zp⟩⟩, ⟨103, some 103, 0, ⟨0, .own, 22, 1, s.vs.map vfv⟩⟩] (by repeat (first | exact .nil | refine .old rfl (by decide) rfl ?_)) (by repeat (first | exact .nil | refine .cons (.plain rfl rfl rfl) ?_ | refine .cons (.own rfl (.head _) rfl rfl) ?_ | refine .cons (.own rfl (.tail _ (.head _)) rfl rfl) ?_ | refine .cons (.own rfl (.tail _ (.tail _ (.head _))) rfl rfl) ?_)))
   ·rintro _ _
    obtain ⟨r, hr⟩ : ∃ r, ZU f n V = r := ⟨_, rfl⟩
    rw [hr] at hnext ⊢
    obtain ⟨L, hL⟩ : ∃ L, (s.out.set k { o with res := r }) = L := ⟨_, rfl⟩
    have hLl : L.length = s.out.length := by rw [← hL]; simp
    have hkL : k < L.length := by omega
    have hLk : nth L k = { o with res := r } := by rw [← hL, nth_eq (by simpa using hkl), List.getElem_set_self]
    rw [hL]
    refine FW.seq ?_
    refine FW.join (fun _ : Unit => ⟨[(0, .list 1 (l.map zp)), (1, .int .i64 most), (2, .bool f), (7, .own 101 0 0 L.length), (8, .own 102 0 0 3), (9, .own 103 0 0 2), (10, .int .i64 s.time), (11, .int .i64 i), (13, .int .i64 (n % 3)), (15, .int .i64 k)], [(101, ⟨0, .own, 37, 8, L.map OpV.fv⟩), (102, ⟨0, .own, 3, 1, s.op.map zp⟩), (103, ⟨0, .own, 22, 1, (if o.k = 2 then s.vs.set c (V ++ [o.arg]) else s.vs).map vfv⟩)]⟩) (fun _ => True) ?_ ?_
    ·(repeat (first | refine FW.seq ?_ | refine FW.region ?_ | refine zd.nil ?_ | refine zb rfl rfl rfl ?_ | refine zG rfl rfl rfl rfl rfl rfl (by decide) rfl (by first | omega | (simp; omega)) rfl rfl ?_ | refine zm rfl rfl rfl rfl rfl (by first | omega | (simp; omega)) (by first | exact zc (by omega) | rfl) rfl rfl rfl rfl ?_ | refine zi rfl rfl rfl rfl rfl rfl (by decide) rfl rfl ?_ | refine zU rfl rfl rfl rfl ?_))
     rw [hLk]
     skip
     refine FW.cond rfl (fun hk2 => ?_) (fun hk2 => ?_)
     ·have hk2 : o.k = 2 := by simpa using hk2
      (repeat (first | refine FW.draw ?_ | refine zfc rfl rfl rfl rfl rfl rfl ?_ | refine zD rfl rfl rfl ?_ | refine xV rfl rfl rfl rfl rfl rfl (by decide) rfl (by first | omega | (simp; omega)) rfl rfl ?_ | refine xq rfl rfl rfl rfl rfl (by first | omega | (simp; omega)) (by first | exact zc (by omega) | rfl) rfl rfl rfl rfl ?_ | refine yT rfl rfl rfl rfl rfl rfl (by decide) rfl rfl ?_))
      rw [hLk]
      dsimp only
      rw [hc]
      refine zjj ?_
      refine Ws rfl rfl (by first | exact List.length_map _ | exact (List.length_map _).symm | exact List.length_replicate | rfl | (simp; done) | omega | (simp; omega)) rfl rfl rfl (by decide) (by first | exact xi.own rfl rfl (by decide) (by first | exact List.length_map _ | exact (List.length_map _).symm | exact List.length_replicate | rfl | (simp; done) | omega | (simp; omega)) | exact xi.list rfl | exact xi.nil rfl | exact xi.part rfl rfl (by decide)) (by first | omega | (simp; omega) | (simp; done)) (by first | omega | (simp; omega) | (simp; done)) rfl rfl rfl ?_
      (repeat (first | refine YO rfl rfl rfl rfl rfl rfl rfl rfl ?_ | refine zD rfl rfl rfl ?_ | refine xV rfl rfl rfl rfl rfl rfl (by decide) rfl (by first | omega | (simp; omega) | (simp; done)) rfl rfl ?_ | refine xq rfl rfl rfl rfl rfl (by first | omega | (simp; omega) | (simp; done)) (by first | exact zc (by omega) | rfl) rfl rfl rfl rfl ?_ | refine yT rfl rfl rfl rfl rfl rfl (by decide) rfl rfl ?_))
      rw [hLk]
      dsimp only
      refine zjj ?_
      refine zhX rfl rfl (by first | exact List.length_map _ | exact (List.length_map _).symm | exact List.length_replicate | rfl | (simp; done) | omega | (simp; omega)) rfl rfl rfl (by decide) (by first | exact xi.own rfl rfl (by decide) (by first | exact List.length_map _ | exact (List.length_map _).symm | exact List.length_replicate | rfl | (simp; done) | omega | (simp; omega)) | exact xi.list rfl | exact xi.nil rfl | exact xi.part rfl rfl (by decide)) (by first | omega | (simp; omega) | (simp; done)) (by first | omega | (simp; omega) | (simp; done)) rfl rfl rfl ?_
      (repeat (first | refine zL.nil ?_ | refine xV rfl rfl rfl rfl rfl rfl (by decide) rfl (by first | omega | (simp; omega)) rfl rfl ?_ | refine Ui rfl rfl rfl rfl rfl rfl (by first | omega | (simp; omega)) (by first | exact zc (by omega) | rfl) rfl rfl rfl ?_))
      refine ⟨by kernel_rfl, ?_⟩
      skip
      refine ⟨rfl, (), trivial, ?_⟩
      rw [if_pos hk2, List.map_set, show ([] ++ List.map zp V ++ [[FV.int IntKind.i64 o.arg]]) = (V ++ [o.arg]).map zp by rw [List.nil_append, List.map_append]; rfl]
      exact (FLe.cv [⟨101, some 101, 0, ⟨0, .own, 37, 8, L.map OpV.fv⟩⟩, ⟨102, some 102, 0, ⟨0, .own, 3, 1, s.op.map zp⟩⟩, ⟨103, some 103, 0, ⟨0, .own, 22, 1, (s.vs.map vfv).set c (vfv (V ++ [o.arg]))⟩⟩] (by repeat (first | exact .nil | refine .old rfl (by decide) rfl ?_)) (by repeat (first | exact .nil | refine .cons (.plain rfl rfl rfl) ?_ | refine .cons (.own rfl (.head _) rfl rfl) ?_ | refine .cons (.own rfl (.tail _ (.head _)) rfl rfl) ?_ | refine .cons (.own rfl (.tail _ (.tail _ (.head _))) rfl rfl) ?_)))
     ·have hk2 : ¬ o.k = 2 := by simpa using hk2
      (repeat (first | refine FW.skip ?_))
      refine ⟨rfl, (), trivial, ?_⟩
      show FLe _ _
      rw [if_neg hk2]
      exact (FLe.cv [⟨101, some 101, 0, ⟨0, .own, 37, 8, L.map OpV.fv⟩⟩, ⟨102, some 102, 0, ⟨0, .own, 3, 1, s.op.map zp⟩⟩, ⟨103, some 103, 0, ⟨0, .own, 22, 1, s.vs.map vfv⟩⟩] (by repeat (first | exact .nil | refine .old rfl (by decide) rfl ?_)) (by repeat (first | exact .nil | refine .cons (.plain rfl rfl rfl) ?_ | refine .cons (.own rfl (.head _) rfl rfl) ?_ | refine .cons (.own rfl (.tail _ (.head _)) rfl rfl) ?_ | refine .cons (.own rfl (.tail _ (.tail _ (.head _))) rfl rfl) ?_)))
    ·rintro _ _
     obtain ⟨W, hW⟩ : ∃ W, (if o.k = 2 then s.vs.set c (V ++ [o.arg]) else s.vs) = W := ⟨_, rfl⟩
     have hWl : W.length = 2 := by rw [← hW]; split <;> simp [hv2]
     rw [hW] at hnext ⊢
     refine FW.seq ?_
     refine FW.region ?_
     (repeat (first | refine zd.nil ?_ | refine zb rfl rfl rfl ?_ | refine zG rfl rfl rfl rfl rfl rfl (by decide) rfl (by first | omega | (simp; omega)) rfl rfl ?_ | refine zY rfl rfl rfl rfl rfl rfl (by first | omega | (simp; omega)) (by first | exact zc (by omega) | rfl) rfl rfl rfl ?_ | refine zi rfl rfl rfl rfl rfl rfl (by decide) rfl rfl ?_))
     obtain ⟨L4, e4, l4, n4, s4⟩ := zjs hkL ((nth L k).fv.set (0 + 7) (.bool true)) { nth L k with done := true } rfl
     rw [e4]
     have hk4 : k < L4.length := by omega
     refine FW.seq ?_
     refine FW.region ?_
     (repeat (first | refine zd.nil ?_ | refine zb rfl rfl rfl ?_ | refine zG rfl rfl rfl rfl rfl rfl (by decide) rfl (by first | omega | (simp; omega)) rfl rfl ?_ | refine zY rfl rfl rfl rfl rfl rfl (by first | omega | (simp; omega)) (by first | exact zc (by omega) | rfl) rfl rfl rfl ?_ | refine zi rfl rfl rfl rfl rfl rfl (by decide) rfl rfl ?_))
     obtain ⟨L5, e5, l5, n5, s5⟩ := zjs hk4 ((nth L4 k).fv.set (0 + 6) (.int .i64 s.time)) { nth L4 k with ret := (s.time : Int) } rfl
     rw [e5]
     (repeat (first | refine FW.seq ?_ | refine FW.region ?_ | refine zd.nil ?_ | refine za rfl rfl rfl ?_ | refine zb rfl rfl rfl ?_ | refine zG rfl rfl (by exact (Int.toNat_of_nonneg (by omega)).symm) rfl rfl rfl (by decide) rfl (by first | omega | (simp; omega)) rfl rfl ?_ | refine zY rfl rfl rfl rfl rfl rfl (by first | omega | (simp; omega)) (by exact zc (by omega)) rfl rfl rfl ?_ | refine zw rfl rfl (by omega) rfl rfl ?_))
     refine ⟨i + 1, by omega, by omega, ?_⟩
     have hL5 : L5 = s.out.set k { o with res := r, ret := (s.time : Int), done := true } := by
      rw [s5, n4, s4, hLk, ← hL]; simp only [List.set_set]
     rw [hnext]
     dsimp only
     rw [← hL5, List.map_set, l5, l4]
     exact (FLe.cv [⟨101, some 101, 0, ⟨0, .own, 37, 8, L5.map OpV.fv⟩⟩, ⟨102, some 102, 0, ⟨0, .own, 3, 1, (s.op.map zp).set (n % 3).toNat (zp (-1))⟩⟩, ⟨103, some 103, 0, ⟨0, .own, 22, 1, W.map vfv⟩⟩] (by repeat (first | exact .nil | refine .old rfl (by decide) rfl ?_)) (by repeat (first | exact .nil | refine .cons (.plain rfl rfl rfl) ?_ | refine .cons (.own rfl (.head _) rfl rfl) ?_ | refine .cons (.own rfl (.tail _ (.head _)) rfl rfl) ?_ | refine .cons (.own rfl (.tail _ (.tail _ (.head _))) rfl rfl) ?_)))
 ·have : i = l.length := by simp at hc; omega
  rw [hlast this]
  obtain ⟨tm, htm⟩ : ∃ tm, s.time = tm := ⟨_, rfl⟩
  obtain ⟨L, hL⟩ : ∃ L, s.out = L := ⟨_, rfl⟩
  rw [htm, hL]
  rw [hL] at hli
  rw [htm] at hti
  clear hI hnext hlast ho3 hv2 htm hL hc
  (repeat (first | refine FW.seq ?_ | refine FW.region ?_ | refine FW.block ?_ | refine FW.exit ?_ | refine zd.nil ?_ | refine za rfl rfl rfl ?_))
  refine FW.loop (fun j : Nat => ⟨[(7, .own 101 0 0 L.length), (10, .int .i64 tm), (17, .int .i64 j)], [(101, ⟨0, .own, 37, 8, (WS tm L j).map OpV.fv⟩)]⟩) (fun j => j ≤ L.length) (fun j => L.length - j) 0 (Nat.zero_le _) ?_ ?_
  ·show FLe _ ⟨[(7, .own 101 0 0 L.length), (10, .int .i64 tm), (17, .int .i64 0)], [(101, ⟨0, .own, 37, 8, L.map OpV.fv⟩)]⟩
   exact (FLe.cv [⟨101, some 101, 0, ⟨0, .own, 37, 8, L.map OpV.fv⟩⟩] (by repeat (first | exact .nil | refine .old rfl (by decide) rfl ?_)) (by repeat (first | exact .nil | refine .cons (.plain rfl rfl rfl) ?_ | refine .cons (.own rfl (.head _) rfl rfl) ?_)))
  intro j hj
  have hfl := zgd tm L j hj
  have hfn := fun h => zge (t := tm) (l := L) (j := j) h
  have hfs := fun h => zeF (t := tm) (l := L) (j := j) h
  have hfa : j = L.length → WS tm L j = L.map (VD tm) := fun e => by rw [e]; exact zgc tm L
  generalize WS tm L j = F at hfl hfn hfs hfa
  (repeat (first | refine FW.seq ?_ | refine FW.region ?_ | refine zd.nil ?_ | refine zb rfl rfl rfl ?_ | refine yp rfl rfl rfl (by decide) rfl rfl ?_ | refine zN rfl rfl rfl rfl ?_))
  refine FW.cond rfl (fun hc => ?_) (fun hc => ?_)
  ·have hlt : j < L.length := by simpa using hc
   have hfn := hfn hlt
   have hfs := hfs hlt
   have hjF : j < F.length := by omega
   clear hc hfa
   (repeat (first | refine FW.seq ?_ | refine FW.region ?_ | refine FW.block ?_ | refine FW.skip ?_ | refine zd.nil ?_ | refine zb rfl rfl rfl ?_ | refine zG rfl rfl rfl rfl rfl rfl (by decide) rfl (by first | omega | (simp; omega)) rfl rfl ?_ | refine zm rfl rfl rfl rfl rfl (by first | omega | (simp; omega)) (by first | exact zc (by omega) | rfl) rfl rfl rfl rfl ?_ | refine zi rfl rfl rfl rfl rfl rfl (by decide) rfl rfl ?_ | refine xd rfl rfl rfl ?_))
   rw [hfn]
   skip
   cases hd : (nth L j).done with
   | true =>
    have e : VD tm (nth L j) = nth L j := by unfold VD xF.hsFix22; rw [if_pos hd]
    have e2 : F.set j (nth L j) = F := by rw [← hfn, nth_eq hjF, List.set_getElem_self]
    rw [e, e2] at hfs
    (repeat (first | refine FW.region ?_ | refine FW.skip ?_ | refine FW.condF rfl ?_ | refine zd.nil ?_ | refine za rfl rfl rfl ?_ | refine zb rfl rfl rfl ?_ | refine zw rfl rfl (by omega) rfl rfl ?_))
    refine ⟨j + 1, by omega, by omega, ?_⟩
    rw [hfs]
    exact (FLe.cv [⟨101, some 101, 0, ⟨0, .own, 37, 8, F.map OpV.fv⟩⟩] (by repeat (first | exact .nil | refine .old rfl (by decide) rfl ?_)) (by repeat (first | exact .nil | refine .cons (.plain rfl rfl rfl) ?_ | refine .cons (.own rfl (.head _) rfl rfl) ?_)))
   | false =>
    have e : VD tm (nth L j) = { nth L j with ret := (tm : Int) } := by unfold VD xF.hsFix22; rw [if_neg (by rw [hd]; decide)]
    rw [e, ← hfn] at hfs
    (repeat (first | refine FW.region ?_ | refine FW.condT rfl ?_ | refine zd.nil ?_ | refine za rfl rfl rfl ?_ | refine zb rfl rfl rfl ?_ | refine zG rfl rfl rfl rfl rfl rfl (by decide) rfl (by first | omega | (simp; omega)) rfl rfl ?_ | refine zY rfl rfl rfl rfl rfl rfl (by first | omega | (simp; omega)) (by first | exact zc (by omega) | rfl) rfl rfl rfl ?_ | refine zi rfl rfl rfl rfl rfl rfl (by decide) rfl rfl ?_ | refine zw rfl rfl (by omega) rfl rfl ?_))
    refine ⟨j + 1, by omega, by omega, ?_⟩
    rw [hfs, List.map_set]
    exact (FLe.cv [⟨101, some 101, 0, ⟨0, .own, 37, 8, (F.map OpV.fv).set j (OpV.fv { nth F j with ret := (tm : Int) })⟩⟩] (by repeat (first | exact .nil | refine .old rfl (by decide) rfl ?_)) (by repeat (first | exact .nil | refine .cons (.plain rfl rfl rfl) ?_ | refine .cons (.own rfl (.head _) rfl rfl) ?_)))
  ·have : j = L.length := by simp at hc; omega
   rw [hfa this]
   (repeat (first | refine FW.seq ?_ | refine FW.region ?_ | refine FW.exit ?_ | refine zd.nil ?_ | refine za rfl rfl rfl ?_ | refine zb rfl rfl rfl ?_))
   exact FW.ret ⟨.inl rfl, Ul rfl rfl rfl (by simp) (by decide) rfl (opT.flatsM _)⟩
end Go.Proofs.Ytokmanfcndelfaa
