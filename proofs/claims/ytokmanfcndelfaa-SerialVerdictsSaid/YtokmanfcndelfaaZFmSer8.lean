/-
  The reference's dependencies: simproofref22.Included, why, Edges, SameEdges.
-/
import Derived.Test.YtokmanfcndelfaaZFmSer6
import Derived.Test.YtokmanfcndelfaaZG
namespace Go.Proofs.Ytokmanfcndelfaa
set_option linter.unusedVariables false
open Go.RowKit

set_option maxHeartbeats 1000000 in
theorem YN (o : OpV) : yc Try.prog 22 [.agg o.fv] .fr (.bool (zV o)) := by
 refine yc.of_body (c := (xB Try.prog zE zq 15)) ⟨Try.func22, rfl, Try.ntmps22, by kernel_rfl⟩ (by simp [FV.hand]) (by exact Nat.le_of_ble_eq_true rfl) rfl ?_
 change FW _ _ _ ⟨[(0, .agg o.fv)], []⟩
 (repeat (first | refine FW.seq ?_ | refine FW.region ?_ | refine zd.nil ?_ | refine Un rfl rfl rfl rfl rfl rfl rfl ?_ | refine za rfl rfl rfl ?_ | refine zi rfl rfl rfl rfl rfl rfl (by decide) rfl rfl ?_ | refine zm rfl rfl rfl rfl rfl (by first | omega | (simp; omega) | (simp; done)) (by first | exact zc (by omega) | rfl) rfl rfl rfl rfl ?_ | refine zb rfl rfl rfl ?_))
 refine zO (fun h1 => ?_) (fun h1 => ?_)
 ·(repeat (first | refine zi rfl rfl rfl rfl rfl rfl (by decide) rfl ⟨_, _, rfl, rfl, rfl⟩ ?_ | refine zm rfl rfl rfl rfl rfl (by first | omega | (simp; omega) | (simp; done)) (by first | exact zc (by omega) | rfl) rfl rfl rfl ⟨_, _, rfl, rfl, rfl⟩ ?_ | refine zU rfl rfl rfl ⟨_, _, rfl, rfl, rfl⟩ ?_ | refine zb rfl rfl ⟨_, _, rfl, rfl, rfl⟩ ?_))
  refine zO (fun h2 => ?_) (fun h2 => ?_)
  ·(repeat (first | refine zd.nil ?_ | refine za rfl rfl rfl ?_ | refine zu rfl rfl rfl rfl ?_ | refine zu rfl rfl rfl ⟨_, _, rfl, rfl, rfl⟩ ?_ | refine zK rfl rfl ⟨_, _, rfl, rfl, rfl⟩ ?_))
   refine FW.ret ⟨.inl rfl, zj rfl rfl ?_ rfl⟩
   simp at h1 h2
   simp [zV, h1, h2]; rfl
  ·(repeat (first | refine zd.nil ?_ | refine za rfl rfl rfl ?_ | refine zu rfl rfl rfl rfl ?_ | refine zi rfl rfl rfl rfl rfl rfl (by decide) rfl ⟨_, _, rfl, rfl, rfl⟩ ?_ | refine zm rfl rfl rfl rfl rfl (by first | omega | (simp; omega) | (simp; done)) (by first | exact zc (by omega) | rfl) rfl rfl rfl ⟨_, _, rfl, rfl, rfl⟩ ?_ | refine zU rfl rfl rfl ⟨_, _, rfl, rfl, rfl⟩ ?_ | refine zn rfl rfl rfl ⟨_, _, rfl, rfl, rfl⟩ ?_))
   refine FW.ret ⟨.inl rfl, zj rfl rfl ?_ rfl⟩
   simp at h1 h2
   simp [zV, h1, h2]; rfl
 ·(repeat (first | refine zd.nil ?_ | refine za rfl rfl rfl ?_ | refine zn rfl rfl rfl rfl ?_ | refine zK rfl rfl ⟨_, _, rfl, rfl, rfl⟩ ?_))
  refine FW.ret ⟨.inl rfl, zj rfl rfl ?_ rfl⟩
  simp [zV, h1]; rfl
def zjr (X Y : List EdV) (j : Nat) : Prop := ∀ i, i < j → nth X i = nth Y i
set_option maxHeartbeats 2000000 in
theorem zad (X Y : List EdV) (hX : X.length ≤ 1000000000) (hY : Y.length ≤ 1000000000) : yc Try.prog 29 [.list 3 (X.map EdV.fv), .list 3 (Y.map EdV.fv)] .fr (.bool (decide (X = Y))) := by
 refine yc.of_body (c := (xB Try.prog zE zq 26)) ⟨Try.func29, rfl, Try.ntmps29, by kernel_rfl⟩ (by simp [FV.hand]) (by exact Nat.le_of_ble_eq_true rfl) rfl ?_
 change FW _ _ _ ⟨[(0, .list 3 (X.map EdV.fv)), (1, .list 3 (Y.map EdV.fv))], []⟩
 (repeat (first | refine FW.seq ?_ | refine FW.region ?_ | refine zd.nil ?_ | refine za rfl rfl rfl ?_ | refine zb rfl rfl rfl ?_ | refine zg rfl rfl (by first | exact List.length_map _ | exact (List.length_map _).symm | exact List.length_replicate | rfl | (simp; done) | omega | (simp; omega)) rfl rfl ?_ | refine Za rfl rfl rfl rfl ?_))
 refine FW.cond rfl (fun h => ?_) (fun h => ?_)
 ·(repeat (first | refine FW.seq ?_ | refine FW.region ?_ | refine zd.nil ?_ | refine za rfl rfl rfl ?_))
  refine FW.ret ⟨.inl rfl, zj rfl rfl ?_ rfl⟩
  have : X ≠ Y := by rintro rfl; simp at h
  rw [decide_eq_false this]; rfl
 ·have hl : X.length = Y.length := by simp at h; omega
  clear h
  (repeat (first | refine FW.seq ?_ | refine FW.region ?_ | refine FW.block ?_ | refine FW.skip ?_ | refine zd.nil ?_ | refine za rfl rfl rfl ?_))
  refine FW.loop (fun j : Nat => ⟨[(0, .list 3 (X.map EdV.fv)), (1, .list 3 (Y.map EdV.fv)), (5, .int .i64 j)], []⟩) (fun j => j ≤ X.length ∧ zjr X Y j) (fun j => X.length - j) 0 ⟨Nat.zero_le _, fun i hi => absurd hi (Nat.not_lt_zero _)⟩ ?_ ?_
  ·show FLe _ ⟨[(0, .list 3 (X.map EdV.fv)), (1, .list 3 (Y.map EdV.fv)), (5, .int .i64 0)], []⟩
   exact (FLe.cv [] (by repeat (first | exact .nil)) (by repeat (first | exact .nil | refine .cons (.plain rfl rfl (by first | rfl | (simp; done) | (congr 1; omega) | (simp; omega) | (simp [List.take_of_length_le]; done) | (refine congrArg (FV.int .i64) ?_; omega))) ?_)))
  rintro j ⟨hj, hs⟩
  (repeat (first | refine FW.seq ?_ | refine FW.region ?_ | refine zd.nil ?_ | refine zb rfl rfl rfl ?_ | refine zg rfl rfl (by first | exact List.length_map _ | exact (List.length_map _).symm | exact List.length_replicate | rfl | (simp; done) | omega | (simp; omega)) rfl rfl ?_ | refine zN rfl rfl rfl rfl ?_))
  refine FW.cond rfl (fun hc => ?_) (fun hc => ?_)
  ·have hlt : j < X.length := by simpa using hc
   (repeat (first | refine FW.seq ?_ | refine FW.block ?_ | refine FW.skip ?_ | refine FW.draw ?_ | refine zD rfl rfl rfl ?_ | refine zJ rfl rfl (by first | rfl | exact (Int.toNat_of_nonneg (by omega)).symm) rfl rfl rfl (by first | omega | (simp; omega) | (simp; done)) rfl rfl ?_ | refine Ys rfl rfl rfl (by decide) (by first | omega | (simp; omega) | (simp; done)) (by first | exact zc (by omega) | rfl) rfl rfl rfl ?_))
   refine zjl rfl rfl rfl rfl (zdS (nth X j) (nth Y j)) rfl rfl ?_
   (repeat (first | refine zL.nil ?_))
   refine ⟨by kernel_rfl, ?_⟩
   skip
   refine FW.cond rfl (fun h => ?_) (fun h => ?_)
   ·(repeat (first | refine FW.seq ?_ | refine FW.region ?_ | refine zd.nil ?_ | refine za rfl rfl rfl ?_))
    refine FW.ret ⟨.inl rfl, zj rfl rfl ?_ rfl⟩
    have : X ≠ Y := by rintro rfl; simp at h
    rw [decide_eq_false this]; rfl
   ·have h : nth X j = nth Y j := by simpa using h
    (repeat (first | refine FW.region ?_ | refine FW.skip ?_ | refine zd.nil ?_ | refine za rfl rfl rfl ?_ | refine zb rfl rfl rfl ?_ | refine zw rfl rfl (by omega) rfl rfl ?_))
    refine ⟨j + 1, ⟨by omega, fun i hi => ?_⟩, by omega, ?_⟩
    ·rcases Nat.lt_succ_iff_lt_or_eq.1 hi with h' | rfl
     ·exact hs i h'
     ·exact h
    ·exact (FLe.cv [] (by repeat (first | exact .nil)) (by repeat (first | exact .nil | refine .cons (.plain rfl rfl (by first | rfl | (simp; done) | (congr 1; omega) | (simp; omega) | (simp [List.take_of_length_le]; done) | (refine congrArg (FV.int .i64) ?_; omega))) ?_)))
  ·have e : j = X.length := by simp at hc; omega
   subst e
   (repeat (first | refine FW.seq ?_ | refine FW.region ?_ | refine FW.exit ?_ | refine zd.nil ?_ | refine za rfl rfl rfl ?_))
   refine FW.ret ⟨.inl rfl, zj rfl rfl ?_ rfl⟩
   have : X = Y := List.ext_getElem hl fun i h1 h2 => by have := hs i h1; rwa [nth_eq h1, nth_eq h2] at this
   rw [decide_eq_true this]; rfl
set_option maxHeartbeats 4000000 in
theorem zck (l : List OpV) (s : Bool) (i k : Nat) (hi : i < l.length) (hk : k < l.length) (hl : l.length ≤ 1000000000) : yc Try.prog 27 [.list 8 (l.map OpV.fv), .int .i64 i, .int .i64 k, .bool s] (.ow 3 1) (.list 1 ((xK l s i k).map zp)) := by
 obtain ⟨a, ha⟩ : ∃ a, nth l i = a := ⟨_, rfl⟩
 obtain ⟨b, hb⟩ : ∃ b, nth l k = b := ⟨_, rfl⟩
 have hbs := zab l i k hl
 rw [zf2 hi hk] at hbs
 have hIa := YN a
 have hIb := YN b
 have hw : xK l s i k = if (zV a && zV b) = true then xU (yN a b 0) 2 ++ (xU (yN a b 2) 3 ++ (xU (ZX i k a b) 4 ++ xU (s && bef l i k) 5)) else [] := by unfold xK zih; rw [ha, hb]
 rw [hw]
 clear hw
 obtain ⟨bf, hbf⟩ : ∃ q, bef l i k = q := ⟨_, rfl⟩
 rw [hbf] at hbs ⊢
 refine yc.of_body (c := (xB Try.prog zE zq 100)) ⟨Try.func27, rfl, Try.ntmps27, by kernel_rfl⟩ (by simp [FV.hand]) (by exact Nat.le_of_ble_eq_true rfl) rfl ?_
 change FW _ _ _ ⟨[(0, .list 8 (l.map OpV.fv)), (1, .int .i64 i), (2, .int .i64 k), (3, .bool s)], []⟩
 (repeat (first | refine FW.seq ?_ | refine FW.region ?_ | refine zd.nil ?_ | refine za rfl rfl rfl ?_ | refine zb rfl rfl rfl ?_ | refine zh rfl rfl (by first | rfl | exact (Int.toNat_of_nonneg (by omega)).symm) rfl rfl rfl (by first | omega | (simp; omega) | (simp; done)) rfl rfl ?_ | refine yG rfl rfl rfl (by decide) (by first | omega | (simp; omega) | (simp; done)) (by first | exact zc (by omega) | rfl) rfl rfl rfl ?_ | refine yL rfl rfl rfl (by decide) rfl rfl (by first | omega | (simp; omega) | (simp; done)) (by first | exact zc (by omega) | rfl) rfl rfl rfl ?_ | refine yu rfl rfl rfl rfl rfl rfl rfl ?_ | refine zP rfl rfl rfl rfl rfl rfl rfl rfl rfl ?_))
 rw [ha]
 skip
 rw [hb]
 skip
 refine zX hIa (by repeat (first | exact zx.nil | refine zx.cons (by first | exact yI.plain rfl rfl) ?_)) rfl rfl ?_
 cases hA : zV a with
 | false =>
  rw [Bool.false_and, if_neg (by decide)]
  (repeat (first | refine FW.seq ?_ | refine FW.region ?_ | refine FW.condT rfl ?_ | refine zd.nil ?_ | refine za rfl rfl rfl ?_ | refine zb rfl rfl rfl ?_ | refine xd rfl rfl rfl ?_ | refine zu rfl rfl rfl rfl ?_ | refine zK rfl rfl ⟨_, _, rfl, rfl, rfl⟩ ?_))
  exact FW.ret ⟨.inl rfl, .owNil _ _ rfl rfl⟩
 | true =>
 (repeat (first | refine zb rfl rfl rfl ?_ | refine xd rfl rfl rfl ?_ | refine yL rfl rfl rfl (by decide) rfl rfl (by first | omega | (simp; omega) | (simp; done)) (by first | exact zc (by omega) | rfl) rfl rfl ⟨_, _, rfl, rfl, rfl⟩ ?_))
 refine zX hIb (by repeat (first | exact zx.nil | refine zx.cons (by first | exact yI.plain rfl rfl) ?_)) rfl ⟨_, _, rfl, rfl, rfl⟩ ?_
 cases hB : zV b with
 | false =>
  rw [Bool.true_and, if_neg (by decide)]
  (repeat (first | refine FW.seq ?_ | refine FW.region ?_ | refine FW.condT rfl ?_ | refine zd.nil ?_ | refine za rfl rfl rfl ?_ | refine zn rfl rfl rfl rfl ?_ | refine xd rfl rfl ⟨_, _, rfl, rfl, rfl⟩ ?_))
  exact FW.ret ⟨.inl rfl, .owNil _ _ rfl rfl⟩
 | true =>
 rw [Bool.true_and, if_pos rfl]
 (repeat (first | refine zd.nil ?_ | refine zn rfl rfl rfl rfl ?_ | refine xd rfl rfl ⟨_, _, rfl, rfl, rfl⟩ ?_))
 refine FW.condF rfl ?_
 refine FW.skip ?_
 refine FW.seq ?_
 obtain ⟨W, hW⟩ : ∃ W, (decide (a.k = 2) && decide (a.key = b.key) && decide (a.arg = b.res)) = W := ⟨_, rfl⟩
 have hw0 : yN a b 0 = (W && decide (b.k = 0)) := by unfold yN; rw [hW]
 have hw2 : yN a b 2 = (W && decide (b.k = 2)) := by unfold yN; rw [hW]
 rw [hw0, hw2]
 clear hw0 hw2
 refine FW.join (fun _ : Unit => ⟨[(0, .list 8 (l.map OpV.fv)), (1, .int .i64 i), (2, .int .i64 k), (3, .bool s), (9, .ptr 109 0 0 0), (10, .ptr 110 0 0 0), (11, .own 100 0 0 ([] : List Int).length), (12, .bool W)], [(100, ⟨0, .own, 3, 1, ([] : List Int).map zp⟩), (109, ⟨0, .own, 37, 8, [a.fv]⟩), (110, ⟨0, .own, 37, 8, [b.fv]⟩)]⟩) (fun _ => True) ?_ ?_
 ·(repeat (first | refine FW.region ?_ | refine zb rfl rfl rfl ?_ | refine zm rfl rfl rfl rfl rfl (by first | omega | (simp; omega) | (simp; done)) (by first | exact zc (by omega) | rfl) rfl rfl rfl rfl ?_ | refine zi rfl rfl rfl rfl rfl rfl (by decide) rfl rfl ?_ | refine zU rfl rfl rfl rfl ?_))
  refine zO (fun h1 => ?_) (fun h1 => ?_)
  ·(repeat (first | refine zb rfl rfl rfl ?_ | refine zu rfl rfl rfl rfl ?_ | refine zm rfl rfl rfl rfl rfl (by first | omega | (simp; omega) | (simp; done)) (by first | exact zc (by omega) | rfl) rfl rfl rfl ⟨_, _, rfl, rfl, rfl⟩ ?_ | refine zi rfl rfl rfl rfl rfl rfl (by decide) rfl ⟨_, _, rfl, rfl, rfl⟩ ?_ | refine zU rfl rfl rfl ⟨_, _, rfl, rfl, rfl⟩ ?_))
   refine zO (fun h2 => ?_) (fun h2 => ?_)
   ·(repeat (first | refine zd.nil ?_ | refine za rfl rfl rfl ?_ | refine zu rfl rfl rfl rfl ?_ | refine zm rfl rfl rfl rfl rfl (by first | omega | (simp; omega) | (simp; done)) (by first | exact zc (by omega) | rfl) rfl rfl rfl ⟨_, _, rfl, rfl, rfl⟩ ?_ | refine zi rfl rfl rfl rfl rfl rfl (by decide) rfl ⟨_, _, rfl, rfl, rfl⟩ ?_ | refine zU rfl rfl rfl ⟨_, _, rfl, rfl, rfl⟩ ?_))
    rw [h1, h2, Bool.true_and, Bool.true_and] at hW
    rw [hW]
    refine ⟨rfl, (), trivial, ?_⟩
    exact (FLe.cv [⟨100, none, 0, ⟨0, .own, 3, 1, []⟩⟩, ⟨109, some 9, 0 + 1, ⟨0, .own, 37, 8, [a.fv]⟩⟩, ⟨110, some 10, 0 + 1, ⟨0, .own, 37, 8, [b.fv]⟩⟩] (by repeat (first | exact .nil | refine .old rfl (by decide) (by first | rfl | (simp; done) | (congr 1; omega) | (simp; omega) | (simp [List.take_of_length_le]; done) | (refine congrArg (FV.int .i64) ?_; omega)) ?_ | refine .new ?_)) (by repeat (first | exact .nil | refine .cons (.plain rfl rfl (by first | rfl | (simp; done) | (congr 1; omega) | (simp; omega) | (simp [List.take_of_length_le]; done) | (refine congrArg (FV.int .i64) ?_; omega))) ?_ | refine .cons (.nil rfl (.head _) rfl) ?_ | refine .cons (.ptr rfl (.tail _ (.head _)) rfl) ?_ | refine .cons (.ptr rfl (.tail _ (.tail _ (.head _))) rfl) ?_)))
   ·(repeat (first | refine zd.nil ?_ | refine za rfl rfl rfl ?_ | refine zn rfl rfl rfl rfl ?_ | refine zK rfl rfl ⟨_, _, rfl, rfl, rfl⟩ ?_))
    rw [h1, h2, Bool.true_and, Bool.false_and] at hW
    subst hW
    refine ⟨rfl, (), trivial, ?_⟩
    exact (FLe.cv [⟨100, none, 0, ⟨0, .own, 3, 1, []⟩⟩, ⟨109, some 9, 0 + 1, ⟨0, .own, 37, 8, [a.fv]⟩⟩, ⟨110, some 10, 0 + 1, ⟨0, .own, 37, 8, [b.fv]⟩⟩] (by repeat (first | exact .nil | refine .old rfl (by decide) (by first | rfl | (simp; done) | (congr 1; omega) | (simp; omega) | (simp [List.take_of_length_le]; done) | (refine congrArg (FV.int .i64) ?_; omega)) ?_ | refine .new ?_)) (by repeat (first | exact .nil | refine .cons (.plain rfl rfl (by first | rfl | (simp; done) | (congr 1; omega) | (simp; omega) | (simp [List.take_of_length_le]; done) | (refine congrArg (FV.int .i64) ?_; omega))) ?_ | refine .cons (.nil rfl (.head _) rfl) ?_ | refine .cons (.ptr rfl (.tail _ (.head _)) rfl) ?_ | refine .cons (.ptr rfl (.tail _ (.tail _ (.head _))) rfl) ?_)))
  ·(repeat (first | refine zd.nil ?_ | refine za rfl rfl rfl ?_ | refine zb rfl rfl rfl ?_ | refine zn rfl rfl rfl rfl ?_ | refine zK rfl rfl ⟨_, _, rfl, rfl, rfl⟩ ?_))
   rw [h1, Bool.false_and, Bool.false_and] at hW
   subst hW
   refine ⟨rfl, (), trivial, ?_⟩
   exact (FLe.cv [⟨100, none, 0, ⟨0, .own, 3, 1, []⟩⟩, ⟨109, some 9, 0 + 1, ⟨0, .own, 37, 8, [a.fv]⟩⟩, ⟨110, some 10, 0 + 1, ⟨0, .own, 37, 8, [b.fv]⟩⟩] (by repeat (first | exact .nil | refine .old rfl (by decide) (by first | rfl | (simp; done) | (congr 1; omega) | (simp; omega) | (simp [List.take_of_length_le]; done) | (refine congrArg (FV.int .i64) ?_; omega)) ?_ | refine .new ?_)) (by repeat (first | exact .nil | refine .cons (.plain rfl rfl (by first | rfl | (simp; done) | (congr 1; omega) | (simp; omega) | (simp [List.take_of_length_le]; done) | (refine congrArg (FV.int .i64) ?_; omega))) ?_ | refine .cons (.nil rfl (.head _) rfl) ?_ | refine .cons (.ptr rfl (.tail _ (.head _)) rfl) ?_ | refine .cons (.ptr rfl (.tail _ (.tail _ (.head _))) rfl) ?_)))
 rintro _ _
 obtain ⟨r0, hr0⟩ : ∃ r : List Int, r = [] := ⟨_, rfl⟩
 have hl0 : r0.length = 0 := by rw [hr0]; rfl
 rw [← hr0]
 refine FW.seq ?_
 refine FW.join (fun _ : Unit => ⟨[(0, .list 8 (l.map OpV.fv)), (1, .int .i64 i), (2, .int .i64 k), (3, .bool s), (9, .ptr 109 0 0 0), (10, .ptr 110 0 0 0), (11, .own 100 0 0 (r0 ++ xU (W && decide (b.k = 0)) 2).length), (12, .bool W)], [(100, ⟨0, .own, 3, 1, (r0 ++ xU (W && decide (b.k = 0)) 2).map zp⟩), (109, ⟨0, .own, 37, 8, [a.fv]⟩), (110, ⟨0, .own, 37, 8, [b.fv]⟩)]⟩) (fun _ => True) ?_ ?_
 ·clear hW
  cases W with
  | false =>
   (repeat (first | refine FW.seq ?_ | refine FW.region ?_ | refine FW.skip ?_ | refine FW.condF rfl ?_ | refine zd.nil ?_ | refine zb rfl rfl rfl ?_ | refine zn rfl rfl rfl rfl ?_ | refine zK rfl rfl ⟨_, _, rfl, rfl, rfl⟩ ?_))
   refine ⟨rfl, (), trivial, ?_⟩
   rw [Bool.false_and, show xU false 2 = [] from rfl, List.append_nil]
   exact (FLe.cv [⟨100, some 100, 0, ⟨0, .own, 3, 1, r0.map zp⟩⟩, ⟨109, some 109, 0, ⟨0, .own, 37, 8, [a.fv]⟩⟩, ⟨110, some 110, 0, ⟨0, .own, 37, 8, [b.fv]⟩⟩] (by repeat (first | exact .nil | refine .old rfl (by decide) (by first | rfl | (simp; done) | (congr 1; omega) | (simp; omega) | (simp [List.take_of_length_le]; done) | (refine congrArg (FV.int .i64) ?_; omega)) ?_)) (by repeat (first | exact .nil | refine .cons (.plain rfl rfl (by first | rfl | (simp; done) | (congr 1; omega) | (simp; omega) | (simp [List.take_of_length_le]; done) | (refine congrArg (FV.int .i64) ?_; omega))) ?_ | refine .cons (.own rfl (.head _) rfl (by first | rfl | (simp; done) | (congr 1; omega) | (simp; omega) | (simp [List.take_of_length_le]; done) | (refine congrArg (FV.int .i64) ?_; omega))) ?_ | refine .cons (.ptr rfl (.tail _ (.head _)) rfl) ?_ | refine .cons (.ptr rfl (.tail _ (.tail _ (.head _))) rfl) ?_)))
  | true =>
   (repeat (first | refine FW.seq ?_ | refine FW.region ?_ | refine zd.nil ?_ | refine zb rfl rfl rfl ?_ | refine zu rfl rfl rfl rfl ?_ | refine zm rfl rfl rfl rfl rfl (by first | omega | (simp; omega) | (simp; done)) (by first | exact zc (by omega) | rfl) rfl rfl rfl ⟨_, _, rfl, rfl, rfl⟩ ?_ | refine zi rfl rfl rfl rfl rfl rfl (by decide) rfl ⟨_, _, rfl, rfl, rfl⟩ ?_ | refine zU rfl rfl rfl ⟨_, _, rfl, rfl, rfl⟩ ?_))
   refine FW.cond rfl (fun h => ?_) (fun h => ?_)
   ·have h : decide (b.k = 0) = true := h
    (repeat (first | refine FW.region ?_ | refine zd.nil ?_ | refine za rfl rfl rfl ?_ | refine zb rfl rfl rfl ?_ | refine yg rfl rfl rfl rfl rfl rfl rfl rfl ?_ | refine xa rfl rfl (by first | exact List.length_map _ | exact (List.length_map _).symm | exact List.length_replicate | rfl | (simp; done) | omega | (simp; omega)) rfl rfl rfl (by decide) (by first | exact xi.own rfl rfl (by decide) (by first | exact List.length_map _ | exact (List.length_map _).symm | exact List.length_replicate | rfl | (simp; done) | omega | (simp; omega)) | exact xi.list rfl | exact xi.nil rfl | exact xi.part rfl rfl (by decide)) (by first | omega | (simp; omega) | (simp; done)) (by first | omega | (simp; omega) | (simp; done)) rfl rfl rfl ?_))
    refine ⟨rfl, (), trivial, ?_⟩
    rw [Bool.true_and, h, show xU true 2 = [2] from rfl, List.length_append, List.map_append]
    exact (FLe.cv [⟨100, some 54, 0 + 1, ⟨0, .own, 3, 1, r0.map zp ++ [2].map zp⟩⟩, ⟨109, some 109, 0, ⟨0, .own, 37, 8, [a.fv]⟩⟩, ⟨110, some 110, 0, ⟨0, .own, 37, 8, [b.fv]⟩⟩] (by repeat (first | exact .nil | refine .old rfl (by decide) (by first | rfl | (simp; done) | (congr 1; omega) | (simp; omega) | (simp [List.take_of_length_le]; done) | (refine congrArg (FV.int .i64) ?_; omega)) ?_)) (by repeat (first | exact .nil | refine .cons (.plain rfl rfl (by first | rfl | (simp; done) | (congr 1; omega) | (simp; omega) | (simp [List.take_of_length_le]; done) | (refine congrArg (FV.int .i64) ?_; omega))) ?_ | refine .cons (.own rfl (.head _) rfl (by first | rfl | (simp; done) | (congr 1; omega) | (simp; omega) | (simp [List.take_of_length_le]; done) | (refine congrArg (FV.int .i64) ?_; omega))) ?_ | refine .cons (.ptr rfl (.tail _ (.head _)) rfl) ?_ | refine .cons (.ptr rfl (.tail _ (.tail _ (.head _))) rfl) ?_)))
   ·have h : decide (b.k = 0) = false := h
    (repeat (first | refine FW.skip ?_))
    refine ⟨rfl, (), trivial, ?_⟩
    rw [Bool.true_and, h, show xU false 2 = [] from rfl, List.append_nil]
    exact (FLe.cv [⟨100, some 100, 0, ⟨0, .own, 3, 1, r0.map zp⟩⟩, ⟨109, some 109, 0, ⟨0, .own, 37, 8, [a.fv]⟩⟩, ⟨110, some 110, 0, ⟨0, .own, 37, 8, [b.fv]⟩⟩] (by repeat (first | exact .nil | refine .old rfl (by decide) (by first | rfl | (simp; done) | (congr 1; omega) | (simp; omega) | (simp [List.take_of_length_le]; done) | (refine congrArg (FV.int .i64) ?_; omega)) ?_)) (by repeat (first | exact .nil | refine .cons (.plain rfl rfl (by first | rfl | (simp; done) | (congr 1; omega) | (simp; omega) | (simp [List.take_of_length_le]; done) | (refine congrArg (FV.int .i64) ?_; omega))) ?_ | refine .cons (.own rfl (.head _) rfl (by first | rfl | (simp; done) | (congr 1; omega) | (simp; omega) | (simp [List.take_of_length_le]; done) | (refine congrArg (FV.int .i64) ?_; omega))) ?_ | refine .cons (.ptr rfl (.tail _ (.head _)) rfl) ?_ | refine .cons (.ptr rfl (.tail _ (.tail _ (.head _))) rfl) ?_)))
 rintro _ _
 have hb1 := Zc (W && decide (b.k = 0)) 2
 obtain ⟨r1, hr1⟩ : ∃ r, (r0 ++ xU (W && decide (b.k = 0)) 2) = r := ⟨_, rfl⟩
 have hl1 : r1.length ≤ 1 := by rw [← hr1, List.length_append]; omega
 rw [hr1]
 refine FW.seq ?_
 refine FW.join (fun _ : Unit => ⟨[(0, .list 8 (l.map OpV.fv)), (1, .int .i64 i), (2, .int .i64 k), (3, .bool s), (9, .ptr 109 0 0 0), (10, .ptr 110 0 0 0), (11, .own 100 0 0 (r1 ++ xU (W && decide (b.k = 2)) 3).length), (12, .bool W)], [(100, ⟨0, .own, 3, 1, (r1 ++ xU (W && decide (b.k = 2)) 3).map zp⟩), (109, ⟨0, .own, 37, 8, [a.fv]⟩), (110, ⟨0, .own, 37, 8, [b.fv]⟩)]⟩) (fun _ => True) ?_ ?_
 ·clear hW
  cases W with
  | false =>
   (repeat (first | refine FW.seq ?_ | refine FW.region ?_ | refine FW.skip ?_ | refine FW.condF rfl ?_ | refine zd.nil ?_ | refine zb rfl rfl rfl ?_ | refine zn rfl rfl rfl rfl ?_ | refine zK rfl rfl ⟨_, _, rfl, rfl, rfl⟩ ?_))
   refine ⟨rfl, (), trivial, ?_⟩
   rw [Bool.false_and, show xU false 3 = [] from rfl, List.append_nil]
   exact (FLe.cv [⟨100, some 100, 0, ⟨0, .own, 3, 1, r1.map zp⟩⟩, ⟨109, some 109, 0, ⟨0, .own, 37, 8, [a.fv]⟩⟩, ⟨110, some 110, 0, ⟨0, .own, 37, 8, [b.fv]⟩⟩] (by repeat (first | exact .nil | refine .old rfl (by decide) (by first | rfl | (simp; done) | (congr 1; omega) | (simp; omega) | (simp [List.take_of_length_le]; done) | (refine congrArg (FV.int .i64) ?_; omega)) ?_)) (by repeat (first | exact .nil | refine .cons (.plain rfl rfl (by first | rfl | (simp; done) | (congr 1; omega) | (simp; omega) | (simp [List.take_of_length_le]; done) | (refine congrArg (FV.int .i64) ?_; omega))) ?_ | refine .cons (.own rfl (.head _) rfl (by first | rfl | (simp; done) | (congr 1; omega) | (simp; omega) | (simp [List.take_of_length_le]; done) | (refine congrArg (FV.int .i64) ?_; omega))) ?_ | refine .cons (.ptr rfl (.tail _ (.head _)) rfl) ?_ | refine .cons (.ptr rfl (.tail _ (.tail _ (.head _))) rfl) ?_)))
  | true =>
   (repeat (first | refine FW.seq ?_ | refine FW.region ?_ | refine zd.nil ?_ | refine zb rfl rfl rfl ?_ | refine zu rfl rfl rfl rfl ?_ | refine zm rfl rfl rfl rfl rfl (by first | omega | (simp; omega) | (simp; done)) (by first | exact zc (by omega) | rfl) rfl rfl rfl ⟨_, _, rfl, rfl, rfl⟩ ?_ | refine zi rfl rfl rfl rfl rfl rfl (by decide) rfl ⟨_, _, rfl, rfl, rfl⟩ ?_ | refine zU rfl rfl rfl ⟨_, _, rfl, rfl, rfl⟩ ?_))
   refine FW.cond rfl (fun h => ?_) (fun h => ?_)
   ·have h : decide (b.k = 2) = true := h
    (repeat (first | refine FW.region ?_ | refine zd.nil ?_ | refine za rfl rfl rfl ?_ | refine zb rfl rfl rfl ?_ | refine yg rfl rfl rfl rfl rfl rfl rfl rfl ?_ | refine xa rfl rfl (by first | exact List.length_map _ | exact (List.length_map _).symm | exact List.length_replicate | rfl | (simp; done) | omega | (simp; omega)) rfl rfl rfl (by decide) (by first | exact xi.own rfl rfl (by decide) (by first | exact List.length_map _ | exact (List.length_map _).symm | exact List.length_replicate | rfl | (simp; done) | omega | (simp; omega)) | exact xi.list rfl | exact xi.nil rfl | exact xi.part rfl rfl (by decide)) (by first | omega | (simp; omega) | (simp; done)) (by first | omega | (simp; omega) | (simp; done)) rfl rfl rfl ?_))
    refine ⟨rfl, (), trivial, ?_⟩
    rw [Bool.true_and, h, show xU true 3 = [3] from rfl, List.length_append, List.map_append]
    exact (FLe.cv [⟨100, some 63, 0 + 1, ⟨0, .own, 3, 1, r1.map zp ++ [3].map zp⟩⟩, ⟨109, some 109, 0, ⟨0, .own, 37, 8, [a.fv]⟩⟩, ⟨110, some 110, 0, ⟨0, .own, 37, 8, [b.fv]⟩⟩] (by repeat (first | exact .nil | refine .old rfl (by decide) (by first | rfl | (simp; done) | (congr 1; omega) | (simp; omega) | (simp [List.take_of_length_le]; done) | (refine congrArg (FV.int .i64) ?_; omega)) ?_)) (by repeat (first | exact .nil | refine .cons (.plain rfl rfl (by first | rfl | (simp; done) | (congr 1; omega) | (simp; omega) | (simp [List.take_of_length_le]; done) | (refine congrArg (FV.int .i64) ?_; omega))) ?_ | refine .cons (.own rfl (.head _) rfl (by first | rfl | (simp; done) | (congr 1; omega) | (simp; omega) | (simp [List.take_of_length_le]; done) | (refine congrArg (FV.int .i64) ?_; omega))) ?_ | refine .cons (.ptr rfl (.tail _ (.head _)) rfl) ?_ | refine .cons (.ptr rfl (.tail _ (.tail _ (.head _))) rfl) ?_)))
   ·have h : decide (b.k = 2) = false := h
    (repeat (first | refine FW.skip ?_))
    refine ⟨rfl, (), trivial, ?_⟩
    rw [Bool.true_and, h, show xU false 3 = [] from rfl, List.append_nil]
    exact (FLe.cv [⟨100, some 100, 0, ⟨0, .own, 3, 1, r1.map zp⟩⟩, ⟨109, some 109, 0, ⟨0, .own, 37, 8, [a.fv]⟩⟩, ⟨110, some 110, 0, ⟨0, .own, 37, 8, [b.fv]⟩⟩] (by repeat (first | exact .nil | refine .old rfl (by decide) (by first | rfl | (simp; done) | (congr 1; omega) | (simp; omega) | (simp [List.take_of_length_le]; done) | (refine congrArg (FV.int .i64) ?_; omega)) ?_)) (by repeat (first | exact .nil | refine .cons (.plain rfl rfl (by first | rfl | (simp; done) | (congr 1; omega) | (simp; omega) | (simp [List.take_of_length_le]; done) | (refine congrArg (FV.int .i64) ?_; omega))) ?_ | refine .cons (.own rfl (.head _) rfl (by first | rfl | (simp; done) | (congr 1; omega) | (simp; omega) | (simp [List.take_of_length_le]; done) | (refine congrArg (FV.int .i64) ?_; omega))) ?_ | refine .cons (.ptr rfl (.tail _ (.head _)) rfl) ?_ | refine .cons (.ptr rfl (.tail _ (.tail _ (.head _))) rfl) ?_)))
 rintro _ _
 have hb2 := Zc (W && decide (b.k = 2)) 3
 obtain ⟨r2, hr2⟩ : ∃ r, (r1 ++ xU (W && decide (b.k = 2)) 3) = r := ⟨_, rfl⟩
 have hl2 : r2.length ≤ 2 := by rw [← hr2, List.length_append]; omega
 rw [hr2]
 refine FW.seq ?_
 refine FW.join (fun _ : Unit => ⟨[(0, .list 8 (l.map OpV.fv)), (1, .int .i64 i), (2, .int .i64 k), (3, .bool s), (9, .ptr 109 0 0 0), (10, .ptr 110 0 0 0), (11, .own 100 0 0 (r2 ++ xU (ZX i k a b) 4).length), (12, .bool W)], [(100, ⟨0, .own, 3, 1, (r2 ++ xU (ZX i k a b) 4).map zp⟩), (109, ⟨0, .own, 37, 8, [a.fv]⟩), (110, ⟨0, .own, 37, 8, [b.fv]⟩)]⟩) (fun _ => True) ?_ ?_
 ·have hp : ZX i k a b = (decide (i ≠ k) && decide (a.key = b.key) && decide (a.res = b.res) && decide (b.k = 2)) := rfl
  (repeat (first | refine FW.seq ?_ | refine FW.region ?_ | refine zb rfl rfl rfl ?_ | refine Za rfl rfl rfl rfl ?_))
  refine zO (fun h1 => ?_) (fun h1 => ?_)
  ·have h1 : decide (i ≠ k) = true := by simp at h1 ⊢; omega
   (repeat (first | refine zb rfl rfl rfl ?_ | refine zu rfl rfl rfl rfl ?_ | refine zm rfl rfl rfl rfl rfl (by first | omega | (simp; omega) | (simp; done)) (by first | exact zc (by omega) | rfl) rfl rfl rfl ⟨_, _, rfl, rfl, rfl⟩ ?_ | refine zi rfl rfl rfl rfl rfl rfl (by decide) rfl ⟨_, _, rfl, rfl, rfl⟩ ?_ | refine zU rfl rfl rfl ⟨_, _, rfl, rfl, rfl⟩ ?_))
   refine zO (fun h2 => ?_) (fun h2 => ?_)
   ·(repeat (first | refine zb rfl rfl rfl ?_ | refine zu rfl rfl rfl rfl ?_ | refine zm rfl rfl rfl rfl rfl (by first | omega | (simp; omega) | (simp; done)) (by first | exact zc (by omega) | rfl) rfl rfl rfl ⟨_, _, rfl, rfl, rfl⟩ ?_ | refine zi rfl rfl rfl rfl rfl rfl (by decide) rfl ⟨_, _, rfl, rfl, rfl⟩ ?_ | refine zU rfl rfl rfl ⟨_, _, rfl, rfl, rfl⟩ ?_))
    refine zO (fun h3 => ?_) (fun h3 => ?_)
    ·rw [h1, h2, h3, Bool.true_and, Bool.true_and, Bool.true_and] at hp
     (repeat (first | refine zd.nil ?_ | refine zu rfl rfl rfl rfl ?_ | refine zm rfl rfl rfl rfl rfl (by first | omega | (simp; omega) | (simp; done)) (by first | exact zc (by omega) | rfl) rfl rfl rfl ⟨_, _, rfl, rfl, rfl⟩ ?_ | refine zi rfl rfl rfl rfl rfl rfl (by decide) rfl ⟨_, _, rfl, rfl, rfl⟩ ?_ | refine zU rfl rfl rfl ⟨_, _, rfl, rfl, rfl⟩ ?_))
     refine FW.cond rfl (fun h => ?_) (fun h => ?_)
     ·have h : decide (b.k = 2) = true := h
      (repeat (first | refine FW.region ?_ | refine zd.nil ?_ | refine za rfl rfl rfl ?_ | refine zb rfl rfl rfl ?_ | refine yg rfl rfl rfl rfl rfl rfl rfl rfl ?_ | refine xa rfl rfl (by first | exact List.length_map _ | exact (List.length_map _).symm | exact List.length_replicate | rfl | (simp; done) | omega | (simp; omega)) rfl rfl rfl (by decide) (by first | exact xi.own rfl rfl (by decide) (by first | exact List.length_map _ | exact (List.length_map _).symm | exact List.length_replicate | rfl | (simp; done) | omega | (simp; omega)) | exact xi.list rfl | exact xi.nil rfl | exact xi.part rfl rfl (by decide)) (by first | omega | (simp; omega) | (simp; done)) (by first | omega | (simp; omega) | (simp; done)) rfl rfl rfl ?_))
      refine ⟨rfl, (), trivial, ?_⟩
      rw [hp, h, show xU true 4 = [4] from rfl, List.length_append, List.map_append]
      exact (FLe.cv [⟨100, some 88, 0 + 1, ⟨0, .own, 3, 1, r2.map zp ++ [4].map zp⟩⟩, ⟨109, some 109, 0, ⟨0, .own, 37, 8, [a.fv]⟩⟩, ⟨110, some 110, 0, ⟨0, .own, 37, 8, [b.fv]⟩⟩] (by repeat (first | exact .nil | refine .old rfl (by decide) (by first | rfl | (simp; done) | (congr 1; omega) | (simp; omega) | (simp [List.take_of_length_le]; done) | (refine congrArg (FV.int .i64) ?_; omega)) ?_)) (by repeat (first | exact .nil | refine .cons (.plain rfl rfl (by first | rfl | (simp; done) | (congr 1; omega) | (simp; omega) | (simp [List.take_of_length_le]; done) | (refine congrArg (FV.int .i64) ?_; omega))) ?_ | refine .cons (.own rfl (.head _) rfl (by first | rfl | (simp; done) | (congr 1; omega) | (simp; omega) | (simp [List.take_of_length_le]; done) | (refine congrArg (FV.int .i64) ?_; omega))) ?_ | refine .cons (.ptr rfl (.tail _ (.head _)) rfl) ?_ | refine .cons (.ptr rfl (.tail _ (.tail _ (.head _))) rfl) ?_)))
     ·have h : decide (b.k = 2) = false := h
      (repeat (first | refine FW.skip ?_))
      refine ⟨rfl, (), trivial, ?_⟩
      rw [hp, h, show xU false 4 = [] from rfl, List.append_nil]
      exact (FLe.cv [⟨100, some 100, 0, ⟨0, .own, 3, 1, r2.map zp⟩⟩, ⟨109, some 109, 0, ⟨0, .own, 37, 8, [a.fv]⟩⟩, ⟨110, some 110, 0, ⟨0, .own, 37, 8, [b.fv]⟩⟩] (by repeat (first | exact .nil | refine .old rfl (by decide) (by first | rfl | (simp; done) | (congr 1; omega) | (simp; omega) | (simp [List.take_of_length_le]; done) | (refine congrArg (FV.int .i64) ?_; omega)) ?_)) (by repeat (first | exact .nil | refine .cons (.plain rfl rfl (by first | rfl | (simp; done) | (congr 1; omega) | (simp; omega) | (simp [List.take_of_length_le]; done) | (refine congrArg (FV.int .i64) ?_; omega))) ?_ | refine .cons (.own rfl (.head _) rfl (by first | rfl | (simp; done) | (congr 1; omega) | (simp; omega) | (simp [List.take_of_length_le]; done) | (refine congrArg (FV.int .i64) ?_; omega))) ?_ | refine .cons (.ptr rfl (.tail _ (.head _)) rfl) ?_ | refine .cons (.ptr rfl (.tail _ (.tail _ (.head _))) rfl) ?_)))
    ·rw [h1, h2, h3, Bool.true_and, Bool.true_and, Bool.false_and] at hp
     (repeat (first | refine FW.skip ?_ | refine FW.condF rfl ?_ | refine zd.nil ?_ | refine zn rfl rfl rfl rfl ?_ | refine zK rfl rfl ⟨_, _, rfl, rfl, rfl⟩ ?_))
     refine ⟨rfl, (), trivial, ?_⟩
     rw [hp, show xU false 4 = [] from rfl, List.append_nil]
     exact (FLe.cv [⟨100, some 100, 0, ⟨0, .own, 3, 1, r2.map zp⟩⟩, ⟨109, some 109, 0, ⟨0, .own, 37, 8, [a.fv]⟩⟩, ⟨110, some 110, 0, ⟨0, .own, 37, 8, [b.fv]⟩⟩] (by repeat (first | exact .nil | refine .old rfl (by decide) (by first | rfl | (simp; done) | (congr 1; omega) | (simp; omega) | (simp [List.take_of_length_le]; done) | (refine congrArg (FV.int .i64) ?_; omega)) ?_)) (by repeat (first | exact .nil | refine .cons (.plain rfl rfl (by first | rfl | (simp; done) | (congr 1; omega) | (simp; omega) | (simp [List.take_of_length_le]; done) | (refine congrArg (FV.int .i64) ?_; omega))) ?_ | refine .cons (.own rfl (.head _) rfl (by first | rfl | (simp; done) | (congr 1; omega) | (simp; omega) | (simp [List.take_of_length_le]; done) | (refine congrArg (FV.int .i64) ?_; omega))) ?_ | refine .cons (.ptr rfl (.tail _ (.head _)) rfl) ?_ | refine .cons (.ptr rfl (.tail _ (.tail _ (.head _))) rfl) ?_)))
   ·rw [h1, h2, Bool.true_and, Bool.false_and, Bool.false_and] at hp
    (repeat (first | refine FW.skip ?_ | refine FW.condF rfl ?_ | refine zd.nil ?_ | refine zb rfl rfl rfl ?_ | refine zn rfl rfl rfl rfl ?_ | refine zK rfl rfl ⟨_, _, rfl, rfl, rfl⟩ ?_))
    refine ⟨rfl, (), trivial, ?_⟩
    rw [hp, show xU false 4 = [] from rfl, List.append_nil]
    exact (FLe.cv [⟨100, some 100, 0, ⟨0, .own, 3, 1, r2.map zp⟩⟩, ⟨109, some 109, 0, ⟨0, .own, 37, 8, [a.fv]⟩⟩, ⟨110, some 110, 0, ⟨0, .own, 37, 8, [b.fv]⟩⟩] (by repeat (first | exact .nil | refine .old rfl (by decide) (by first | rfl | (simp; done) | (congr 1; omega) | (simp; omega) | (simp [List.take_of_length_le]; done) | (refine congrArg (FV.int .i64) ?_; omega)) ?_)) (by repeat (first | exact .nil | refine .cons (.plain rfl rfl (by first | rfl | (simp; done) | (congr 1; omega) | (simp; omega) | (simp [List.take_of_length_le]; done) | (refine congrArg (FV.int .i64) ?_; omega))) ?_ | refine .cons (.own rfl (.head _) rfl (by first | rfl | (simp; done) | (congr 1; omega) | (simp; omega) | (simp [List.take_of_length_le]; done) | (refine congrArg (FV.int .i64) ?_; omega))) ?_ | refine .cons (.ptr rfl (.tail _ (.head _)) rfl) ?_ | refine .cons (.ptr rfl (.tail _ (.tail _ (.head _))) rfl) ?_)))
  ·have h1 : decide (i ≠ k) = false := by simp at h1 ⊢; omega
   rw [h1, Bool.false_and, Bool.false_and, Bool.false_and] at hp
   (repeat (first | refine FW.skip ?_ | refine FW.condF rfl ?_ | refine zd.nil ?_ | refine zb rfl rfl rfl ?_ | refine zn rfl rfl rfl rfl ?_ | refine zK rfl rfl ⟨_, _, rfl, rfl, rfl⟩ ?_))
   refine ⟨rfl, (), trivial, ?_⟩
   rw [hp, show xU false 4 = [] from rfl, List.append_nil]
   exact (FLe.cv [⟨100, some 100, 0, ⟨0, .own, 3, 1, r2.map zp⟩⟩, ⟨109, some 109, 0, ⟨0, .own, 37, 8, [a.fv]⟩⟩, ⟨110, some 110, 0, ⟨0, .own, 37, 8, [b.fv]⟩⟩] (by repeat (first | exact .nil | refine .old rfl (by decide) (by first | rfl | (simp; done) | (congr 1; omega) | (simp; omega) | (simp [List.take_of_length_le]; done) | (refine congrArg (FV.int .i64) ?_; omega)) ?_)) (by repeat (first | exact .nil | refine .cons (.plain rfl rfl (by first | rfl | (simp; done) | (congr 1; omega) | (simp; omega) | (simp [List.take_of_length_le]; done) | (refine congrArg (FV.int .i64) ?_; omega))) ?_ | refine .cons (.own rfl (.head _) rfl (by first | rfl | (simp; done) | (congr 1; omega) | (simp; omega) | (simp [List.take_of_length_le]; done) | (refine congrArg (FV.int .i64) ?_; omega))) ?_ | refine .cons (.ptr rfl (.tail _ (.head _)) rfl) ?_ | refine .cons (.ptr rfl (.tail _ (.tail _ (.head _))) rfl) ?_)))
 rintro _ _
 have hb3 := Zc (ZX i k a b) 4
 obtain ⟨r3, hr3⟩ : ∃ r, (r2 ++ xU (ZX i k a b) 4) = r := ⟨_, rfl⟩
 have hl3 : r3.length ≤ 3 := by rw [← hr3, List.length_append]; omega
 rw [hr3]
 refine FW.seq ?_
 refine FW.join (fun _ : Unit => ⟨[(0, .list 8 (l.map OpV.fv)), (1, .int .i64 i), (2, .int .i64 k), (3, .bool s), (9, .ptr 109 0 0 0), (10, .ptr 110 0 0 0), (11, .own 100 0 0 (r3 ++ xU (s && bf) 5).length), (12, .bool W)], [(100, ⟨0, .own, 3, 1, (r3 ++ xU (s && bf) 5).map zp⟩), (109, ⟨0, .own, 37, 8, [a.fv]⟩), (110, ⟨0, .own, 37, 8, [b.fv]⟩)]⟩) (fun _ => True) ?_ ?_
 ·cases s with
  | false =>
   (repeat (first | refine FW.seq ?_ | refine FW.region ?_ | refine FW.skip ?_ | refine FW.condF rfl ?_ | refine zd.nil ?_ | refine zb rfl rfl rfl ?_ | refine zn rfl rfl rfl rfl ?_ | refine zK rfl rfl ⟨_, _, rfl, rfl, rfl⟩ ?_))
   refine ⟨rfl, (), trivial, ?_⟩
   rw [Bool.false_and, show xU false 5 = [] from rfl, List.append_nil]
   exact (FLe.cv [⟨100, some 100, 0, ⟨0, .own, 3, 1, r3.map zp⟩⟩, ⟨109, some 109, 0, ⟨0, .own, 37, 8, [a.fv]⟩⟩, ⟨110, some 110, 0, ⟨0, .own, 37, 8, [b.fv]⟩⟩] (by repeat (first | exact .nil | refine .old rfl (by decide) (by first | rfl | (simp; done) | (congr 1; omega) | (simp; omega) | (simp [List.take_of_length_le]; done) | (refine congrArg (FV.int .i64) ?_; omega)) ?_)) (by repeat (first | exact .nil | refine .cons (.plain rfl rfl (by first | rfl | (simp; done) | (congr 1; omega) | (simp; omega) | (simp [List.take_of_length_le]; done) | (refine congrArg (FV.int .i64) ?_; omega))) ?_ | refine .cons (.own rfl (.head _) rfl (by first | rfl | (simp; done) | (congr 1; omega) | (simp; omega) | (simp [List.take_of_length_le]; done) | (refine congrArg (FV.int .i64) ?_; omega))) ?_ | refine .cons (.ptr rfl (.tail _ (.head _)) rfl) ?_ | refine .cons (.ptr rfl (.tail _ (.tail _ (.head _))) rfl) ?_)))
  | true =>
   (repeat (first | refine FW.seq ?_ | refine FW.region ?_ | refine zb rfl rfl rfl ?_ | refine zb rfl rfl ⟨_, _, rfl, rfl, rfl⟩ ?_))
   refine zX hbs (by repeat (first | exact zx.nil | refine zx.cons (by first | exact yI.plain rfl rfl) ?_)) rfl ⟨_, _, rfl, rfl, rfl⟩ ?_
   cases bf with
   | true =>
    (repeat (first | refine FW.region ?_ | refine FW.condT rfl ?_ | refine zd.nil ?_ | refine za rfl rfl rfl ?_ | refine zb rfl rfl rfl ?_ | refine zu rfl rfl rfl rfl ?_ | refine yg rfl rfl rfl rfl rfl rfl rfl rfl ?_ | refine xa rfl rfl (by first | exact List.length_map _ | exact (List.length_map _).symm | exact List.length_replicate | rfl | (simp; done) | omega | (simp; omega)) rfl rfl rfl (by decide) (by first | exact xi.own rfl rfl (by decide) (by first | exact List.length_map _ | exact (List.length_map _).symm | exact List.length_replicate | rfl | (simp; done) | omega | (simp; omega)) | exact xi.list rfl | exact xi.nil rfl | exact xi.part rfl rfl (by decide)) (by first | omega | (simp; omega) | (simp; done)) (by first | omega | (simp; omega) | (simp; done)) rfl rfl rfl ?_))
    refine ⟨rfl, (), trivial, ?_⟩
    rw [Bool.true_and, show xU true 5 = [5] from rfl, List.length_append, List.map_append]
    exact (FLe.cv [⟨100, some 98, 0 + 1, ⟨0, .own, 3, 1, r3.map zp ++ [5].map zp⟩⟩, ⟨109, some 109, 0, ⟨0, .own, 37, 8, [a.fv]⟩⟩, ⟨110, some 110, 0, ⟨0, .own, 37, 8, [b.fv]⟩⟩] (by repeat (first | exact .nil | refine .old rfl (by decide) (by first | rfl | (simp; done) | (congr 1; omega) | (simp; omega) | (simp [List.take_of_length_le]; done) | (refine congrArg (FV.int .i64) ?_; omega)) ?_)) (by repeat (first | exact .nil | refine .cons (.plain rfl rfl (by first | rfl | (simp; done) | (congr 1; omega) | (simp; omega) | (simp [List.take_of_length_le]; done) | (refine congrArg (FV.int .i64) ?_; omega))) ?_ | refine .cons (.own rfl (.head _) rfl (by first | rfl | (simp; done) | (congr 1; omega) | (simp; omega) | (simp [List.take_of_length_le]; done) | (refine congrArg (FV.int .i64) ?_; omega))) ?_ | refine .cons (.ptr rfl (.tail _ (.head _)) rfl) ?_ | refine .cons (.ptr rfl (.tail _ (.tail _ (.head _))) rfl) ?_)))
   | false =>
    (repeat (first | refine FW.skip ?_ | refine FW.condF rfl ?_ | refine zd.nil ?_ | refine zu rfl rfl rfl rfl ?_))
    refine ⟨rfl, (), trivial, ?_⟩
    rw [Bool.true_and, show xU false 5 = [] from rfl, List.append_nil]
    exact (FLe.cv [⟨100, some 100, 0, ⟨0, .own, 3, 1, r3.map zp⟩⟩, ⟨109, some 109, 0, ⟨0, .own, 37, 8, [a.fv]⟩⟩, ⟨110, some 110, 0, ⟨0, .own, 37, 8, [b.fv]⟩⟩] (by repeat (first | exact .nil | refine .old rfl (by decide) (by first | rfl | (simp; done) | (congr 1; omega) | (simp; omega) | (simp [List.take_of_length_le]; done) | (refine congrArg (FV.int .i64) ?_; omega)) ?_)) (by repeat (first | exact .nil | refine .cons (.plain rfl rfl (by first | rfl | (simp; done) | (congr 1; omega) | (simp; omega) | (simp [List.take_of_length_le]; done) | (refine congrArg (FV.int .i64) ?_; omega))) ?_ | refine .cons (.own rfl (.head _) rfl (by first | rfl | (simp; done) | (congr 1; omega) | (simp; omega) | (simp [List.take_of_length_le]; done) | (refine congrArg (FV.int .i64) ?_; omega))) ?_ | refine .cons (.ptr rfl (.tail _ (.head _)) rfl) ?_ | refine .cons (.ptr rfl (.tail _ (.tail _ (.head _))) rfl) ?_)))
 rintro _ _
 have hb4 := Zc (s && bf) 5
 obtain ⟨r4, hr4⟩ : ∃ r, (r3 ++ xU (s && bf) 5) = r := ⟨_, rfl⟩
 have hl4 : r4.length ≤ 4 := by rw [← hr4, List.length_append]; omega
 rw [hr4]
 have hfin : xU (W && decide (b.k = 0)) 2 ++ (xU (W && decide (b.k = 2)) 3 ++ (xU (ZX i k a b) 4 ++ xU (s && bf) 5)) = r4 := by
  rw [← hr4, ← hr3, ← hr2, ← hr1, hr0]; simp only [List.nil_append, List.append_assoc]
 rw [hfin]
 (repeat (first | refine FW.seq ?_ | refine FW.region ?_ | refine zd.nil ?_ | refine za rfl rfl rfl ?_ | refine zb rfl rfl rfl ?_))
 exact FW.ret ⟨.inl rfl, Ul rfl rfl rfl (by simp) (by decide) rfl (fun e he => by obtain ⟨x, _, rfl⟩ := List.mem_map.1 he; rfl)⟩
end Go.Proofs.Ytokmanfcndelfaa
