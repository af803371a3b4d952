/-
  poset.Order.IsLinear, where the list is a linear extension.
-/
import Derived.Test.YtbeebjdnapkhhaaZFmLinear
import Derived.Test.YtbeebjdnapkhhaaZQ
namespace Go.Proofs.Ytbeebjdnapkhhaa
set_option linter.unusedVariables false
open Go.RowKit

def zj6 (b : Bool) : List FV := [.bool b]
def zbQ (n : Nat) (row : List Nat) (k : Nat) : List Bool := (List.range n).map fun a => decide (a ∈ row.take k)
theorem ZZ (n : Nat) (row : List Nat) (k : Nat) : (zbQ n row k).length = n := by simp [zbQ]
theorem Wr {n : Nat} {row : List Nat} {k a : Nat} (ha : a < n) : nth (zbQ n row k) a = decide (a ∈ row.take k) := by unfold zbQ; rw [zi (by simpa using ha)]; simp
theorem zfL (n : Nat) (row : List Nat) : zbQ n row 0 = List.replicate n false := by
 refine zy (by simp [ZZ]) fun i hi => ?_
 rw [ZZ] at hi
 rw [Wr hi, zi (show i < (List.replicate n false).length by simpa using hi)]
 simp
theorem zfK {n : Nat} {row : List Nat} {k : Nat} (hk : k < row.length) (hn : nth row k < n) : zbQ n row (k + 1) = (zbQ n row k).set (nth row k) true := by
 refine zy (by simp [ZZ]) fun i hi => ?_
 rw [ZZ] at hi
 rw [Wr hi, xu hk]
 by_cases e : nth row k = i
 ·rw [e, zh (by rw [ZZ]; exact hi)]
  simp
 ·rw [zg e, Wr hi]
  refine decide_eq_decide.2 ?_
  rw [List.mem_append]
  exact ⟨fun h => h.resolve_right fun h2 => e (List.mem_singleton.1 h2).symm, .inl⟩
theorem zjN {row : List Nat} (hnd : row.Nodup) {k : Nat} (hk : k < row.length) : nth row k ∉ row.take k := fun h => by
 obtain ⟨j, hj, e⟩ := List.getElem_of_mem h
 rw [List.length_take] at hj
 rw [List.getElem_take, zi hk] at e
 have := (List.getElem_inj hnd).1 e
 omega
set_option maxHeartbeats 4000000 in
theorem zbt (n : Nat) (R : Nat → Nat → Bool) (row : List Nat) (hn : n ≤ 1000000) (hlen : row.length = n) (hin : ∀ a ∈ row, a < n) (hnd : row.Nodup) (hno : ∀ i j, i < n → j < i → R (nth row i) (nth row j) = false) : yg Try.prog 30 [zft n R, .list 1 (row.map zQ)] .fr (.bool true) := by
 have hhs := fun a => Uz n R a hn
 have hls := fun a b => WJ n R a b hn
 unfold zft zir at hhs hls ⊢
 obtain ⟨S, hS⟩ : ∃ S, (List.range n).map (setRow n R) = S := ⟨_, rfl⟩
 rw [hS] at hhs hls ⊢
 refine yg.of_body (c := (Zy Try.prog zG zA 56)) ⟨Try.func30, rfl, Try.ntmps30, by kernel_rfl⟩ (by simp [FV.hand]) (by exact Nat.le_of_ble_eq_true rfl) rfl ?_
 change FW _ _ _ ⟨[(0, .eptr 2 [[.int .i64 n, .list 1 S]] 0 0), (1, .list 1 (row.map zQ))], []⟩
 (repeat (first | refine FW.seq ?_ | refine FW.region ?_ | refine zc.nil ?_ | refine za rfl rfl rfl ?_ | refine zb rfl rfl rfl ?_ | refine zm rfl rfl (by first | exact List.length_map _ | rfl | (simp; done)) rfl rfl ?_ | refine YT rfl rfl rfl ?_ | refine ym rfl rfl rfl rfl rfl rfl rfl ?_ | refine zB rfl rfl rfl (by simp; done) rfl rfl rfl rfl rfl ?_ | refine Zc rfl rfl rfl rfl ?_))
 refine FW.cond rfl (fun h => absurd hlen (by have := of_decide_eq_true h; omega)) (fun _ => ?_)
 (repeat (first | refine FW.seq ?_ | refine FW.region ?_ | refine FW.block ?_ | refine FW.skip ?_ | refine zc.nil ?_ | refine za rfl rfl rfl ?_ | refine zb rfl rfl rfl ?_ | refine zm rfl rfl (by first | exact List.length_map _ | rfl | (simp; done) | omega) rfl rfl ?_ | refine YT rfl rfl rfl ?_ | refine ym rfl rfl rfl rfl rfl rfl rfl ?_ | refine zB rfl rfl rfl (by first | omega | (simp; done)) rfl rfl rfl rfl rfl ?_ | refine WP rfl rfl rfl rfl rfl rfl rfl rfl (by first | omega | (simp; done)) (by first | omega | (simp; done)) rfl rfl rfl ?_))
 refine FW.loop (fun k : Nat => ⟨[(0, .eptr 2 [[.int .i64 n, .list 1 S]] 0 0), (1, .list 1 (row.map zQ)), (5, .own 100 0 0 n), (22, .list 1 (row.map zQ)), (23, .int .i64 n), (24, .int .i64 k)], [(100, ⟨0, .own, 4, 1, (zbQ n row k).map zj6⟩)]⟩) (fun k => k ≤ n) (fun k => n - k) 0 (Nat.zero_le _) ?_ ?_
 ·rw [zfL, List.map_replicate, hlen]
  exact (FLe.conv [⟨100, some 21, 0 + 1, ⟨0, .own, 4, 1, List.replicate n [.bool false]⟩⟩] (by simp) (by simp) rfl (by repeat (first | exact .nil | refine .low rfl ?_)) (by repeat (first | exact .nil | refine .old rfl (by decide) rfl ?_)) (by repeat (first | exact .nil | refine .cons (.plain rfl rfl rfl) ?_ | refine .cons (.own rfl (.head _) rfl rfl) ?_)))
 intro k hk
 have hsl := ZZ n row k
 have hss := fun h1 h2 => zfK (n := n) (row := row) (k := k) h1 h2
 have hsn := fun {a} h => Wr (n := n) (row := row) (k := k) (a := a) h
 (repeat (first | refine FW.seq ?_ | refine FW.region ?_ | refine zc.nil ?_ | refine zH rfl rfl rfl rfl ?_))
 refine FW.cond rfl (fun h => ?_) (fun h => ?_)
 ·have hlt : k < n := by
   have := of_decide_eq_true h
   omega
  clear h
  have ha := hin _ (zn (show k < row.length by omega))
  have hss := hss (by omega) ha
  have hsn := hsn ha
  rw [decide_eq_false (zjN hnd (by omega))] at hsn
  have hno := fun j => hno k j hlt
  obtain ⟨a, hra⟩ : ∃ a, nth row k = a := ⟨_, rfl⟩
  rw [hra] at ha hss hsn hno
  have hh := hhs a
  rw [decide_eq_true (show (0 : Int) ≤ a ∧ (a : Int) < n by omega)] at hh
  generalize zbQ n row k = Z at hsl hss hsn ⊢
  (repeat (first | refine FW.seq ?_ | refine FW.region ?_ | refine FW.block ?_ | refine FW.skip ?_ | refine zc.nil ?_ | refine za rfl rfl rfl ?_ | refine zb rfl rfl rfl ?_ | refine zB rfl rfl rfl (by simp; omega) (by first | exact zd (by omega) | rfl) rfl rfl rfl rfl ?_ | refine zD rfl rfl rfl rfl rfl rfl (by simp; omega) rfl rfl ?_))
  rw [hra]
  skip
  refine zJ hh (by repeat (first | exact zj.nil | refine zj.cons (by exact yu.plain rfl rfl) ?_)) rfl rfl ?_
  (repeat (first | refine zc.nil ?_ | refine zb rfl rfl rfl ?_ | refine Yz rfl rfl rfl ?_ | refine zP rfl rfl rfl rfl ?_ | refine zb rfl rfl ⟨_, _, rfl, rfl, rfl⟩ ?_ | refine zx rfl rfl rfl rfl rfl rfl (by decide) rfl (by first | omega | (simp; omega)) rfl ⟨_, _, rfl, rfl, rfl⟩ ?_ | refine zq rfl rfl rfl rfl rfl (by first | omega | (simp; omega)) (by first | exact zd (by omega) | rfl) rfl rfl rfl ⟨_, _, rfl, rfl, rfl⟩ ?_))
  rw [hsn]
  (repeat (first | refine FW.seq ?_ | refine FW.region ?_ | refine FW.block ?_ | refine FW.skip ?_ | refine FW.condF rfl ?_ | refine zc.nil ?_ | refine zb rfl rfl rfl ?_ | refine zm rfl rfl (by first | rfl | omega | (simp; omega)) rfl rfl ?_ | refine zx rfl rfl rfl rfl rfl rfl (by decide) rfl (by first | omega | (simp; omega)) rfl rfl ?_ | refine zZ rfl rfl rfl rfl rfl rfl (by first | omega | (simp; omega)) (by first | exact zd (by omega) | rfl) rfl rfl rfl ?_ | refine zc6 rfl rfl rfl rfl (by exact LoR.none) (by exact HiR.some rfl) (by first | omega | (simp; omega)) (by first | omega | (simp; omega)) rfl rfl ?_))
  rw [show ((row.map zQ).drop 0).take (k - 0) = (row.take k).map zQ by rw [Nat.sub_zero, List.drop_zero, List.map_take]]
  rw [show ((row.take k).map zQ).length = k by rw [List.length_map, List.length_take]; omega]
  refine FW.loop (fun j : Nat => ⟨[(0, .eptr 2 [[.int .i64 n, .list 1 S]] 0 0), (1, .list 1 (row.map zQ)), (5, .own 100 0 0 n), (7, .int .i64 a), (22, .list 1 (row.map zQ)), (23, .int .i64 n), (24, .int .i64 k), (44, .list 1 ((row.take k).map zQ)), (45, .int .i64 k), (46, .int .i64 j)], [(100, ⟨0, .own, 4, 1, (Z.set a true).map zj6⟩)]⟩) (fun j => j ≤ k) (fun j => k - j) 0 (Nat.zero_le _) ?_ ?_
  ·rw [List.map_set]
   exact (FLe.conv [⟨100, some 100, 0, ⟨0, .own, 4, 1, (Z.map zj6).set a (zj6 true)⟩⟩] (by simp) (by simp) rfl (by repeat (first | exact .nil | refine .low rfl ?_)) (by repeat (first | exact .nil | refine .old rfl (by decide) rfl ?_)) (by repeat (first | exact .nil | refine .cons (.plain rfl rfl rfl) ?_ | refine .cons (.own rfl (.head _) rfl rfl) ?_)))
  intro j hj
  (repeat (first | refine FW.seq ?_ | refine FW.region ?_ | refine zc.nil ?_ | refine zH rfl rfl rfl rfl ?_))
  refine FW.cond rfl (fun h => ?_) (fun h => ?_)
  ·have hltj : j < k := by
    have := of_decide_eq_true h
    omega
   clear h
   have htl : (row.take k).length = k := by rw [List.length_take]; omega
   have hnj : nth (row.take k) j = nth row j := by rw [zi (by omega), zi (show j < row.length by omega), List.getElem_take]
   have hb := hin _ (zn (show j < row.length by omega))
   have hno := hno j hltj
   obtain ⟨b, hrb⟩ : ∃ b, nth row j = b := ⟨_, rfl⟩
   rw [hrb] at hb hno hnj
   have hl := hls a b ha hb
   rw [hno] at hl
   generalize row.take k = W at htl hnj ⊢
   (repeat (first | refine FW.seq ?_ | refine FW.region ?_ | refine FW.block ?_ | refine FW.skip ?_ | refine zc.nil ?_ | refine za rfl rfl rfl ?_ | refine zb rfl rfl rfl ?_ | refine zB rfl rfl rfl (by simp; omega) (by first | exact zd (by omega) | rfl) rfl rfl rfl rfl ?_ | refine zD rfl rfl rfl rfl rfl rfl (by simp; omega) rfl rfl ?_))
   rw [hnj]
   skip
   refine zJ hl (by repeat (first | exact zj.nil | refine zj.cons (by exact yu.plain rfl rfl) ?_)) rfl rfl ?_
   (repeat (first | refine FW.region ?_ | refine FW.skip ?_ | refine FW.condF rfl ?_ | refine zc.nil ?_ | refine zb rfl rfl rfl ?_ | refine zu rfl rfl (by omega) rfl rfl ?_))
   exact ⟨j + 1, by omega, by omega, (FLe.conv [⟨100, some 100, 0, ⟨0, .own, 4, 1, (Z.set a true).map zj6⟩⟩] (by simp) (by simp) rfl (by repeat (first | exact .nil | refine .low rfl ?_)) (by repeat (first | exact .nil | refine .old rfl (by decide) rfl ?_)) (by repeat (first | exact .nil | refine .cons (.plain rfl rfl rfl) ?_ | refine .cons (.own rfl (.head _) rfl rfl) ?_)))⟩
  ·(repeat (first | refine FW.region ?_ | refine FW.exit ?_ | refine zc.nil ?_ | refine zb rfl rfl rfl ?_ | refine zu rfl rfl (by omega) rfl rfl ?_))
   refine ⟨k + 1, by omega, by omega, ?_⟩
   rw [hss]
   exact (FLe.conv [⟨100, some 100, 0, ⟨0, .own, 4, 1, (Z.set a true).map zj6⟩⟩] (by simp) (by simp) rfl (by repeat (first | exact .nil | refine .low rfl ?_)) (by repeat (first | exact .nil | refine .old rfl (by decide) rfl ?_)) (by repeat (first | exact .nil | refine .cons (.plain rfl rfl rfl) ?_ | refine .cons (.own rfl (.head _) rfl rfl) ?_)))
 ·obtain rfl : k = n := by
   have := of_decide_eq_false h
   omega
  (repeat (first | refine FW.seq ?_ | refine FW.region ?_ | refine FW.exit ?_ | refine zc.nil ?_ | refine za rfl rfl rfl ?_))
  exact FW.ret ⟨.inl rfl, zO rfl rfl rfl rfl⟩

end Go.Proofs.Ytbeebjdnapkhhaa
