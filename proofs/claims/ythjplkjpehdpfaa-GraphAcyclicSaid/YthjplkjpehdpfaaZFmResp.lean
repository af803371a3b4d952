/-
  simprooflaw03.respects, at plain values: true of a topological order.
-/
import Derived.Test.YthjplkjpehdpfaaZExtPlain
import Derived.Test.YthjplkjpehdpfaaZLawGraphReach
namespace Go.Proofs.Ythjplkjpehdpfaa
set_option linter.unusedVariables false
open Go.RowKit

set_option maxHeartbeats 4000000 in
theorem VO (n : Nat) (E : List (Nat × Nat)) (o : List Int) (hn : n ≤ 12) (hE : InN n E) (hEl : E.length ≤ 1000000) (hO : Ord n E o) : yq Try.prog 16 [.int .i64 n, .list 2 (E.map edf), .list 1 (o.map zm)] .fr (.bool true) := by
 have hpos := fun v h => hO.pos (v := v) h
 obtain ⟨hl, hnd, hr, hf⟩ := hO
 refine yq.of_body (c := (Zf Try.prog zC zt 75)) ⟨Try.func16, rfl, Try.ntmps16, by kernel_rfl⟩ (by simp [FV.hand]) (by exact Nat.le_of_ble_eq_true rfl) rfl ?_
 change FW _ _ _ ⟨[(0, .int .i64 n), (1, .list 2 (E.map edf)), (2, .list 1 (o.map zm))], []⟩
 (repeat (first | refine FW.seq ?_ | refine FW.region ?_ | refine zd.nil ?_ | refine zc rfl rfl rfl ?_ | refine zb rfl rfl rfl ?_ | refine Wg rfl (by first | rfl | exact (Int.toNat_of_nonneg (by omega)).symm) rfl (by first | rfl | exact (Int.toNat_of_nonneg (by omega)).symm) rfl rfl rfl rfl (by first | omega | (simp; omega) | (simp; done)) (by first | omega | (simp; omega) | (simp; done)) rfl rfl rfl ?_ | refine zu rfl rfl (by first | exact List.length_map _ | exact (List.length_map _).symm | exact List.length_replicate | rfl | (simp; done) | omega | (simp; omega)) rfl rfl ?_ | refine zdE rfl rfl rfl rfl ?_))
 rw [show decide ((o.length : Int) ≠ n) = false by rw [hl]; simp]
 refine FW.cond rfl (fun h => by cases h) (fun h => ?_)
 clear h
 (repeat (first | refine FW.seq ?_ | refine FW.region ?_ | refine FW.block ?_ | refine FW.skip ?_ | refine zd.nil ?_ | refine zc rfl rfl rfl ?_))
 obtain ⟨z, hz⟩ : ∃ z, List.replicate n (0 : Int) = z := ⟨_, rfl⟩
 have hzl : z.length = n := by rw [← hz]; simp
 rw [show List.replicate n [FV.int .i64 0] = z.map zm by rw [← hz, List.map_replicate]; rfl]
 clear hz
 refine FW.loop (fun x : Nat × List Int => ⟨[(0, .int .i64 n), (1, .list 2 (E.map edf)), (2, .list 1 (o.map zm)), (7, .own 100 0 0 n), (8, .int .i64 x.1)], [(100, ⟨0, .own, 3, 1, x.2.map zm⟩)]⟩) (fun x => x.1 ≤ n ∧ x.2.length = n ∧ ∀ q, q < x.1 → nth x.2 (nth o q).toNat = q) (fun x => n - x.1) (0, z) ⟨Nat.zero_le _, hzl, fun q hq => by omega⟩ ?_ ?_
 ·show FLe _ ⟨[(0, .int .i64 n), (1, .list 2 (E.map edf)), (2, .list 1 (o.map zm)), (7, .own 100 0 0 n), (8, .int .i64 0)], [(100, ⟨0, .own, 3, 1, z.map zm⟩)]⟩
  exact (FLe.conv [⟨100, some 11, 0 + 1, ⟨0, .own, 3, 1, z.map zm⟩⟩] (by simp) (by simp) rfl (by repeat (first | exact .nil | refine .low rfl ?_ | refine .same rfl ?_ | refine .bump (Nat.lt_succ_self _) ?_)) (by repeat (first | exact .nil | refine .old rfl (by decide) (by first | rfl | (simp; done) | (congr 1; omega) | (simp; omega) | (simp [List.take_of_length_le]; done) | (refine congrArg (FV.int .i64) ?_; omega)) ?_)) (by repeat (first | exact .nil | refine .cons (.plain rfl rfl (by first | rfl | (simp; done) | (congr 1; omega) | (simp; omega) | (simp [List.take_of_length_le]; done) | (refine congrArg (FV.int .i64) ?_; omega))) ?_ | refine .cons (.own rfl (.head _) rfl (by first | rfl | (simp; done) | (congr 1; omega) | (simp; omega) | (simp [List.take_of_length_le]; done) | (refine congrArg (FV.int .i64) ?_; omega))) ?_)))
 rintro ⟨i, A⟩ ⟨hi, hA, hAq⟩
 dsimp only at hi hA hAq ⊢
 (repeat (first | refine FW.seq ?_ | refine FW.region ?_ | refine zd.nil ?_ | refine zb rfl rfl rfl ?_ | refine zQ rfl rfl rfl rfl ?_))
 refine FW.cond rfl (fun h => ?_) (fun h => ?_)
 ·have hlt : i < n := by simpa using h
  clear h
  have hm := zF (l := o) (i := i) (by omega)
  have hmr := hr _ hm
  obtain ⟨v, hv⟩ : ∃ v : Nat, nth o i = v := ⟨(nth o i).toNat, by omega⟩
  rw [hv] at hmr
  have hvn : v < n := by omega
  have hhas : zbl (o.drop (i + 1)) v = false := by
   simp only [zbl, decide_eq_false_iff_not]
   intro hmem
   obtain ⟨q, hq, hqe⟩ := List.getElem_of_mem hmem
   rw [List.length_drop] at hq
   rw [List.getElem_drop] at hqe
   rw [nth_eq (by omega)] at hv
   have : i + 1 + q = i := (List.getElem_inj hnd).1 (hqe.trans hv.symm)
   omega
  (repeat (first | refine FW.seq ?_ | refine FW.block ?_ | refine FW.skip ?_ | refine FW.draw ?_ | refine zE rfl rfl rfl ?_ | refine UT rfl rfl rfl rfl ?_ | refine yw rfl rfl (by first | rfl | exact (Int.toNat_of_nonneg (by omega)).symm) rfl rfl rfl (by first | omega | (simp; omega) | (simp; done)) rfl rfl ?_ | refine yH rfl rfl rfl (by first | omega | (simp; omega) | (simp; done)) (by first | exact zf (by omega) | rfl) rfl rfl rfl rfl ?_))
  rw [hv, show decide ((v : Int) < 0) = false by simp]
  (repeat (first | refine zE rfl rfl rfl ?_ | refine xC rfl rfl rfl rfl ?_ | refine zE rfl rfl ⟨_, _, rfl, rfl, rfl⟩ ?_ | refine yw rfl rfl (by first | rfl | exact (Int.toNat_of_nonneg (by omega)).symm) rfl rfl rfl (by first | omega | (simp; omega) | (simp; done)) rfl ⟨_, _, rfl, rfl, rfl⟩ ?_ | refine yH rfl rfl rfl (by first | omega | (simp; omega) | (simp; done)) (by first | exact zf (by omega) | rfl) rfl rfl rfl ⟨_, _, rfl, rfl, rfl⟩ ?_ | refine zeR rfl rfl rfl ⟨_, _, rfl, rfl, rfl⟩ ?_))
  rw [hv, show decide ((v : Int) ≥ n) = false by simp; omega]
  (repeat (first | refine zE rfl rfl ⟨_, _, rfl, rfl, rfl⟩ ?_ | refine yw rfl rfl (by first | rfl | exact (Int.toNat_of_nonneg (by omega)).symm) rfl rfl rfl (by first | omega | (simp; omega) | (simp; done)) rfl ⟨_, _, rfl, rfl, rfl⟩ ?_ | refine yH rfl rfl rfl (by first | omega | (simp; omega) | (simp; done)) (by first | exact zf (by omega) | rfl) rfl rfl rfl ⟨_, _, rfl, rfl, rfl⟩ ?_ | refine zdo rfl rfl (by omega) rfl ⟨_, _, rfl, rfl, rfl⟩ ?_ | refine UU rfl rfl rfl rfl (by first | exact LoR.none | exact LoR.some rfl | exact LoR.lit rfl (by first | rfl | exact (Int.toNat_of_nonneg (by omega)).symm)) (by first | exact HiR.none | exact HiR.some rfl | exact HiR.lit rfl (by first | rfl | exact (Int.toNat_of_nonneg (by omega)).symm)) (by first | omega | (simp; omega) | (simp; done)) (by first | omega | (simp; omega) | (simp; done)) rfl ⟨_, _, rfl, rfl, rfl⟩ ?_))
  rw [hv, show List.take ((o.map zm).length - (i + 1)) (List.drop (i + 1) (o.map zm)) = (o.drop (i + 1)).map zm by rw [List.map_drop, List.take_of_length_le]; simp]
  have hs := zbm (o.drop (i + 1)) v (by rw [List.length_drop]; omega)
  rw [hhas] at hs
  refine zdp hs (by repeat (first | exact zA.nil | refine zA.cons (by first | exact xz.plain rfl rfl) ?_)) rfl ⟨_, _, rfl, rfl, rfl⟩ ?_
  (repeat (first | refine zx.nil ?_ | refine xC rfl rfl rfl rfl ?_))
  refine ⟨by kernel_rfl, ?_⟩
  refine FW.cond rfl (fun h => by cases h) (fun h => ?_)
  clear h
  (repeat (first | refine FW.region ?_ | refine FW.skip ?_ | refine zd.nil ?_ | refine zc rfl rfl rfl ?_ | refine zb rfl rfl rfl ?_ | refine zD rfl rfl (by first | rfl | exact (Int.toNat_of_nonneg (by omega)).symm) rfl rfl rfl (by first | omega | (simp; omega) | (simp; done)) rfl rfl ?_ | refine zI rfl rfl (by first | rfl | exact (Int.toNat_of_nonneg (by omega)).symm) rfl rfl rfl (by decide) rfl (by first | omega | (simp; omega) | (simp; done)) rfl rfl ?_ | refine zJ rfl rfl rfl (by first | omega | (simp; omega) | (simp; done)) (by first | exact zf (by omega) | rfl) rfl rfl rfl rfl ?_ | refine zB rfl rfl (by omega) rfl rfl ?_ | refine yZ rfl rfl rfl rfl rfl rfl (by first | omega | (simp; omega) | (simp; done)) (by first | exact zf (by omega) | rfl) rfl rfl rfl ?_))
  rw [hv, Int.toNat_natCast]
  rw [show (A.map zm).set v ((zm (nth A v)).set 0 (.int .i64 i)) = (A.set v i).map zm by rw [List.map_set]; rfl]
  refine ⟨(i + 1, A.set v i), ⟨by show i + 1 ≤ n; omega, by show (A.set v i).length = n; rw [List.length_set, hA], fun q hq => ?_⟩, by show n - (i + 1) < n - i; omega, ?_⟩
  ·have hq : q < i + 1 := hq
   show nth (A.set v i) (nth o q).toNat = q
   by_cases e : q = i
   ·subst e
    rw [hv, Int.toNat_natCast, nth_eq (by rw [List.length_set]; omega), List.getElem_set_self]
   ·have h1 := hAq q (by omega)
    have h2 := hr _ (zF (l := o) (i := q) (by omega))
    have h3 : (nth o q).toNat ≠ v := fun h3 => by
     have h4 : nth o q = nth o i := by omega
     rw [nth_eq (by omega), nth_eq (by omega)] at h4
     exact e ((List.getElem_inj hnd).1 h4)
    rw [nth_eq (by omega)] at h1
    rw [nth_eq (by rw [List.length_set]; omega), List.getElem_set_ne (Ne.symm h3), h1]
  ·dsimp only
   obtain ⟨Z, hZ⟩ : ∃ Z, (A.set v (i : Int)).map zm = Z := ⟨_, rfl⟩
   rw [hZ]
   exact (FLe.conv [⟨100, some 100, 0, ⟨0, .own, 3, 1, Z⟩⟩] (by simp) (by simp) rfl (by repeat (first | exact .nil | refine .low rfl ?_ | refine .same rfl ?_ | refine .bump (Nat.lt_succ_self _) ?_)) (by repeat (first | exact .nil | refine .old rfl (by decide) (by first | rfl | (simp; done) | (congr 1; omega) | (simp; omega) | (simp [List.take_of_length_le]; done) | (refine congrArg (FV.int .i64) ?_; omega)) ?_)) (by repeat (first | exact .nil | refine .cons (.plain rfl rfl (by first | rfl | (simp; done) | (congr 1; omega) | (simp; omega) | (simp [List.take_of_length_le]; done) | (refine congrArg (FV.int .i64) ?_; omega))) ?_ | refine .cons (.own rfl (.head _) rfl (by first | rfl | (simp; done) | (congr 1; omega) | (simp; omega) | (simp [List.take_of_length_le]; done) | (refine congrArg (FV.int .i64) ?_; omega))) ?_)))
 ·have he : i = n := by simp at h; omega
  subst he
  clear h
  (repeat (first | refine FW.seq ?_ | refine FW.region ?_ | refine FW.block ?_ | refine FW.exit ?_ | refine zd.nil ?_ | refine zc rfl rfl rfl ?_))
  refine FW.loop (fun k : Nat => ⟨[(1, .list 2 (E.map edf)), (7, .own 100 0 0 i), (9, .int .i64 k)], [(100, ⟨0, .own, 3, 1, A.map zm⟩)]⟩) (fun k => k ≤ E.length) (fun k => E.length - k) 0 (Nat.zero_le _) (FLe.conv [⟨100, some 100, 0, ⟨0, .own, 3, 1, A.map zm⟩⟩] (by simp) (by simp) rfl (by repeat (first | exact .nil | refine .low rfl ?_ | refine .same rfl ?_ | refine .bump (Nat.lt_succ_self _) ?_)) (by repeat (first | exact .nil | refine .old rfl (by decide) (by first | rfl | (simp; done) | (congr 1; omega) | (simp; omega) | (simp [List.take_of_length_le]; done) | (refine congrArg (FV.int .i64) ?_; omega)) ?_)) (by repeat (first | exact .nil | refine .cons (.plain rfl rfl (by first | rfl | (simp; done) | (congr 1; omega) | (simp; omega) | (simp [List.take_of_length_le]; done) | (refine congrArg (FV.int .i64) ?_; omega))) ?_ | refine .cons (.own rfl (.head _) rfl (by first | rfl | (simp; done) | (congr 1; omega) | (simp; omega) | (simp [List.take_of_length_le]; done) | (refine congrArg (FV.int .i64) ?_; omega))) ?_))) ?_
  intro k hk
  (repeat (first | refine FW.seq ?_ | refine FW.region ?_ | refine zd.nil ?_ | refine zb rfl rfl rfl ?_ | refine zu rfl rfl (by first | exact List.length_map _ | exact (List.length_map _).symm | exact List.length_replicate | rfl | (simp; done) | omega | (simp; omega)) rfl rfl ?_ | refine zQ rfl rfl rfl rfl ?_))
  refine FW.cond rfl (fun h => ?_) (fun h => ?_)
  ·have hlt : k < E.length := by simpa using h
   clear h
   have hm := zF hlt
   obtain ⟨p1, hp1, e1⟩ := hpos _ (hE _ hm).1
   obtain ⟨p2, hp2, e2⟩ := hpos _ (hE _ hm).2
   have h12 := hf _ hm p1 p2 hp1 hp2 e1 e2
   have h1 := hAq p1 hp1
   have h2 := hAq p2 hp2
   have h3 := (hE _ hm).1
   have h4 := (hE _ hm).2
   rw [e1, Int.toNat_natCast] at h1
   rw [e2, Int.toNat_natCast] at h2
   (repeat (first | refine FW.seq ?_ | refine FW.block ?_ | refine FW.skip ?_ | refine FW.draw ?_ | refine zx.nil ?_ | refine zE rfl rfl rfl ?_ | refine yw rfl rfl (by first | rfl | exact (Int.toNat_of_nonneg (by omega)).symm) rfl rfl rfl (by first | omega | (simp; omega) | (simp; done)) rfl rfl ?_ | refine ye rfl rfl (by first | rfl | exact (Int.toNat_of_nonneg (by omega)).symm) rfl rfl rfl (by decide) rfl (by first | omega | (simp; omega) | (simp; done)) rfl rfl ?_ | refine Vd rfl rfl (by first | rfl | exact (Int.toNat_of_nonneg (by omega)).symm) rfl rfl rfl (by first | omega | (simp; omega) | (simp; done)) rfl rfl ?_ | refine yH rfl rfl rfl (by first | omega | (simp; omega) | (simp; done)) (by first | exact zf (by omega) | rfl) rfl rfl rfl rfl ?_ | refine yr rfl rfl rfl rfl rfl (by first | omega | (simp; omega) | (simp; done)) (by first | exact zf (by omega) | rfl) rfl rfl rfl rfl ?_ | refine zeR rfl rfl rfl rfl ?_))
   refine ⟨by kernel_rfl, ?_⟩
   refine FW.cond rfl (fun h => ?_) (fun h => ?_)
   ·exfalso
    have h' : nth A (nth E k).fst ≥ nth A (nth E k).snd := by simpa using h
    omega
   clear h
   (repeat (first | refine FW.region ?_ | refine FW.skip ?_ | refine zd.nil ?_ | refine zc rfl rfl rfl ?_ | refine zb rfl rfl rfl ?_ | refine zB rfl rfl (by omega) rfl rfl ?_))
   exact ⟨k + 1, by omega, by omega, (FLe.conv [⟨100, some 100, 0, ⟨0, .own, 3, 1, A.map zm⟩⟩] (by simp) (by simp) rfl (by repeat (first | exact .nil | refine .low rfl ?_ | refine .same rfl ?_ | refine .bump (Nat.lt_succ_self _) ?_)) (by repeat (first | exact .nil | refine .old rfl (by decide) (by first | rfl | (simp; done) | (congr 1; omega) | (simp; omega) | (simp [List.take_of_length_le]; done) | (refine congrArg (FV.int .i64) ?_; omega)) ?_)) (by repeat (first | exact .nil | refine .cons (.plain rfl rfl (by first | rfl | (simp; done) | (congr 1; omega) | (simp; omega) | (simp [List.take_of_length_le]; done) | (refine congrArg (FV.int .i64) ?_; omega))) ?_ | refine .cons (.own rfl (.head _) rfl (by first | rfl | (simp; done) | (congr 1; omega) | (simp; omega) | (simp [List.take_of_length_le]; done) | (refine congrArg (FV.int .i64) ?_; omega))) ?_)))⟩
  ·(repeat (first | refine FW.seq ?_ | refine FW.region ?_ | refine FW.exit ?_ | refine zd.nil ?_ | refine zc rfl rfl rfl ?_))
   exact FW.ret ⟨.inl rfl, yt rfl rfl rfl rfl⟩
end Go.Proofs.Ythjplkjpehdpfaa
