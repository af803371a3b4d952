/-
  simprooflaw21.LinearSequential answers true for every input (walked on plain values).
-/
import Derived.Test.YtbeebjdnapkhhaaZLinOne
import Derived.Test.YtbeebjdnapkhhaaZFmLv21
import Derived.Test.YtbeebjdnapkhhaaZFmLBent
namespace Go.Proofs.Ytbeebjdnapkhhaa
set_option linter.unusedVariables false
open Go.RowKit

set_option maxHeartbeats 8000000 in
theorem YR (l : List Int) (hl : ∀ x ∈ l, I64 x) (hlen : l.length ≤ 9223372036854775807) : yg Try.prog 8 [.list 1 (l.map zJ)] .fr (.bool true) := by
 refine yg.of_body (c := (Yz Try.prog zE zA 96)) ⟨Try.func8, rfl, Try.ntmps8, by kernel_rfl⟩ (by simp [FV.hand]) (by exact Nat.le_of_ble_eq_true rfl) rfl ?_
 change FW _ _ _ ⟨[(0, .list 1 (l.map zJ))], []⟩
 (repeat (first | refine FW.seq ?_ | refine FW.region ?_ | refine zc.nil ?_ | refine za rfl rfl rfl ?_))
 refine We (es := [zJ 0, zJ 0]) rfl rfl rfl (by refine Zw.int rfl rfl ?_; refine Zw.int rfl rfl ?_; exact Zw.nil) rfl rfl rfl rfl rfl rfl ?_
 (repeat (first | refine FW.seq ?_ | refine FW.region ?_ | refine FW.block ?_ | refine zc.nil ?_ | refine za rfl rfl rfl ?_))
 refine FW.loop (fun k : Nat => ⟨[(0, .list 1 (l.map zJ)), (3, .own 100 0 0 k), (4, .own 101 0 0 2), (5, .bool (sqG l k)), (6, .int .i64 k)], [(100, ⟨0, .own, 41, 8, (sqH l k).map OpV.fv⟩), (101, ⟨0, .own, 3, 1, (zbB l k).map zJ⟩)]⟩) (fun k => k ≤ l.length ∧ k ≤ 12) (fun k => 12 - k) 0 ⟨by omega, by omega⟩ ?_ ?_
 ·show FLe _ ⟨[(0, .list 1 (l.map zJ)), (3, .own 100 0 0 0), (4, .own 101 0 0 2), (5, .bool true), (6, .int .i64 0)], [(100, ⟨0, .own, 41, 8, []⟩), (101, ⟨0, .own, 3, 1, [zJ 0, zJ 0]⟩)]⟩
  exact (FLe.conv [⟨100, none, 0, ⟨0, .own, 41, 8, []⟩⟩, ⟨101, some 11, 0 + 1, ⟨0, .own, 3, 1, [zJ 0, zJ 0]⟩⟩] (by simp) (by simp) rfl (by repeat (first | exact .nil | refine .low rfl ?_)) (by repeat (first | exact .nil | refine .old rfl (by decide) rfl ?_ | refine .new ?_)) (by repeat (first | exact .nil | refine .cons (.plain rfl rfl rfl) ?_ | refine .cons (.nil rfl (.head _) rfl) ?_ | refine .cons (.own rfl (.tail _ (.head _)) rfl rfl) ?_)))
 rintro k ⟨hk1, hk2⟩
 have hC := Yp (sqH l k) (by rw [xp]; omega) (zkm hk2)
 have hE : zcT (sqH l k) = 0 := by
  unfold zcT
  rw [if_neg (by simp [(zkn hk2).check]), if_pos zcK]
 have hF : ziC (sqH l k) = (zgk (sqH l k)).fv := by unfold ziC; rw [hE, if_neg (by decide)]
 have hsq := zig (l := l) hk2
 rw [hE, hF] at hC
 obtain ⟨V, hV⟩ : ∃ V, zgk (sqH l k) = V := ⟨_, rfl⟩
 rw [hV] at hC hsq
 obtain ⟨vk, va, o, ed⟩ := V
 dsimp only [zkr.fv] at hC hsq
 have hdec : decide (vk = 0) = sqG l k := by
  rw [Bool.eq_iff_iff, decide_eq_true_eq]
  exact hsq
 have hHl := xp l k
 have hTl := Wj l k
 (repeat (first | refine FW.seq ?_ | refine FW.region ?_ | refine zb rfl rfl rfl ?_ | refine zu rfl rfl (by exact List.length_map _) rfl rfl ?_ | refine zL rfl rfl rfl rfl ?_))
 refine Zq (fun hc => ?_) (fun hc => ?_)
 ·have hlt : k < l.length := by simpa using hc
  (repeat (first | refine zc.nil ?_ | refine zO rfl rfl rfl rfl ?_ | refine zb rfl rfl ⟨_, _, rfl, rfl, rfl⟩ ?_ | refine zL rfl rfl rfl ⟨_, _, rfl, rfl, rfl⟩ ?_))
  refine FW.cond rfl (fun hc2 => ?_) (fun hc2 => ?_)
  ·have h12 : k < 12 := by
    have := of_decide_eq_true hc2
    omega
   clear hc2
   have hA := zc0 (nth l k) 10000 (hl _ (zj hlt)) (by decide) (by decide)
   have hn : zX (nth l k) 10000 = (sqN l k : Nat) := by
    have := YF (n := nth l k) (most := 10000) (by decide)
    unfold sqN; omega
   have hn2 : sqN l k < 10000 := by
    have := zfw (n := nth l k) (most := 10000) (by decide)
    omega
   rw [hn] at hA
   (repeat (first | refine FW.seq ?_ | refine FW.region ?_ | refine FW.block ?_ | refine FW.skip ?_ | refine zb rfl rfl rfl ?_ | refine zB rfl rfl rfl rfl rfl rfl (by simp; omega) rfl rfl ?_ | refine zC rfl rfl rfl (by simp; omega) (by first | exact zg (by omega) | rfl) rfl rfl rfl rfl ?_))
   refine zS hA (by repeat (first | exact zp.nil | refine zp.cons (by exact xB.plain rfl rfl) ?_)) rfl rfl ?_
   obtain ⟨n, hN⟩ : ∃ n, sqN l k = n := ⟨_, rfl⟩
   rw [hN] at hn2 ⊢
   (repeat (first | refine FW.seq ?_ | refine FW.region ?_ | refine zc.nil ?_ | refine za rfl rfl rfl ?_ | refine zb rfl rfl rfl ?_ | refine zw rfl rfl rfl rfl rfl (by simp; done) rfl rfl rfl rfl rfl ?_ | refine zef rfl rfl (by omega) rfl rfl ?_ | refine zee rfl rfl (by omega) rfl rfl ?_ | refine zkg rfl rfl (by omega) rfl rfl ?_ | refine zx rfl rfl (by omega) rfl rfl ?_ | refine yB rfl rfl rfl rfl ?_ | refine zV rfl rfl rfl rfl rfl rfl rfl ?_ | refine zy rfl rfl rfl rfl rfl rfl rfl rfl rfl ?_ | refine zt rfl rfl rfl rfl rfl rfl (by decide) rfl rfl ?_ | refine xx rfl rfl rfl rfl ?_ | refine yI.nil ?_ | refine yI.one rfl rfl rfl rfl rfl ?_))
   have hTs := zcJ l k
   have hHs := zie l k
   have hGs := zid l k
   have hGd : ziL l k = (decide ((XC l k).k = 1) || decide ((XC l k).res = nth (zbB l k) (n / 2 % 2))) := by unfold ziL; rw [hN]
   have hAt : XC l k = zkk n k (zbB l k) := by unfold XC; rw [hN]
   unfold zkk at hAt
   rw [hN] at hTs
   obtain ⟨c, hc2, hcn⟩ : ∃ c, c < 2 ∧ n / 2 % 2 = c := ⟨_, Nat.mod_lt _ (by decide), rfl⟩
   rw [show (n : Int) / 2 % 2 = (c : Nat) by omega]
   rw [hcn] at hAt hTs hGd
   generalize zbB l k = S at hTl hTs hAt hGd ⊢
   generalize sqG l k = G at hGs ⊢
   generalize sqH l k = H at hHl hHs ⊢
   by_cases hodd : n % 2 = 1
   ·rw [if_pos hodd] at hTs hAt
    rw [hAt] at hGd hHs
    rw [show ziL l k = true by rw [hGd]; rfl, Bool.and_true] at hGs
    rw [show (n : Int) % 2 = 1 by omega]
    (repeat (first | refine FW.seq ?_ | refine FW.region ?_ | refine FW.condT rfl ?_ | refine zc.nil ?_ | refine za rfl rfl rfl ?_ | refine ym rfl rfl rfl rfl rfl rfl rfl rfl rfl rfl ?_ | refine zb rfl rfl rfl ?_ | refine zF rfl rfl rfl rfl rfl rfl (by decide) rfl (by first | omega | (simp; omega) | (simp; done)) rfl rfl ?_ | refine zw rfl rfl rfl rfl rfl (by first | omega | (simp; omega) | (simp; done)) (by first | exact zg (by omega) | rfl) rfl rfl rfl rfl ?_ | refine zI rfl rfl rfl (by decide) rfl rfl (by first | omega | (simp; omega) | (simp; done)) (by first | exact zg (by omega) | rfl) rfl rfl rfl ?_ | refine zx rfl rfl (by omega) rfl rfl ?_ | refine Zr rfl rfl rfl rfl rfl rfl rfl rfl rfl ?_ | refine xh rfl rfl rfl rfl rfl rfl (by first | omega | (simp; omega) | (simp; done)) (by first | exact zg (by omega) | rfl) rfl rfl rfl ?_ | refine zt rfl rfl rfl rfl rfl rfl (by decide) rfl rfl ?_ | refine yU rfl rfl (by first | rfl | (simp; done) | omega | (simp; omega)) rfl rfl rfl (by decide) (by exact XH.own rfl rfl (by decide) (by first | exact List.length_map _ | exact (List.length_map _).symm | exact List.length_replicate | rfl | (simp; done) | omega | (simp; omega))) (by first | omega | (simp; omega) | (simp; done)) (by first | omega | (simp; omega) | (simp; done)) rfl rfl rfl ?_))
    refine ⟨k + 1, ⟨by omega, by omega⟩, by omega, ?_⟩
    rw [hGs, hHs, hTs, List.map_append, List.map_set]
    exact (FLe.conv [⟨100, some 78, 0 + 1, ⟨0, .own, 41, 8, H.map OpV.fv ++ [⟨0, 1, (c : Nat), (k : Int) + 1, 0, 2 * k, 2 * k + 1, true⟩].map OpV.fv⟩⟩, ⟨101, some 101, 0, ⟨0, .own, 3, 1, (S.map zJ).set c (zJ ((k : Int) + 1))⟩⟩] (by simp) (by simp) rfl (by repeat (first | exact .nil | refine .low rfl ?_)) (by repeat (first | exact .nil | refine .old rfl (by decide) (by first | rfl | (simp; omega)) ?_)) (by repeat (first | exact .nil | refine .cons (.plain rfl rfl (by first | rfl | (simp; omega))) ?_ | refine .cons (.own rfl (.head _) rfl (by first | rfl | (simp; omega))) ?_ | refine .cons (.own rfl (.tail _ (.head _)) rfl (by first | rfl | (simp; omega))) ?_)))
   ·rw [if_neg hodd] at hTs hAt
    rw [show (n : Int) % 2 = 0 by omega]
    (repeat (first | refine FW.seq ?_ | refine FW.region ?_ | refine FW.condF rfl ?_ | refine zc.nil ?_ | refine zb rfl rfl rfl ?_ | refine zF rfl rfl rfl rfl rfl rfl (by decide) rfl (by first | omega | (simp; omega) | (simp; done)) rfl rfl ?_ | refine zw rfl rfl rfl rfl rfl (by first | omega | (simp; omega) | (simp; done)) (by first | exact zg (by omega) | rfl) rfl rfl rfl rfl ?_ | refine zef rfl rfl (by omega) rfl rfl ?_ | refine zee rfl rfl (by omega) rfl rfl ?_ | refine Zr rfl rfl rfl rfl rfl rfl rfl rfl rfl ?_ | refine zt rfl rfl rfl rfl rfl rfl (by decide) rfl rfl ?_ | refine xx rfl rfl rfl rfl ?_))
    refine FW.cond rfl (fun h9 => ?_) (fun h9 => ?_)
    ·have h9 : n / 4 % 9 = 0 := by
      have := of_decide_eq_true h9
      omega
     rw [if_pos h9] at hAt
     rw [hAt] at hGd hHs
     rw [show ziL l k = decide (((n / 36 % 13 : Nat) : Int) = nth S c) by rw [hGd]; rfl] at hGs
     (repeat (first | refine FW.region ?_ | refine zc.nil ?_ | refine zb rfl rfl rfl ?_ | refine zef rfl rfl (by omega) rfl rfl ?_ | refine zee rfl rfl (by omega) rfl rfl ?_ | refine Zr rfl rfl rfl rfl rfl rfl rfl rfl rfl ?_ | refine zt rfl rfl rfl rfl rfl rfl (by decide) rfl rfl ?_))
     rw [show (n : Int) / 36 % 13 = (n / 36 % 13 : Nat) by omega]
     obtain ⟨r, hr⟩ : ∃ r : Nat, n / 36 % 13 = r := ⟨_, rfl⟩
     rw [hr] at hGs hHs ⊢
     (repeat (first | refine FW.draw ?_ | refine yc rfl rfl rfl ?_))
     refine zbo (fun hG => ?_) (fun hG => ?_)
     ·(repeat (first | refine zD.nil ?_ | refine yt rfl rfl rfl ?_ | refine Wd rfl rfl rfl rfl ?_ | refine yc rfl rfl ⟨_, _, rfl, rfl, rfl⟩ ?_ | refine xX rfl rfl rfl rfl rfl rfl (by decide) rfl ⟨_, _, rfl, rfl, rfl⟩ ?_ | refine xQ rfl rfl rfl rfl rfl (by first | omega | (simp; omega) | (simp; done)) (by first | exact zg (by omega) | rfl) rfl rfl rfl ⟨_, _, rfl, rfl, rfl⟩ ?_ | refine xf rfl rfl rfl rfl rfl rfl (by decide) rfl (by first | omega | (simp; omega) | (simp; done)) rfl ⟨_, _, rfl, rfl, rfl⟩ ?_ | refine zgz rfl rfl rfl ⟨_, _, rfl, rfl, rfl⟩ ?_))
      refine ⟨by kernel_rfl, ?_⟩
      rw [hG, Bool.true_and] at hGs
      (repeat (first | refine FW.region ?_ | refine zc.nil ?_ | refine za rfl rfl rfl ?_ | refine ym rfl rfl rfl rfl rfl rfl rfl rfl rfl rfl ?_ | refine zb rfl rfl rfl ?_ | refine zI rfl rfl rfl (by decide) rfl rfl (by first | (simp; omega) | (simp; done)) rfl rfl rfl rfl ?_ | refine zx rfl rfl (by omega) rfl rfl ?_ | refine yU rfl rfl (by first | rfl | (simp; done) | (simp; omega)) rfl rfl rfl (by decide) (by exact XH.own rfl rfl (by decide) (by first | exact List.length_map _ | exact (List.length_map _).symm | exact List.length_replicate | rfl | (simp; done) | omega | (simp; omega))) (by first | (simp; omega) | (simp; done)) (by first | (simp; omega) | (simp; done)) rfl rfl rfl ?_))
      refine ⟨k + 1, ⟨by omega, by omega⟩, by omega, ?_⟩
      rw [hGs, hHs, hTs, List.map_append]
      exact (FLe.conv [⟨100, some 78, 0 + 1, ⟨0, .own, 41, 8, H.map OpV.fv ++ [⟨0, 0, (c : Nat), 0, (r : Nat), 2 * k, 2 * k + 1, true⟩].map OpV.fv⟩⟩, ⟨101, some 101, 0, ⟨0, .own, 3, 1, S.map zJ⟩⟩] (by simp) (by simp) rfl (by repeat (first | exact .nil | refine .low rfl ?_)) (by repeat (first | exact .nil | refine .old rfl (by decide) (by first | rfl | (simp; omega)) ?_)) (by repeat (first | exact .nil | refine .cons (.plain rfl rfl (by first | rfl | (simp; omega))) ?_ | refine .cons (.own rfl (.head _) rfl (by first | rfl | (simp; omega))) ?_ | refine .cons (.own rfl (.tail _ (.head _)) rfl (by first | rfl | (simp; omega))) ?_)))
     ·(repeat (first | refine zD.nil ?_ | refine yt rfl rfl rfl ?_ | refine Wc rfl rfl rfl rfl ?_ | refine Up rfl rfl ⟨_, _, rfl, rfl, rfl⟩ ?_))
      refine ⟨by kernel_rfl, ?_⟩
      rw [hG, Bool.false_and] at hGs
      (repeat (first | refine FW.region ?_ | refine zc.nil ?_ | refine za rfl rfl rfl ?_ | refine ym rfl rfl rfl rfl rfl rfl rfl rfl rfl rfl ?_ | refine zb rfl rfl rfl ?_ | refine zI rfl rfl rfl (by decide) rfl rfl (by first | (simp; omega) | (simp; done)) rfl rfl rfl rfl ?_ | refine zx rfl rfl (by omega) rfl rfl ?_ | refine yU rfl rfl (by first | rfl | (simp; done) | (simp; omega)) rfl rfl rfl (by decide) (by exact XH.own rfl rfl (by decide) (by first | exact List.length_map _ | exact (List.length_map _).symm | exact List.length_replicate | rfl | (simp; done) | omega | (simp; omega))) (by first | (simp; omega) | (simp; done)) (by first | (simp; omega) | (simp; done)) rfl rfl rfl ?_))
      refine ⟨k + 1, ⟨by omega, by omega⟩, by omega, ?_⟩
      rw [hGs, hHs, hTs, List.map_append]
      exact (FLe.conv [⟨100, some 78, 0 + 1, ⟨0, .own, 41, 8, H.map OpV.fv ++ [⟨0, 0, (c : Nat), 0, (r : Nat), 2 * k, 2 * k + 1, true⟩].map OpV.fv⟩⟩, ⟨101, some 101, 0, ⟨0, .own, 3, 1, S.map zJ⟩⟩] (by simp) (by simp) rfl (by repeat (first | exact .nil | refine .low rfl ?_)) (by repeat (first | exact .nil | refine .old rfl (by decide) (by first | rfl | (simp; omega)) ?_)) (by repeat (first | exact .nil | refine .cons (.plain rfl rfl (by first | rfl | (simp; omega))) ?_ | refine .cons (.own rfl (.head _) rfl (by first | rfl | (simp; omega))) ?_ | refine .cons (.own rfl (.tail _ (.head _)) rfl (by first | rfl | (simp; omega))) ?_)))
    ·have h9 : ¬ n / 4 % 9 = 0 := by
      have := of_decide_eq_false h9
      omega
     rw [if_neg h9] at hAt
     rw [hAt] at hGd hHs
     rw [show ziL l k = decide (nth S c = nth S c) by rw [hGd]; rfl] at hGs
     obtain ⟨r, hr⟩ : ∃ r, nth S c = r := ⟨_, rfl⟩
     (repeat (first | refine FW.skip ?_ | refine FW.draw ?_ | refine yc rfl rfl rfl ?_))
     refine zbo (fun hG => ?_) (fun hG => ?_)
     ·(repeat (first | refine zD.nil ?_ | refine yt rfl rfl rfl ?_ | refine Wd rfl rfl rfl rfl ?_ | refine yc rfl rfl ⟨_, _, rfl, rfl, rfl⟩ ?_ | refine xX rfl rfl rfl rfl rfl rfl (by decide) rfl ⟨_, _, rfl, rfl, rfl⟩ ?_ | refine xQ rfl rfl rfl rfl rfl (by first | omega | (simp; omega) | (simp; done)) (by first | exact zg (by omega) | rfl) rfl rfl rfl ⟨_, _, rfl, rfl, rfl⟩ ?_ | refine xf rfl rfl rfl rfl rfl rfl (by decide) rfl (by first | omega | (simp; omega) | (simp; done)) rfl ⟨_, _, rfl, rfl, rfl⟩ ?_ | refine zgz rfl rfl rfl ⟨_, _, rfl, rfl, rfl⟩ ?_))
      refine ⟨by kernel_rfl, ?_⟩
      rw [hG, Bool.true_and] at hGs
      (repeat (first | refine FW.region ?_ | refine zc.nil ?_ | refine za rfl rfl rfl ?_ | refine ym rfl rfl rfl rfl rfl rfl rfl rfl rfl rfl ?_ | refine zb rfl rfl rfl ?_ | refine zI rfl rfl rfl (by decide) rfl rfl (by first | (simp; omega) | (simp; done)) rfl rfl rfl rfl ?_ | refine zx rfl rfl (by omega) rfl rfl ?_ | refine yU rfl rfl (by first | rfl | (simp; done) | (simp; omega)) rfl rfl rfl (by decide) (by exact XH.own rfl rfl (by decide) (by first | exact List.length_map _ | exact (List.length_map _).symm | exact List.length_replicate | rfl | (simp; done) | omega | (simp; omega))) (by first | (simp; omega) | (simp; done)) (by first | (simp; omega) | (simp; done)) rfl rfl rfl ?_))
      refine ⟨k + 1, ⟨by omega, by omega⟩, by omega, ?_⟩
      rw [hGs, hHs, hTs, List.map_append]
      exact (FLe.conv [⟨100, some 78, 0 + 1, ⟨0, .own, 41, 8, H.map OpV.fv ++ [⟨0, 0, (c : Nat), 0, nth S c, 2 * k, 2 * k + 1, true⟩].map OpV.fv⟩⟩, ⟨101, some 101, 0, ⟨0, .own, 3, 1, S.map zJ⟩⟩] (by simp) (by simp) rfl (by repeat (first | exact .nil | refine .low rfl ?_)) (by repeat (first | exact .nil | refine .old rfl (by decide) (by first | rfl | (simp; omega)) ?_)) (by repeat (first | exact .nil | refine .cons (.plain rfl rfl (by first | rfl | (simp; omega))) ?_ | refine .cons (.own rfl (.head _) rfl (by first | rfl | (simp; omega))) ?_ | refine .cons (.own rfl (.tail _ (.head _)) rfl (by first | rfl | (simp; omega))) ?_)))
     ·(repeat (first | refine zD.nil ?_ | refine yt rfl rfl rfl ?_ | refine Wc rfl rfl rfl rfl ?_ | refine Up rfl rfl ⟨_, _, rfl, rfl, rfl⟩ ?_))
      refine ⟨by kernel_rfl, ?_⟩
      rw [hG, Bool.false_and] at hGs
      (repeat (first | refine FW.region ?_ | refine zc.nil ?_ | refine za rfl rfl rfl ?_ | refine ym rfl rfl rfl rfl rfl rfl rfl rfl rfl rfl ?_ | refine zb rfl rfl rfl ?_ | refine zI rfl rfl rfl (by decide) rfl rfl (by first | (simp; omega) | (simp; done)) rfl rfl rfl rfl ?_ | refine zx rfl rfl (by omega) rfl rfl ?_ | refine yU rfl rfl (by first | rfl | (simp; done) | (simp; omega)) rfl rfl rfl (by decide) (by exact XH.own rfl rfl (by decide) (by first | exact List.length_map _ | exact (List.length_map _).symm | exact List.length_replicate | rfl | (simp; done) | omega | (simp; omega))) (by first | (simp; omega) | (simp; done)) (by first | (simp; omega) | (simp; done)) rfl rfl rfl ?_))
      refine ⟨k + 1, ⟨by omega, by omega⟩, by omega, ?_⟩
      rw [hGs, hHs, hTs, List.map_append]
      exact (FLe.conv [⟨100, some 78, 0 + 1, ⟨0, .own, 41, 8, H.map OpV.fv ++ [⟨0, 0, (c : Nat), 0, nth S c, 2 * k, 2 * k + 1, true⟩].map OpV.fv⟩⟩, ⟨101, some 101, 0, ⟨0, .own, 3, 1, S.map zJ⟩⟩] (by simp) (by simp) rfl (by repeat (first | exact .nil | refine .low rfl ?_)) (by repeat (first | exact .nil | refine .old rfl (by decide) (by first | rfl | (simp; omega)) ?_)) (by repeat (first | exact .nil | refine .cons (.plain rfl rfl (by first | rfl | (simp; omega))) ?_ | refine .cons (.own rfl (.head _) rfl (by first | rfl | (simp; omega))) ?_ | refine .cons (.own rfl (.tail _ (.head _)) rfl (by first | rfl | (simp; omega))) ?_)))
  ·(repeat (first | refine FW.seq ?_ | refine FW.region ?_ | refine FW.exit ?_ | refine zb rfl rfl rfl ?_))
   refine zc.le ?_ (FLe.share 3 rfl rfl (show k = ((sqH l k).map OpV.fv).length by rw [List.length_map, xp]))
   refine xE hC (by repeat (first | exact zp.nil | refine zp.cons (by exact xB.own rfl rfl (by decide) (by first | exact (fun _ => rfl) | (intro h; cases h)) (by first | rfl | (simp; done) | (congr 1; omega) | (simp; omega) | (simp [List.take_of_length_le]; done) | (refine congrArg (FV.int .i64) ?_; omega))) ?_)) rfl rfl ?_
   (repeat (first | refine FW.seq ?_ | refine FW.region ?_ | refine zc.nil ?_ | refine za rfl rfl rfl ?_ | refine zb rfl rfl rfl ?_ | refine zO rfl rfl rfl rfl ?_ | refine zV rfl rfl rfl rfl rfl rfl rfl ?_ | refine zy rfl rfl rfl rfl rfl rfl rfl rfl rfl ?_ | refine xx rfl rfl rfl rfl ?_ | refine zH rfl rfl rfl rfl rfl ?_ | refine zb rfl rfl ⟨_, _, rfl, rfl, rfl⟩ ?_ | refine zt rfl rfl rfl rfl rfl rfl (by decide) rfl ⟨_, _, rfl, rfl, rfl⟩ ?_ | refine zw rfl rfl rfl rfl rfl (by simp; done) rfl rfl rfl rfl ⟨_, _, rfl, rfl, rfl⟩ ?_ | refine xx rfl rfl rfl ⟨_, _, rfl, rfl, rfl⟩ ?_ | refine zgN rfl rfl rfl rfl ⟨_, _, rfl, rfl, rfl⟩ ?_))
   rw [show (decide (vk = 0)) = sqG l k from hdec]
   skip
   rw [show decide (sqG l k = sqG l k) = true from decide_eq_true rfl]
   skip
   refine zS WN (by repeat (first | exact zp.nil)) rfl ⟨_, _, rfl, rfl, rfl⟩ ?_
   (repeat (first | refine zc.nil ?_ | refine za rfl rfl rfl ?_ | refine zO rfl rfl rfl rfl ?_))
   refine FW.ret ⟨.inl rfl, zY rfl rfl rfl rfl⟩
 ·(repeat (first | refine FW.seq ?_ | refine FW.region ?_ | refine FW.exit ?_ | refine FW.condF rfl ?_ | refine zc.nil ?_ | refine zb rfl rfl rfl ?_ | refine yh rfl rfl rfl rfl ?_ | refine xF rfl rfl ⟨_, _, rfl, rfl, rfl⟩ ?_))
  refine zc.le ?_ (FLe.share 3 rfl rfl (show k = ((sqH l k).map OpV.fv).length by rw [List.length_map, xp]))
  refine xE hC (by repeat (first | exact zp.nil | refine zp.cons (by exact xB.own rfl rfl (by decide) (by first | exact (fun _ => rfl) | (intro h; cases h)) (by first | rfl | (simp; done) | (congr 1; omega) | (simp; omega) | (simp [List.take_of_length_le]; done) | (refine congrArg (FV.int .i64) ?_; omega))) ?_)) rfl rfl ?_
  (repeat (first | refine FW.seq ?_ | refine FW.region ?_ | refine zc.nil ?_ | refine za rfl rfl rfl ?_ | refine zb rfl rfl rfl ?_ | refine zO rfl rfl rfl rfl ?_ | refine zV rfl rfl rfl rfl rfl rfl rfl ?_ | refine zy rfl rfl rfl rfl rfl rfl rfl rfl rfl ?_ | refine xx rfl rfl rfl rfl ?_ | refine zH rfl rfl rfl rfl rfl ?_ | refine zb rfl rfl ⟨_, _, rfl, rfl, rfl⟩ ?_ | refine zt rfl rfl rfl rfl rfl rfl (by decide) rfl ⟨_, _, rfl, rfl, rfl⟩ ?_ | refine zw rfl rfl rfl rfl rfl (by simp; done) rfl rfl rfl rfl ⟨_, _, rfl, rfl, rfl⟩ ?_ | refine xx rfl rfl rfl ⟨_, _, rfl, rfl, rfl⟩ ?_ | refine zgN rfl rfl rfl rfl ⟨_, _, rfl, rfl, rfl⟩ ?_))
  rw [show (decide (vk = 0)) = sqG l k from hdec]
  skip
  rw [show decide (sqG l k = sqG l k) = true from decide_eq_true rfl]
  skip
  refine zS WN (by repeat (first | exact zp.nil)) rfl ⟨_, _, rfl, rfl, rfl⟩ ?_
  (repeat (first | refine zc.nil ?_ | refine za rfl rfl rfl ?_ | refine zO rfl rfl rfl rfl ?_))
  refine FW.ret ⟨.inl rfl, zY rfl rfl rfl rfl⟩

end Go.Proofs.Ytbeebjdnapkhhaa
