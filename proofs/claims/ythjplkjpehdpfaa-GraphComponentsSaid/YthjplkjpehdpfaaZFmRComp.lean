/-
  The reference's components, and its comparison of lists of lists.
-/
import Derived.Test.YthjplkjpehdpfaaZFmComps
import Derived.Test.YthjplkjpehdpfaaZFmRReach
import Derived.Test.YthjplkjpehdpfaaZFmLives03
namespace Go.Proofs.Ythjplkjpehdpfaa
set_option linter.unusedVariables false
open Go.RowKit

open Classical in
noncomputable def lTo (E : List (Nat × Nat)) (v w : Nat) : List Nat := (List.range w).filter fun b => decide (Rr (nxE E) v b ∧ Rr (nxE E) b v)
open Classical in
theorem zee (E : List (Nat × Nat)) (v w : Nat) : lTo E v (w + 1) = lTo E v w ++ if Rr (nxE E) v w ∧ Rr (nxE E) w v then [w] else [] := by
 unfold lTo
 rw [List.range_succ, List.filter_append]
 congr 1
 by_cases h : Rr (nxE E) v w ∧ Rr (nxE E) w v
 ·rw [if_pos h, List.filter_cons_of_pos (by exact decide_eq_true h)]; rfl
 ·rw [if_neg h, List.filter_cons_of_neg (by simpa using h)]; rfl
theorem zc6 (E : List (Nat × Nat)) (v w : Nat) : (lTo E v w).length ≤ w := by unfold lTo; exact Nat.le_trans (List.length_filter_le _ _) (by simp)
noncomputable def cTo (n : Nat) (E : List (Nat × Nat)) (v : Nat) : List (List Nat) := ((List.range v).filter fun v => decide (hdN (xb (nxE E) n v) = v)).map (xb (nxE E) n)
theorem zdW (n : Nat) (E : List (Nat × Nat)) (v : Nat) : cTo n E (v + 1) = cTo n E v ++ if hdN (xb (nxE E) n v) = v then [xb (nxE E) n v] else [] := by
 unfold cTo
 rw [List.range_succ, List.filter_append, List.map_append]
 congr 1
 by_cases h : hdN (xb (nxE E) n v) = v
 ·rw [if_pos h, List.filter_cons_of_pos (by exact decide_eq_true h)]; rfl
 ·rw [if_neg h, List.filter_cons_of_neg (by simpa using h)]; rfl
theorem zcH (n : Nat) (E : List (Nat × Nat)) (v : Nat) : (cTo n E v).length ≤ v := by unfold cTo; rw [List.length_map]; exact Nat.le_trans (List.length_filter_le _ _) (by simp)
def VU (n : Nat) (E : List (Nat × Nat)) (i : Nat) : List (List Int) := (List.range i).map fun v : Nat => yD n E [(v : Int)]
theorem zdj (n : Nat) (E : List (Nat × Nat)) (i : Nat) : VU n E (i + 1) = VU n E i ++ [yD n E [(i : Int)]] := by unfold VU; rw [List.range_succ, List.map_append]; rfl
theorem VK (n : Nat) (E : List (Nat × Nat)) (i : Nat) : (VU n E i).length = i := by simp [VU]
theorem zbs {n : Nat} {E : List (Nat × Nat)} {i v : Nat} (h : v < i) : nth (VU n E i) v = yD n E [(v : Int)] := by rw [nth_eq (by rw [VK]; exact h)]; simp [VU]
theorem Ul (n : Nat) (E : List (Nat × Nat)) (fr : List Int) : (yD n E fr).length ≤ n := UF _ _
set_option maxHeartbeats 8000000 in
theorem Ze (n : Nat) (E : List (Nat × Nat)) (hn : n ≤ 12) (hE : E.length ≤ 100000) (hin : InN n E) : yf Try.prog 12 [.int .i64 n, .list 2 (E.map edf)] .sh (.list 1 ((xf n E).map yZ)) := by
 have hR := fun v : Nat => zaP n E [(v : Int)] (by omega) hE hin (by simp)
 refine yf.of_body (c := (xX Try.prog zA zt 62)) ⟨Try.func12, rfl, Try.ntmps12, by kernel_rfl⟩ (by simp [FV.hand]) (by exact Nat.le_of_ble_eq_true rfl) rfl ?_
 change FW _ _ _ ⟨[(0, .int .i64 n), (1, .list 2 (E.map edf))], []⟩
 (repeat (first | refine FW.seq ?_ | refine FW.region ?_ | refine FW.block ?_ | refine zd.nil ?_ | refine zc rfl rfl rfl ?_))
 refine FW.loop (fun i : Nat => ⟨[(0, .int .i64 n), (1, .list 2 (E.map edf)), (5, .own 100 0 0 i), (6, .int .i64 i)], [(100, ⟨0, .own, 22, 1, (VU n E i).map yF⟩)]⟩) (fun i => i ≤ n) (fun i => n - i) 0 (Nat.zero_le _) ?_ ?_
 ·show FLe _ ⟨[(0, .int .i64 n), (1, .list 2 (E.map edf)), (5, .own 100 0 0 0), (6, .int .i64 0)], [(100, ⟨0, .own, 22, 1, []⟩)]⟩
  exact (FLe.conv [⟨100, none, 0, ⟨0, .own, 22, 1, []⟩⟩] (by simp) (by simp) rfl (by repeat (first | exact .nil | refine .low rfl ?_)) (by repeat (first | exact .nil | refine .new ?_)) (by repeat (first | exact .nil | refine .cons (.plain rfl rfl rfl) ?_ | refine .cons (.nil rfl (.head _) rfl) ?_)))
 intro i hi
 have hrl := VK n E i
 have hrs := zdj n E i
 have hrn : i = n → VU n E n = VU n E i := fun e => by rw [e]
 generalize VU n E i = RR at hrl hrs hrn ⊢
 (repeat (first | refine FW.seq ?_ | refine FW.region ?_ | refine zd.nil ?_ | refine zb rfl rfl rfl ?_ | refine zK rfl rfl rfl rfl ?_))
 refine FW.cond rfl (fun h => ?_) (fun h => ?_)
 ·have hlt : i < n := by simpa using h
  clear h hrn
  (repeat (first | refine FW.seq ?_ | refine FW.region ?_ | refine FW.block ?_ | refine FW.skip ?_ | refine zb rfl rfl rfl ?_ | refine zL rfl rfl rfl rfl rfl rfl rfl rfl ?_))
  refine zd.le ?_ (FLe.share 20 rfl rfl rfl)
  refine yJ (hR i) (by repeat (first | exact zx.nil | refine zx.cons (by exact xh.plain rfl rfl) ?_)) rfl rfl ?_
  generalize yD n E [(i : Int)] = X at hrs
  (repeat (first | refine FW.region ?_ | refine zd.nil ?_ | refine zc rfl rfl rfl ?_ | refine zb rfl rfl rfl ?_ | refine zL rfl rfl rfl rfl rfl rfl rfl rfl ?_ | refine xE rfl rfl (by first | (simp; done) | (simp; omega)) rfl rfl rfl (by decide) (by exact xy.own rfl rfl (by decide) (by first | exact List.length_map _ | exact (List.length_map _).symm | exact List.length_replicate | rfl | (simp; done) | omega | (simp; omega))) (by first | (simp; omega) | (simp; done)) (by first | (simp; omega) | (simp; done)) rfl rfl rfl ?_ | refine zw rfl rfl (by omega) rfl rfl ?_))
  refine ⟨i + 1, by omega, by omega, ?_⟩
  rw [hrs, List.map_append]
  exact (FLe.conv [⟨100, some 23, 0 + 1, ⟨0, .own, 22, 1, RR.map yF ++ [X].map yF⟩⟩] (by simp) (by simp) rfl (by repeat (first | exact .nil | refine .low rfl ?_)) (by repeat (first | exact .nil | refine .old rfl (by decide) (by first | rfl | (simp; omega)) ?_)) (by repeat (first | exact .nil | refine .cons (.plain rfl rfl (by first | rfl | (simp; omega))) ?_ | refine .cons (.own rfl (.head _) rfl (by first | rfl | (simp; omega))) ?_)))
 ·have hie : i = n := by simp at h; omega
  subst hie
  have hrn := hrn rfl
  refine FW.le ?_ (FLe.share 5 rfl rfl (by rw [List.length_map]; exact hrl.symm))
  rw [← hrn]
  clear hrn hrs hrl
  (repeat (first | refine FW.seq ?_ | refine FW.region ?_ | refine FW.block ?_ | refine FW.exit ?_ | refine zd.nil ?_ | refine zc rfl rfl rfl ?_))
  refine FW.loop (fun v : Nat => ⟨[(0, .int .i64 i), (5, .list 1 ((VU i E i).map yF)), (7, .own 101 0 0 (cTo i E v).length), (8, .int .i64 v)], [(101, ⟨0, .own, 22, 1, (cTo i E v).map yZ⟩)]⟩) (fun v => v ≤ i) (fun v => i - v) 0 (Nat.zero_le _) ?_ ?_
  ·show FLe _ ⟨[(0, .int .i64 i), (5, .list 1 ((VU i E i).map yF)), (7, .own 101 0 0 0), (8, .int .i64 0)], [(101, ⟨0, .own, 22, 1, []⟩)]⟩
   exact (FLe.conv [⟨101, none, 0, ⟨0, .own, 22, 1, []⟩⟩] (by simp) (by simp) rfl (by repeat (first | exact .nil | refine .low rfl ?_)) (by repeat (first | exact .nil | refine .new ?_)) (by repeat (first | exact .nil | refine .cons (.plain rfl rfl rfl) ?_ | refine .cons (.nil rfl (.head _) rfl) ?_)))
  intro v hv
  have hcl := zcH i E v
  have hcs := zdW i E v
  have hce : v = i → xf i E = cTo i E v := fun e => by rw [e]; rfl
  generalize cTo i E v = CC at hcl hcs hce ⊢
  (repeat (first | refine FW.seq ?_ | refine FW.region ?_ | refine zd.nil ?_ | refine zb rfl rfl rfl ?_ | refine zK rfl rfl rfl rfl ?_))
  refine FW.cond rfl (fun h => ?_) (fun h => ?_)
  ·have hlt : v < i := by simpa using h
   clear h hce
   have hvn : nth (VU i E i) v = yD i E [(v : Int)] := zbs hlt
   (repeat (first | refine FW.seq ?_ | refine FW.region ?_ | refine FW.block ?_ | refine FW.skip ?_ | refine zd.nil ?_ | refine zc rfl rfl rfl ?_))
   refine FW.loop (fun w : Nat => ⟨[(0, .int .i64 i), (5, .list 1 ((VU i E i).map yF)), (7, .own 101 0 0 CC.length), (8, .int .i64 v), (9, .own 102 0 0 (lTo E v w).length), (10, .int .i64 w)], [(101, ⟨0, .own, 22, 1, CC.map yZ⟩), (102, ⟨0, .own, 3, 1, (lTo E v w).map nvf⟩)]⟩) (fun w => w ≤ i) (fun w => i - w) 0 (Nat.zero_le _) ?_ ?_
   ·show FLe _ ⟨[(0, .int .i64 i), (5, .list 1 ((VU i E i).map yF)), (7, .own 101 0 0 CC.length), (8, .int .i64 v), (9, .own 102 0 0 0), (10, .int .i64 0)], [(101, ⟨0, .own, 22, 1, CC.map yZ⟩), (102, ⟨0, .own, 3, 1, []⟩)]⟩
    exact (FLe.conv [⟨101, some 101, 0, ⟨0, .own, 22, 1, CC.map yZ⟩⟩, ⟨102, none, 0, ⟨0, .own, 3, 1, []⟩⟩] (by simp) (by simp) rfl (by repeat (first | exact .nil | refine .low rfl ?_)) (by repeat (first | exact .nil | refine .old rfl (by decide) rfl ?_ | refine .new ?_)) (by repeat (first | exact .nil | refine .cons (.plain rfl rfl rfl) ?_ | refine .cons (.own rfl (.head _) rfl rfl) ?_ | refine .cons (.nil rfl (.tail _ (.head _)) rfl) ?_)))
   intro w hw
   have hll := zc6 E v w
   have hls := zee E v w
   have hle : w = i → lTo E v w = xb (nxE E) i v := fun e => by rw [e]; rfl
   generalize lTo E v w = LL at hll hls hle ⊢
   (repeat (first | refine FW.seq ?_ | refine FW.region ?_ | refine zd.nil ?_ | refine zb rfl rfl rfl ?_ | refine zK rfl rfl rfl rfl ?_))
   refine FW.cond rfl (fun h => ?_) (fun h => ?_)
   ·have hltw : w < i := by simpa using h
    clear h hle
    have hwn : nth (VU i E i) w = yD i E [(w : Int)] := zbs hltw
    have h1 := zbi (yD i E [(v : Int)]) w (by have := Ul i E [(v : Int)]; omega)
    have h2 := zbi (yD i E [(w : Int)]) v (by have := Ul i E [(w : Int)]; omega)
    have e1 : zah (yD i E [(v : Int)]) w = true ↔ Rr (nxE E) v w := by rw [Uy hin _ hltw, zeN hin hlt]
    have e2 : zah (yD i E [(w : Int)]) v = true ↔ Rr (nxE E) w v := by rw [Uy hin _ hlt, zeN hin hltw]
    have hrl := VK i E i
    generalize zah (yD i E [(v : Int)]) w = b1 at h1 e1
    generalize zah (yD i E [(w : Int)]) v = b2 at h2 e2
    generalize yD i E [(v : Int)] = g1 at h1 hvn
    generalize yD i E [(w : Int)] = g2 at h2 hwn
    generalize VU i E i = RR at hvn hwn hrl ⊢
    (repeat (first | refine FW.seq ?_ | refine FW.region ?_ | refine FW.block ?_ | refine FW.skip ?_ | refine zb rfl rfl rfl ?_ | refine zu rfl rfl rfl rfl rfl rfl (by simp; omega) rfl rfl ?_ | refine zD rfl rfl rfl (by simp; omega) (by first | exact zf (by omega) | rfl) rfl rfl rfl rfl ?_))
    rw [hvn]
    refine yl h1 (by repeat (first | exact zx.nil | refine zx.cons (by exact xh.plain rfl rfl) ?_)) rfl rfl ?_
    (repeat (first | refine zb rfl rfl rfl ?_))
    refine yK (fun hb => ?_) (fun hb => ?_)
    ·(repeat (first | refine zb rfl rfl ⟨_, _, rfl, rfl, rfl⟩ ?_ | refine zu rfl rfl rfl rfl rfl rfl (by simp; omega) rfl ⟨_, _, rfl, rfl, rfl⟩ ?_ | refine zD rfl rfl rfl (by simp; omega) (by first | exact zf (by omega) | rfl) rfl rfl rfl ⟨_, _, rfl, rfl, rfl⟩ ?_))
     rw [hwn]
     refine yl h2 (by repeat (first | exact zx.nil | refine zx.cons (by exact xh.plain rfl rfl) ?_)) rfl ⟨_, _, rfl, rfl, rfl⟩ ?_
     (repeat (first | refine zd.nil ?_ | refine zR rfl rfl rfl rfl ?_))
     refine FW.cond rfl (fun hb2 => ?_) (fun hb2 => ?_)
     ·rw [if_pos ⟨e1.1 hb, e2.1 hb2⟩] at hls
      (repeat (first | refine FW.region ?_ | refine zd.nil ?_ | refine zc rfl rfl rfl ?_ | refine zb rfl rfl rfl ?_ | refine zL rfl rfl rfl rfl rfl rfl rfl rfl ?_ | refine xE rfl rfl (by first | exact (List.length_map _).symm | (simp; done) | (simp; omega)) rfl rfl rfl (by decide) (by exact xy.own rfl rfl (by decide) (by first | exact List.length_map _ | exact (List.length_map _).symm | exact List.length_replicate | rfl | (simp; done) | omega | (simp; omega))) (by first | (simp; omega) | (simp; done)) (by first | (simp; omega) | (simp; done)) rfl rfl rfl ?_ | refine zw rfl rfl (by omega) rfl rfl ?_))
      refine ⟨w + 1, by omega, by omega, ?_⟩
      rw [hls, List.length_append, List.map_append]
      exact (FLe.conv [⟨101, some 101, 0, ⟨0, .own, 22, 1, CC.map yZ⟩⟩, ⟨102, some 51, 0 + 1, ⟨0, .own, 3, 1, LL.map nvf ++ [w].map nvf⟩⟩] (by simp) (by simp) rfl (by repeat (first | exact .nil | refine .low rfl ?_)) (by repeat (first | exact .nil | refine .old rfl (by decide) (by first | rfl | (simp; done)) ?_)) (by repeat (first | exact .nil | refine .cons (.plain rfl rfl (by first | rfl | (simp; done))) ?_ | refine .cons (.own rfl (.head _) rfl (by first | rfl | (simp; done))) ?_ | refine .cons (.own rfl (.tail _ (.head _)) rfl (by first | rfl | (simp; done))) ?_)))
     ·rw [if_neg (fun h => by have := e2.2 h.2; rw [hb2] at this; cases this), List.append_nil] at hls
      (repeat (first | refine FW.region ?_ | refine FW.skip ?_ | refine zd.nil ?_ | refine zc rfl rfl rfl ?_ | refine zb rfl rfl rfl ?_ | refine zw rfl rfl (by omega) rfl rfl ?_))
      refine ⟨w + 1, by omega, by omega, ?_⟩
      rw [hls]
      exact (FLe.conv [⟨101, some 101, 0, ⟨0, .own, 22, 1, CC.map yZ⟩⟩, ⟨102, some 102, 0, ⟨0, .own, 3, 1, LL.map nvf⟩⟩] (by simp) (by simp) rfl (by repeat (first | exact .nil | refine .low rfl ?_)) (by repeat (first | exact .nil | refine .old rfl (by decide) rfl ?_)) (by repeat (first | exact .nil | refine .cons (.plain rfl rfl rfl) ?_ | refine .cons (.own rfl (.head _) rfl rfl) ?_ | refine .cons (.own rfl (.tail _ (.head _)) rfl rfl) ?_)))
    ·rw [if_neg (fun h => by have := e1.2 h.1; rw [hb] at this; cases this), List.append_nil] at hls
     (repeat (first | refine FW.region ?_ | refine FW.skip ?_ | refine FW.condF rfl ?_ | refine zd.nil ?_ | refine zc rfl rfl rfl ?_ | refine zb rfl rfl rfl ?_ | refine zw rfl rfl (by omega) rfl rfl ?_ | refine zZ rfl rfl rfl rfl ?_ | refine yC rfl rfl ⟨_, _, rfl, rfl, rfl⟩ ?_))
     refine ⟨w + 1, by omega, by omega, ?_⟩
     rw [hls]
     exact (FLe.conv [⟨101, some 101, 0, ⟨0, .own, 22, 1, CC.map yZ⟩⟩, ⟨102, some 102, 0, ⟨0, .own, 3, 1, LL.map nvf⟩⟩] (by simp) (by simp) rfl (by repeat (first | exact .nil | refine .low rfl ?_)) (by repeat (first | exact .nil | refine .old rfl (by decide) rfl ?_)) (by repeat (first | exact .nil | refine .cons (.plain rfl rfl rfl) ?_ | refine .cons (.own rfl (.head _) rfl rfl) ?_ | refine .cons (.own rfl (.tail _ (.head _)) rfl rfl) ?_)))
   ·have hwe : w = i := by simp at h; omega
    have hle := hle hwe
    have hs := zbx (E := E) hlt
    have hpos : 0 < LL.length := by rw [hle]; exact List.length_pos_of_mem hs
    rw [← hle] at hcs
    unfold hdN at hcs
    clear hle hs hls
    (repeat (first | refine FW.seq ?_ | refine FW.region ?_ | refine FW.exit ?_ | refine zd.nil ?_ | refine zb rfl rfl rfl ?_ | refine zB rfl rfl rfl rfl rfl rfl (by decide) rfl (by first | omega | (simp; omega)) rfl rfl ?_ | refine zO rfl rfl rfl rfl rfl (by first | omega | (simp; omega)) (by first | exact zf (by omega) | rfl) rfl rfl rfl rfl ?_ | refine Zo rfl rfl rfl rfl ?_))
    refine FW.cond rfl (fun hb => ?_) (fun hb => ?_)
    ·have hb : nth LL 0 = v := by
      have hb' : ((nth LL 0 : Nat) : Int) = v := of_decide_eq_true hb
      omega
     rw [if_pos hb] at hcs
     (repeat (first | refine FW.region ?_ | refine zb rfl rfl rfl ?_))
     refine zd.le ?_ (FLe.share 58 rfl rfl (by rw [List.length_map]))
     (repeat (first | refine FW.region ?_ | refine zd.nil ?_ | refine zc rfl rfl rfl ?_ | refine zb rfl rfl rfl ?_ | refine zL rfl rfl rfl rfl rfl rfl rfl rfl ?_ | refine xE rfl rfl (by first | exact (List.length_map _).symm | (simp; done) | (simp; omega)) rfl rfl rfl (by decide) (by exact xy.own rfl rfl (by decide) (by first | exact List.length_map _ | exact (List.length_map _).symm | exact List.length_replicate | rfl | (simp; done) | omega | (simp; omega))) (by first | (simp; omega) | (simp; done)) (by first | (simp; omega) | (simp; done)) rfl rfl rfl ?_ | refine zw rfl rfl (by omega) rfl rfl ?_))
     refine ⟨v + 1, by omega, by omega, ?_⟩
     rw [hcs, List.length_append, List.map_append]
     exact (FLe.conv [⟨101, some 60, 0 + 1, ⟨0, .own, 22, 1, CC.map yZ ++ [LL].map yZ⟩⟩] (by simp) (by simp) rfl (by repeat (first | exact .nil | refine .low rfl ?_)) (by repeat (first | exact .nil | refine .old rfl (by decide) (by first | rfl | (simp; done)) ?_)) (by repeat (first | exact .nil | refine .cons (.plain rfl rfl (by first | rfl | (simp; done))) ?_ | refine .cons (.own rfl (.head _) rfl (by first | rfl | (simp; done))) ?_)))
    ·have hb : ¬ nth LL 0 = v := fun e => by
      have hb' : ¬ ((nth LL 0 : Nat) : Int) = v := of_decide_eq_false hb
      omega
     rw [if_neg hb, List.append_nil] at hcs
     (repeat (first | refine FW.region ?_ | refine FW.skip ?_ | refine zd.nil ?_ | refine zc rfl rfl rfl ?_ | refine zb rfl rfl rfl ?_ | refine zw rfl rfl (by omega) rfl rfl ?_))
     refine ⟨v + 1, by omega, by omega, ?_⟩
     rw [hcs]
     exact (FLe.conv [⟨101, some 101, 0, ⟨0, .own, 22, 1, CC.map yZ⟩⟩] (by simp) (by simp) rfl (by repeat (first | exact .nil | refine .low rfl ?_)) (by repeat (first | exact .nil | refine .old rfl (by decide) rfl ?_)) (by repeat (first | exact .nil | refine .cons (.plain rfl rfl rfl) ?_ | refine .cons (.own rfl (.head _) rfl rfl) ?_)))
  ·have hve : v = i := by simp at h; omega
   rw [hce hve]
   (repeat (first | refine FW.seq ?_ | refine FW.region ?_ | refine FW.exit ?_ | refine zd.nil ?_ | refine zc rfl rfl rfl ?_ | refine zb rfl rfl rfl ?_))
   refine FW.le ?_ (FLe.share 4 rfl rfl (by rw [List.length_map]))
   exact FW.ret ⟨.inl rfl, .sh (.cons (.tmp 4 rfl rfl) .nil) rfl rfl⟩
theorem zdG (c : List Nat) (h : c.length ≤ 1000) : yf Try.prog 20 [.list 1 (c.map nvf), .list 1 (c.map nvf)] .fr (.bool true) := by
 have h := Zb (YB c) (YB c) (by rw [Yb]; omega) (by rw [Yb]; omega)
 rw [za8, decide_eq_true rfl] at h
 exact h
set_option maxHeartbeats 4000000 in
theorem Vb (A B : List (List Nat)) (hA : A.length ≤ 1000) (hl : ∀ c ∈ A, c.length ≤ 1000) (hB : A = B) : yf Try.prog 10 [.list 1 (A.map yZ), .list 1 (B.map yZ)] .fr (.bool true) := by
 subst hB
 refine yf.of_body (c := (xX Try.prog zA zt 27)) ⟨Try.func10, rfl, Try.ntmps10, by kernel_rfl⟩ (by simp [FV.hand]) (by exact Nat.le_of_ble_eq_true rfl) rfl ?_
 change FW _ _ _ ⟨[(0, .list 1 (A.map yZ)), (1, .list 1 (A.map yZ))], []⟩
 (repeat (first | refine FW.seq ?_ | refine FW.region ?_ | refine zd.nil ?_ | refine zc rfl rfl rfl ?_ | refine zb rfl rfl rfl ?_ | refine zE rfl rfl (by exact List.length_map _) rfl rfl ?_ | refine zdA rfl rfl rfl rfl ?_))
 refine FW.cond rfl (fun h => absurd rfl (of_decide_eq_true h)) (fun _ => ?_)
 (repeat (first | refine FW.seq ?_ | refine FW.region ?_ | refine FW.block ?_ | refine FW.skip ?_ | refine zd.nil ?_ | refine zc rfl rfl rfl ?_))
 refine FW.loop (fun i : Nat => ⟨[(0, .list 1 (A.map yZ)), (1, .list 1 (A.map yZ)), (5, .int .i64 i)], []⟩) (fun i => i ≤ A.length) (fun i => A.length - i) 0 (Nat.zero_le _) (FLe.conv [] (by simp) (by simp) rfl (by repeat (first | exact .nil)) (by repeat (first | exact .nil)) (by repeat (first | exact .nil | refine .cons (.plain rfl rfl rfl) ?_))) ?_
 intro i hi
 (repeat (first | refine FW.seq ?_ | refine FW.region ?_ | refine zd.nil ?_ | refine zb rfl rfl rfl ?_ | refine zE rfl rfl (by exact List.length_map _) rfl rfl ?_ | refine zK rfl rfl rfl rfl ?_))
 refine FW.cond rfl (fun h => ?_) (fun h => ?_)
 ·have hlt : i < A.length := by simpa using h
  clear h
  have hs := zdG (nth A i) (hl _ (zF hlt))
  (repeat (first | refine FW.seq ?_ | refine FW.block ?_ | refine FW.skip ?_ | refine FW.draw ?_ | refine zS rfl rfl rfl ?_ | refine Yt rfl rfl rfl rfl rfl rfl (by simp; omega) rfl rfl ?_ | refine Yu rfl rfl rfl (by simp; omega) (by first | exact zf (by omega) | rfl) rfl rfl rfl rfl ?_))
  refine ze0 hs (by repeat (first | exact zx.nil | refine zx.cons (by exact xh.plain rfl rfl) ?_)) rfl rfl ?_
  (repeat (first | refine zC.nil ?_ | refine zfz rfl rfl rfl ?_))
  refine ⟨by kernel_rfl, ?_⟩
  (repeat (first | refine FW.region ?_ | refine FW.skip ?_ | refine FW.condF rfl ?_ | refine zd.nil ?_ | refine zc rfl rfl rfl ?_ | refine zb rfl rfl rfl ?_ | refine zw rfl rfl (by omega) rfl rfl ?_))
  exact ⟨i + 1, by omega, by omega, (FLe.conv [] (by simp) (by simp) rfl (by repeat (first | exact .nil)) (by repeat (first | exact .nil)) (by repeat (first | exact .nil | refine .cons (.plain rfl rfl rfl) ?_)))⟩
 ·(repeat (first | refine FW.seq ?_ | refine FW.region ?_ | refine FW.exit ?_ | refine zd.nil ?_ | refine zc rfl rfl rfl ?_))
  exact FW.ret ⟨.inl rfl, yq rfl rfl rfl rfl⟩
end Go.Proofs.Ythjplkjpehdpfaa
