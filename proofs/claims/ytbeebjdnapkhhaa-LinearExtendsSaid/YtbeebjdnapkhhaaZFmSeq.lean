/-
  linear.sequence, at plain values.
-/
import Derived.Test.YtbeebjdnapkhhaaZFmViol
import Derived.Test.YtbeebjdnapkhhaaZFmNew
import Derived.Test.YtbeebjdnapkhhaaZFmLinear
import Derived.Test.YtbeebjdnapkhhaaZS
namespace Go.Proofs.Ytbeebjdnapkhhaa
set_option linter.unusedVariables false
open Go.RowKit

set_option maxHeartbeats 8000000 in
theorem zbR (l : List OpV) (c : Int) (ins : List Bool) (hl : l.length ≤ 300) (hin : ∀ o ∈ l, zdm o) (hc : I64 c) (H : H21 l) (V : VO l c) (hil : ins.length = l.length) (hi0 : ∀ i, i < l.length → nth ins i = zW l i) :
  yg Try.prog 59 [.list 8 (l.map OpV.fv), .int .i64 c, .list 1 (ins.map bof)] (.ow 3 1) (.list 1 ((YD l c).map zQ)) := by
 have D := H.dom
 have hcs := XU l c ins hl hin hc D hil hi0 V.thin
 obtain ⟨hrk, E⟩ := VQ D H.wf V
 have hE : zgj l c = yE (yH (zfu l (Zf l c))) (nCl l c) (nCl l c) := rfl
 have hS : YD l c = (zgj l c).flatMap fun j => (nth (Zf l c) j).ops := rfl
 have hK := VK (l := l) (c := c)
 have hck : ∀ j, j < (Zf l c).length → 0 < (nth (Zf l c) j).ops.length ∧ (nth (Zf l c) j).ops.length ≤ 301 ∧ ∀ i ∈ (nth (Zf l c) j).ops, i < l.length := fun j hj => ⟨zdv D hj, by have := zgc hj; omega, fun i hi => ((xR D hj).1 hi).1⟩
 have hpm : ∀ e ∈ zfu l (Zf l c), e.1 < (Zf l c).length ∧ e.2 < (Zf l c).length := fun e he => by
  obtain ⟨a, b⟩ := e
  have := zbG.1 he
  exact ⟨this.1, this.2.1⟩
 unfold nCl at hE E
 rw [hS]
 obtain ⟨L, hL⟩ : ∃ L, zgj l c = L := ⟨_, rfl⟩
 rw [hL] at hE E ⊢
 obtain ⟨C, hC⟩ : ∃ C, Zf l c = C := ⟨_, rfl⟩
 rw [hC] at hcs hrk hE E hK hck hpm ⊢
 have hpl := zbH l C C.length
 have hpl2 := Nat.mul_le_mul hK hK
 have hnw := zbz C.length (zfu l C) (by omega) (by unfold zfu; have := Nat.mul_le_mul (show C.length ≤ 301 by omega) (show C.length ≤ 301 by omega); omega) hpm (fun j => rkC l (nth C j)) hrk
 have hln := Up C.length (yH (zfu l C)) (by omega) (ZC (f := fun j => rkC l (nth C j)) hrk)
 rw [← hE] at hln
 have hLl := E.len
 refine yg.of_body (c := (Zy Try.prog zG zA 103)) ⟨Try.func59, rfl, Try.ntmps59, by kernel_rfl⟩ (by simp [FV.hand]) (by exact Nat.le_of_ble_eq_true rfl) rfl ?_
 change FW _ _ _ ⟨[(0, .list 8 (l.map OpV.fv)), (1, .int .i64 c), (2, .list 1 (ins.map bof))], []⟩
 (repeat (first | refine FW.seq ?_ | refine FW.region ?_ | refine zc.nil ?_ | refine za rfl rfl rfl ?_ | refine zb rfl rfl rfl ?_))
 refine yZ hcs (by repeat (first | exact zj.nil | refine zj.cons (by exact yu.plain rfl rfl) ?_)) rfl rfl ?_
 (repeat (first | refine FW.seq ?_ | refine FW.region ?_ | refine FW.block ?_ | refine zc.nil ?_ | refine za rfl rfl rfl ?_ | refine zb rfl rfl rfl ?_ | refine zm rfl rfl (by exact List.length_map _) rfl rfl ?_))
 refine FW.loop (fun i : Nat => ⟨[(0, .list 8 (l.map OpV.fv)), (7, .list 2 (C.map ClV.fv)), (8, .own 100 0 0 (zg2 l C i).length), (30, .list 2 (C.map ClV.fv)), (31, .int .i64 C.length), (32, .int .i64 i)], [(100, ⟨0, .own, 59, 2, (zg2 l C i).map edf⟩)]⟩) (fun i => i ≤ C.length) (fun i => C.length - i) 0 (Nat.zero_le _) ?_ ?_
 ·show FLe _ ⟨[(0, .list 8 (l.map OpV.fv)), (7, .list 2 (C.map ClV.fv)), (8, .own 100 0 0 0), (30, .list 2 (C.map ClV.fv)), (31, .int .i64 C.length), (32, .int .i64 0)], [(100, ⟨0, .own, 59, 2, []⟩)]⟩
  exact (FLe.conv [⟨100, none, 0, ⟨0, .own, 59, 2, []⟩⟩] (by simp) (by simp) rfl (by repeat (first | exact .nil | refine .low rfl ?_ | refine .same rfl ?_ | refine .bump (Nat.lt_succ_self _) ?_)) (by repeat (first | exact .nil | refine .new ?_)) (by repeat (first | exact .nil | refine .cons (.plain rfl rfl rfl) ?_ | refine .cons (.nil rfl (.head _) rfl) ?_)))
 intro i hi
 (repeat (first | refine FW.seq ?_ | refine FW.region ?_ | refine zc.nil ?_ | refine zH rfl rfl rfl rfl ?_))
 refine FW.cond rfl (fun h => ?_) (fun h => ?_)
 ·have hlt : i < C.length := by simpa using h
  clear h
  obtain ⟨x0, x1, x2⟩ := hck i hlt
  have hts := zcT l C i
  have htl := zbH l C i
  have htl2 := Nat.mul_le_mul (show i ≤ 301 by omega) (show C.length ≤ 301 by omega)
  have hRs := fun k => zg1 l C i k
  have hRl := fun k => zeI l C i k
  have hR0 : zhM l C i 0 = [] := rfl
  generalize zhM l C i = RR at hts hRs hRl hR0
  generalize zg2 l C i = PP at hts htl
  obtain ⟨X, hX⟩ : ∃ X, nth C i = X := ⟨_, rfl⟩
  rw [hX] at x0 x1 x2
  simp only [hX] at hRs
  have hex := XV l X (by omega) (by omega) x0 x2
  obtain ⟨xi, xo⟩ := X
  dsimp only at x0 x1 x2 hex
  unfold zgi at hex
  (repeat (first | refine FW.seq ?_ | refine FW.region ?_ | refine FW.block ?_ | refine FW.skip ?_ | refine zc.nil ?_ | refine za rfl rfl rfl ?_ | refine zb rfl rfl rfl ?_ | refine zD rfl rfl rfl rfl rfl rfl (by first | (simp; omega) | (simp; done)) rfl rfl ?_ | refine yV rfl rfl rfl (by decide) (by first | (simp; omega) | (simp; done)) (by first | exact zd (by omega) | rfl) rfl rfl rfl ?_ | refine zS rfl rfl rfl (by decide) rfl rfl (by first | (simp; omega) | (simp; done)) (by first | exact zd (by omega) | rfl) rfl rfl rfl ?_ | refine zY rfl rfl rfl rfl rfl rfl rfl ?_ | refine zC rfl rfl rfl rfl rfl rfl rfl rfl rfl ?_))
  rw [hX]
  skip
  refine zJ hex (by repeat (first | exact zj.nil | refine zj.cons (by exact yu.plain rfl rfl) ?_)) rfl rfl ?_
  (repeat (first | refine FW.seq ?_ | refine FW.region ?_ | refine FW.block ?_ | refine zc.nil ?_ | refine za rfl rfl rfl ?_ | refine zb rfl rfl rfl ?_ | refine zm rfl rfl (by exact List.length_map _) rfl rfl ?_ | refine zI rfl rfl rfl rfl rfl ?_))
  refine FW.loop (fun k : Nat => ⟨[(0, .list 8 (l.map OpV.fv)), (7, .list 2 (C.map ClV.fv)), (8, .own 100 0 0 (PP ++ RR k).length), (9, .int .i64 i), (10, .ptr 101 0 0 0), (12, .int .i64 (zbi l xo)), (30, .list 2 (C.map ClV.fv)), (31, .int .i64 C.length), (32, .int .i64 i), (45, .list 2 (C.map ClV.fv)), (46, .int .i64 C.length), (47, .int .i64 k)], [(100, ⟨0, .own, 59, 2, (PP ++ RR k).map edf⟩), (101, ⟨0, .own, 112, 2, [[.bool xi, .list 1 (xo.map zQ)]]⟩)]⟩) (fun k => k ≤ C.length) (fun k => C.length - k) 0 (Nat.zero_le _) ?_ ?_
  ·rw [hR0, List.append_nil]
   exact (FLe.conv [⟨100, some 100, 0, ⟨0, .own, 59, 2, PP.map edf⟩⟩, ⟨101, some 10, 0 + 1, ⟨0, .own, 112, 2, [[.bool xi, .list 1 (xo.map zQ)]]⟩⟩] (by simp) (by simp) rfl (by repeat (first | exact .nil | refine .low rfl ?_ | refine .same rfl ?_ | refine .bump (Nat.lt_succ_self _) ?_)) (by repeat (first | exact .nil | refine .old rfl (by decide) rfl ?_)) (by repeat (first | exact .nil | refine .cons (.plain rfl rfl rfl) ?_ | refine .cons (.own rfl (.head _) rfl rfl) ?_ | refine .cons (.ptr rfl (.tail _ (.head _)) rfl) ?_)))
  intro k hk
  (repeat (first | refine FW.seq ?_ | refine FW.region ?_ | refine zc.nil ?_ | refine zH rfl rfl rfl rfl ?_))
  refine FW.cond rfl (fun h => ?_) (fun h => ?_)
  ·have hltk : k < C.length := by simpa using h
   clear h
   obtain ⟨y0, y1, y2⟩ := hck k hltk
   have hRs := hRs k
   have hRl := hRl k
   obtain ⟨Y, hY⟩ : ∃ Y, nth C k = Y := ⟨_, rfl⟩
   rw [hY] at y0 y1 y2 hRs
   have hey := XV l Y (by omega) (by omega) y0 y2
   obtain ⟨yi, yo⟩ := Y
   dsimp only at y0 y1 y2 hey
   unfold zgi at hey
   unfold zis at hRs
   (repeat (first | refine FW.seq ?_ | refine FW.region ?_ | refine FW.block ?_ | refine FW.skip ?_ | refine zc.nil ?_ | refine za rfl rfl rfl ?_ | refine zb rfl rfl rfl ?_ | refine zD rfl rfl rfl rfl rfl rfl (by first | (simp; omega) | (simp; done)) rfl rfl ?_ | refine yV rfl rfl rfl (by decide) (by first | (simp; omega) | (simp; done)) (by first | exact zd (by omega) | rfl) rfl rfl rfl ?_ | refine zS rfl rfl rfl (by decide) rfl rfl (by first | (simp; omega) | (simp; done)) (by first | exact zd (by omega) | rfl) rfl rfl rfl ?_ | refine zY rfl rfl rfl rfl rfl rfl rfl ?_ | refine zC rfl rfl rfl rfl rfl rfl rfl rfl rfl ?_))
   rw [hY]
   skip
   refine zJ hey (by repeat (first | exact zj.nil | refine zj.cons (by exact yu.plain rfl rfl) ?_)) rfl rfl ?_
   (repeat (first | refine FW.seq ?_ | refine FW.region ?_ | refine zc.nil ?_ | refine za rfl rfl rfl ?_ | refine zb rfl rfl rfl ?_ | refine zI rfl rfl rfl rfl rfl ?_ | refine Zc rfl rfl rfl rfl ?_))
   refine xd (fun h1 => ?_) (fun h1 => ?_)
   ·have h1' : i ≠ k := by
     have := of_decide_eq_true h1
     omega
    rw [decide_eq_true h1', Bool.true_and] at hRs
    (repeat (first | refine zt rfl rfl rfl rfl rfl rfl (by decide) rfl ⟨_, _, rfl, rfl, rfl⟩ ?_ | refine zq rfl rfl rfl rfl rfl (by simp; done) rfl rfl rfl rfl ⟨_, _, rfl, rfl, rfl⟩ ?_ | refine zb rfl rfl ⟨_, _, rfl, rfl, rfl⟩ ?_))
    cases xi with
    | true =>
     rw [Bool.true_or, if_pos rfl] at hRs
     (repeat (first | refine FW.region ?_ | refine FW.condT rfl ?_ | refine zc.nil ?_ | refine za rfl rfl rfl ?_ | refine zb rfl rfl rfl ?_ | refine zM rfl rfl rfl rfl ?_ | refine Xj rfl rfl rfl rfl rfl rfl rfl rfl rfl ?_ | refine yT rfl rfl rfl rfl rfl rfl rfl rfl rfl rfl ?_ | refine xc rfl rfl (by first | exact (List.length_map _).symm | (simp; done) | (simp; omega)) rfl rfl rfl (by decide) (by exact XB.own rfl rfl (by decide) (by first | exact List.length_map _ | exact (List.length_map _).symm | exact List.length_replicate | rfl | (simp; done) | omega | (simp; omega))) (by first | (simp; omega) | (simp; done)) (by first | (simp; omega) | (simp; done)) rfl rfl rfl ?_ | refine zu rfl rfl (by omega) rfl rfl ?_ | refine zM rfl rfl rfl ⟨_, _, rfl, rfl, rfl⟩ ?_ | refine yA rfl rfl ⟨_, _, rfl, rfl, rfl⟩ ?_))
     refine ⟨k + 1, by omega, by omega, ?_⟩
     rw [hRs, show (PP ++ (RR k ++ [(i, k)])).map edf = (PP ++ RR k).map edf ++ [edf (i, k)] by rw [← List.append_assoc, List.map_append]; rfl]
     exact (FLe.conv [⟨100, some 77, 0 + 1, ⟨0, .own, 59, 2, (PP ++ RR k).map edf ++ [edf (i, k)]⟩⟩, ⟨101, some 101, 0, ⟨0, .own, 112, 2, [[.bool true, .list 1 (xo.map zQ)]]⟩⟩] (by simp) (by simp) rfl (by repeat (first | exact .nil | refine .low rfl ?_ | refine .same rfl ?_ | refine .bump (Nat.lt_succ_self _) ?_)) (by repeat (first | exact .nil | refine .old rfl (by decide) (by first | rfl | (simp; done)) ?_)) (by repeat (first | exact .nil | refine .cons (.plain rfl rfl (by first | rfl | (simp; done))) ?_ | refine .cons (.own rfl (.head _) rfl (by first | rfl | (simp; done))) ?_ | refine .cons (.ptr rfl (.tail _ (.head _)) rfl) ?_)))
    | false =>
     rw [Bool.false_or] at hRs
     (repeat (first | refine zc.nil ?_ | refine zM rfl rfl rfl rfl ?_ | refine zb rfl rfl ⟨_, _, rfl, rfl, rfl⟩ ?_ | refine zH rfl rfl rfl ⟨_, _, rfl, rfl, rfl⟩ ?_ | refine zP rfl rfl rfl ⟨_, _, rfl, rfl, rfl⟩ ?_))
     refine FW.cond rfl (fun h2 => ?_) (fun h2 => ?_)
     ·rw [if_pos (by exact h2)] at hRs
      (repeat (first | refine FW.region ?_ | refine zc.nil ?_ | refine za rfl rfl rfl ?_ | refine zb rfl rfl rfl ?_ | refine Xj rfl rfl rfl rfl rfl rfl rfl rfl rfl ?_ | refine yT rfl rfl rfl rfl rfl rfl rfl rfl rfl rfl ?_ | refine xc rfl rfl (by first | exact (List.length_map _).symm | (simp; done) | (simp; omega)) rfl rfl rfl (by decide) (by exact XB.own rfl rfl (by decide) (by first | exact List.length_map _ | exact (List.length_map _).symm | exact List.length_replicate | rfl | (simp; done) | omega | (simp; omega))) (by first | (simp; omega) | (simp; done)) (by first | (simp; omega) | (simp; done)) rfl rfl rfl ?_ | refine zu rfl rfl (by omega) rfl rfl ?_))
      refine ⟨k + 1, by omega, by omega, ?_⟩
      rw [hRs, show (PP ++ (RR k ++ [(i, k)])).map edf = (PP ++ RR k).map edf ++ [edf (i, k)] by rw [← List.append_assoc, List.map_append]; rfl]
      exact (FLe.conv [⟨100, some 77, 0 + 1, ⟨0, .own, 59, 2, (PP ++ RR k).map edf ++ [edf (i, k)]⟩⟩, ⟨101, some 101, 0, ⟨0, .own, 112, 2, [[.bool false, .list 1 (xo.map zQ)]]⟩⟩] (by simp) (by simp) rfl (by repeat (first | exact .nil | refine .low rfl ?_ | refine .same rfl ?_ | refine .bump (Nat.lt_succ_self _) ?_)) (by repeat (first | exact .nil | refine .old rfl (by decide) (by first | rfl | (simp; done)) ?_)) (by repeat (first | exact .nil | refine .cons (.plain rfl rfl (by first | rfl | (simp; done))) ?_ | refine .cons (.own rfl (.head _) rfl (by first | rfl | (simp; done))) ?_ | refine .cons (.ptr rfl (.tail _ (.head _)) rfl) ?_)))
     ·rw [if_neg (by rw [show decide (zbi l xo < zdc l yo) = false from h2]; decide), List.append_nil] at hRs
      (repeat (first | refine FW.region ?_ | refine FW.skip ?_ | refine zc.nil ?_ | refine zb rfl rfl rfl ?_ | refine zu rfl rfl (by omega) rfl rfl ?_))
      refine ⟨k + 1, by omega, by omega, ?_⟩
      rw [hRs]
      exact (FLe.conv [⟨100, some 100, 0, ⟨0, .own, 59, 2, (PP ++ RR k).map edf⟩⟩, ⟨101, some 101, 0, ⟨0, .own, 112, 2, [[.bool false, .list 1 (xo.map zQ)]]⟩⟩] (by simp) (by simp) rfl (by repeat (first | exact .nil | refine .low rfl ?_ | refine .same rfl ?_ | refine .bump (Nat.lt_succ_self _) ?_)) (by repeat (first | exact .nil | refine .old rfl (by decide) rfl ?_)) (by repeat (first | exact .nil | refine .cons (.plain rfl rfl rfl) ?_ | refine .cons (.own rfl (.head _) rfl rfl) ?_ | refine .cons (.ptr rfl (.tail _ (.head _)) rfl) ?_)))
   ·have h1' : i = k := by
     have := of_decide_eq_false h1
     omega
    rw [decide_eq_false (by omega), Bool.false_and, if_neg (by decide), List.append_nil] at hRs
    (repeat (first | refine FW.region ?_ | refine FW.skip ?_ | refine FW.condF rfl ?_ | refine zc.nil ?_ | refine zb rfl rfl rfl ?_ | refine zP rfl rfl rfl rfl ?_ | refine zu rfl rfl (by omega) rfl rfl ?_ | refine yA rfl rfl ⟨_, _, rfl, rfl, rfl⟩ ?_))
    refine ⟨k + 1, by omega, by omega, ?_⟩
    rw [hRs]
    exact (FLe.conv [⟨100, some 100, 0, ⟨0, .own, 59, 2, (PP ++ RR k).map edf⟩⟩, ⟨101, some 101, 0, ⟨0, .own, 112, 2, [[.bool xi, .list 1 (xo.map zQ)]]⟩⟩] (by simp) (by simp) rfl (by repeat (first | exact .nil | refine .low rfl ?_ | refine .same rfl ?_ | refine .bump (Nat.lt_succ_self _) ?_)) (by repeat (first | exact .nil | refine .old rfl (by decide) rfl ?_)) (by repeat (first | exact .nil | refine .cons (.plain rfl rfl rfl) ?_ | refine .cons (.own rfl (.head _) rfl rfl) ?_ | refine .cons (.ptr rfl (.tail _ (.head _)) rfl) ?_)))
  ·obtain rfl : k = C.length := by simp at h; omega
   (repeat (first | refine FW.region ?_ | refine FW.exit ?_ | refine zc.nil ?_ | refine zb rfl rfl rfl ?_ | refine zu rfl rfl (by omega) rfl rfl ?_))
   refine ⟨i + 1, by omega, by omega, ?_⟩
   rw [hts]
   exact (FLe.conv [⟨100, some 100, 0, ⟨0, .own, 59, 2, (PP ++ RR C.length).map edf⟩⟩] (by simp) (by simp) rfl (by repeat (first | exact .nil | refine .low rfl ?_ | refine .same rfl ?_ | refine .bump (Nat.lt_succ_self _) ?_)) (by repeat (first | exact .nil | refine .old rfl (by decide) rfl ?_)) (by repeat (first | exact .nil | refine .cons (.plain rfl rfl rfl) ?_ | refine .cons (.own rfl (.head _) rfl rfl) ?_)))
 ·obtain rfl : i = C.length := by simp at h; omega
  have hpS : zfu l C = zg2 l C C.length := rfl
  rw [← hpS] at hpl ⊢
  generalize zfu l C = P at hnw hpl hln hpS ⊢
  (repeat (first | refine FW.seq ?_ | refine FW.region ?_ | refine FW.exit ?_ | refine zb rfl rfl rfl ?_ | refine zm rfl rfl (by exact List.length_map _) rfl rfl ?_))
  refine zc.le ?_ (FLe.share 83 rfl rfl (by simp))
  refine yZ hnw (by repeat (first | exact zj.nil | refine zj.cons (by exact yu.plain rfl rfl) ?_)) rfl rfl ?_
  (repeat (first | refine FW.seq ?_ | refine FW.region ?_ | refine zc.nil ?_ | refine za rfl rfl rfl ?_ | refine zb rfl rfl rfl ?_ | refine zI rfl rfl rfl rfl rfl ?_))
  refine ye hln (by repeat (first | exact zj.nil | refine zj.cons (by exact yu.plain rfl rfl) ?_)) (List.length_map _) rfl rfl rfl ?_
  (repeat (first | refine FW.block ?_ | refine zc.nil ?_ | refine zb rfl rfl rfl ?_ | refine yf rfl rfl rfl (by decide) rfl rfl ?_))
  rw [hLl]
  refine FW.loop (fun i : Nat => ⟨[(7, .list 2 (C.map ClV.fv)), (23, .own 102 0 0 ((L.take i).flatMap fun j => (nth C j).ops).length), (88, .own 103 0 0 C.length), (89, .int .i64 C.length), (90, .int .i64 i)], [(102, ⟨0, .own, 3, 1, ((L.take i).flatMap fun j => (nth C j).ops).map zQ⟩), (103, ⟨0, .own, 3, 1, L.map zQ⟩)]⟩) (fun i => i ≤ C.length ∧ ((L.take i).flatMap fun j => (nth C j).ops).length ≤ i * 301) (fun i => C.length - i) 0 ⟨Nat.zero_le _, by simp⟩ ?_ ?_
  ·show FLe _ ⟨[(7, .list 2 (C.map ClV.fv)), (23, .own 102 0 0 0), (88, .own 103 0 0 C.length), (89, .int .i64 C.length), (90, .int .i64 0)], [(102, ⟨0, .own, 3, 1, []⟩), (103, ⟨0, .own, 3, 1, L.map zQ⟩)]⟩
   exact (FLe.conv [⟨102, none, 0, ⟨0, .own, 3, 1, []⟩⟩, ⟨103, some 88, 0 + 1, ⟨0, .own, 3, 1, L.map zQ⟩⟩] (by simp) (by simp) rfl (by repeat (first | exact .nil | refine .low rfl ?_ | refine .same rfl ?_ | refine .bump (Nat.lt_succ_self _) ?_)) (by repeat (first | exact .nil | refine .old rfl (by decide) rfl ?_ | refine .new ?_)) (by repeat (first | exact .nil | refine .cons (.plain rfl rfl rfl) ?_ | refine .cons (.nil rfl (.head _) rfl) ?_ | refine .cons (.own rfl (.tail _ (.head _)) rfl rfl) ?_)))
  rintro i ⟨hi, hfl⟩
  have hii := Nat.mul_le_mul_right 301 (show i ≤ 301 by omega)
  have hst := fun h : i < L.length => congrArg (fun z : List Nat => z.flatMap fun j => (nth C j).ops) (xu (l := L) (k := i) h)
  simp only [List.flatMap_append, List.flatMap_cons, List.flatMap_nil, List.append_nil] at hst
  obtain ⟨O, hO0⟩ : ∃ O, (L.take i).flatMap (fun j => (nth C j).ops) = O := ⟨_, rfl⟩
  rw [hO0] at hst hfl ⊢
  (repeat (first | refine FW.seq ?_ | refine FW.region ?_ | refine zc.nil ?_ | refine zH rfl rfl rfl rfl ?_))
  refine FW.cond rfl (fun h => ?_) (fun h => ?_)
  ·have hlt : i < C.length := by simpa using h
   clear h
   have hst := hst (by omega)
   obtain ⟨j, hj⟩ : ∃ j, nth L i = j := ⟨_, rfl⟩
   have hjn := E.rng _ (zn (l := L) (i := i) (by omega))
   rw [hj] at hjn hst
   obtain ⟨x0, x1, x2⟩ := hck j hjn
   obtain ⟨X, hX⟩ : ∃ X, nth C j = X := ⟨_, rfl⟩
   rw [hX] at x0 x1 x2 hst
   obtain ⟨xi, xo⟩ := X
   dsimp only at x0 x1 x2 hst
   (repeat (first | refine FW.seq ?_ | refine FW.region ?_ | refine FW.block ?_ | refine FW.skip ?_ | refine zc.nil ?_ | refine za rfl rfl rfl ?_ | refine zb rfl rfl rfl ?_ | refine zD rfl rfl rfl rfl rfl rfl (by first | omega | (simp; omega)) rfl rfl ?_ | refine zx rfl rfl rfl rfl rfl rfl (by decide) rfl (by first | omega | (simp; omega)) rfl rfl ?_ | refine zB rfl rfl rfl (by first | omega | (simp; omega)) (by first | exact zd (by omega) | rfl) rfl rfl rfl rfl ?_ | refine zq rfl rfl rfl rfl rfl (by first | omega | (simp; omega)) (by first | exact zd (by omega) | rfl) rfl rfl rfl rfl ?_ | refine ym rfl rfl rfl rfl rfl rfl rfl ?_))
   rw [hj]
   skip
   rw [hX]
   (repeat (first | refine FW.region ?_ | refine zc.nil ?_ | refine za rfl rfl rfl ?_ | refine zb rfl rfl rfl ?_ | refine xc rfl rfl (by first | exact (List.length_map _).symm | (simp; omega)) rfl rfl rfl (by decide) (by exact XB.list rfl) (by simp; omega) (by simp; omega) rfl rfl rfl ?_ | refine zu rfl rfl (by omega) rfl rfl ?_))
   refine ⟨i + 1, ⟨by omega, by rw [hst, List.length_append, Nat.succ_mul]; omega⟩, by omega, ?_⟩
   rw [hst, List.map_append]
   exact (FLe.conv [⟨102, some 100, 0 + 1, ⟨0, .own, 3, 1, O.map zQ ++ xo.map zQ⟩⟩, ⟨103, some 103, 0, ⟨0, .own, 3, 1, L.map zQ⟩⟩] (by simp) (by simp) rfl (by repeat (first | exact .nil | refine .low rfl ?_ | refine .same rfl ?_ | refine .bump (Nat.lt_succ_self _) ?_)) (by repeat (first | exact .nil | refine .old rfl (by decide) (by first | rfl | (simp; done)) ?_)) (by repeat (first | exact .nil | refine .cons (.plain rfl rfl (by first | rfl | (simp; done))) ?_ | refine .cons (.own rfl (.head _) rfl (by first | rfl | (simp; done))) ?_ | refine .cons (.own rfl (.tail _ (.head _)) rfl (by first | rfl | (simp; done))) ?_)))
  ·obtain rfl : i = C.length := by simp at h; omega
   rw [List.take_of_length_le (by omega)] at hO0
   subst hO0
   (repeat (first | refine FW.seq ?_ | refine FW.region ?_ | refine FW.exit ?_ | refine zc.nil ?_ | refine za rfl rfl rfl ?_ | refine zb rfl rfl rfl ?_))
   exact FW.ret ⟨.inl rfl, Zb rfl rfl rfl (by rw [List.length_map]) (by decide) rfl (fun e he => by obtain ⟨b, _, rfl⟩ := List.mem_map.1 he; rfl)⟩
end Go.Proofs.Ytbeebjdnapkhhaa
