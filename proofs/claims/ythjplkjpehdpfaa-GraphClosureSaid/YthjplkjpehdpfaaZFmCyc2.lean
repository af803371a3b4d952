/-
  The contract of graph.Cycle.
-/
import Derived.Test.YthjplkjpehdpfaaZK
namespace Go.Proofs.Ythjplkjpehdpfaa
set_option linter.unusedVariables false
open Go.RowKit

theorem Yx (n : Nat) (E : List (Nat × Nat)) : (List.range n).map (fun v => [FV.list 1 ((zj E v).map zp)]) = (zq n E).map yK := by
 unfold zq
 rw [List.map_map]
 rfl
def Ye : List Int → FV
 | [] => .nil
 | b :: l => .own 100 0 0 (b :: l).length
def zag (n : Nat) (E : List (Nat × Nat)) (i : Nat) : List Int := (List.range i).foldl (ZR n E) []
theorem XB (n : Nat) (E : List (Nat × Nat)) (i : Nat) : zag n E (i + 1) = ZR n E (zag n E i) i := by
 unfold zag
 rw [List.range_succ, List.foldl_append]; rfl
theorem zbb {n : Nat} {E : List (Nat × Nat)} (h : InN n E) : ∀ {i : Nat}, i ≤ n → (zag n E i).length ≤ n
 | 0, _ => Nat.zero_le _
 | i + 1, hi => by rw [XB]; exact zas h (by omega) (zbb h (by omega))
theorem xX (E : List (Nat × Nat)) : (yi E).length = E.length := List.length_map _
theorem yr.le {P : Program} {f : Nat} {args : List FV} {r r' : FV} (h : yr P f args .sh r) (hle : FV.le r r') (hh : r'.hand = none) : yr P f args .sh r' where
 go := h.go
 hand := hh
 calls w I vs hI hv := (h.calls w I vs hI hv).mono fun e w' ⟨v, e1, hb, hr⟩ => ⟨v, e1, hb, Rd.le hle hr⟩
def zfL : List (List FV) → FV
 | [] => .nil
 | e :: es => .list 1 (e :: es)
theorem zeW (es : List (List FV)) : FV.le (zfL es) (.list 1 es) := by
 cases es with
 | nil => exact .nil 1
 | cons e es => exact .refl _
theorem zdb (es : List (List FV)) : (zfL es).hand = none := by cases es <;> rfl
set_option maxHeartbeats 4000000 in
theorem zau (n : Nat) (E : List (Nat × Nat)) (hn : n ≤ 12) (hE : E.length ≤ 1000) (hin : InN n E) : yr Try.prog 15 [.int .i64 n, .list 2 (E.map edf)] .sh (zfL ((Up n E).map zp)) := by
 refine yr.of_body (c := (Zi Try.prog zE zw 128)) ⟨Try.func15, rfl, Try.ntmps15, by kernel_rfl⟩ (by simp [FV.hand]) (by exact Nat.le_of_ble_eq_true rfl) (zdb _) ?_
 change FW _ _ _ ⟨[(0, .int .i64 n), (1, .list 2 (E.map edf))], []⟩
 (repeat (first | refine FW.seq ?_ | refine FW.region ?_ | refine zg.nil ?_ | refine zf rfl rfl rfl ?_ | refine zd rfl rfl rfl ?_))
 refine yp (yu n E (by omega) (by omega) hin) (by repeat (first | exact zx.nil | refine zx.cons (by exact yT.plain rfl rfl) ?_)) rfl rfl ?_
 rw [Yx]
 (repeat (first | refine FW.seq ?_ | refine FW.region ?_ | refine FW.block ?_ | refine zg.nil ?_ | refine zf rfl rfl rfl ?_ | refine zd rfl rfl rfl ?_ | refine zA rfl rfl (by exact List.length_map _) rfl rfl ?_))
 refine FW.loop (fun i : Nat => ⟨[(0, .int .i64 n), (1, .list 2 (E.map edf)), (5, .list 1 ((zq n E).map yK)), (6, .own 100 0 0 i), (22, .list 2 (E.map edf)), (23, .int .i64 E.length), (24, .int .i64 i)], [(100, ⟨0, .own, 34, 2, ((yi E).take i).map edf⟩)]⟩) (fun i => i ≤ E.length) (fun i => E.length - i) 0 (Nat.zero_le _)
  (FLe.conv [⟨100, none, 0, ⟨0, .own, 34, 2, []⟩⟩] (by simp) (by simp) rfl (by repeat (first | exact .nil | refine .low rfl ?_ | refine .same rfl ?_ | refine .bump (Nat.lt_succ_self _) ?_)) (by repeat (first | exact .nil | refine .new ?_)) (by repeat (first | exact .nil | refine .cons (.plain rfl rfl rfl) ?_ | refine .cons (.nil rfl (.head _) rfl) ?_))) ?_
 intro i hi
 (repeat (first | refine FW.seq ?_ | refine FW.region ?_ | refine zg.nil ?_ | refine zI rfl rfl rfl rfl ?_))
 refine FW.cond rfl (fun h => ?_) (fun h => ?_)
 ·have hlt : i < E.length := by simpa using h
  clear h
  obtain ⟨⟨a, b⟩, he⟩ : ∃ e, nth E i = e := ⟨_, rfl⟩
  have hti : ((yi E).take i).length = i := by rw [List.length_take, xX]; omega
  have hts : (yi E).take (i + 1) = (yi E).take i ++ [(b, a)] := by
   rw [List.take_succ_eq_append_getElem (by rw [xX]; exact hlt)]
   congr 2
   rw [nth_eq hlt] at he
   simp [yi, he]
  obtain ⟨Z, hZ⟩ : ∃ Z, (yi E).take i = Z := ⟨_, rfl⟩
  rw [hZ] at hti hts ⊢
  (repeat (first | refine FW.seq ?_ | refine FW.region ?_ | refine FW.block ?_ | refine FW.skip ?_ | refine zg.nil ?_ | refine zf rfl rfl rfl ?_ | refine zd rfl rfl rfl ?_ | refine zy rfl rfl rfl rfl rfl rfl (by first | (simp; omega) | (simp; done)) rfl rfl ?_ | refine zcj rfl rfl rfl rfl rfl rfl rfl (by decide) (by first | (simp; omega) | (simp; done)) rfl rfl ?_ | refine zT rfl rfl rfl rfl rfl (by first | (simp; omega) | (simp; done)) (by first | exact zh (by omega) | rfl) rfl rfl rfl rfl ?_ | refine US rfl rfl rfl (by decide) (by first | (simp; omega) | (simp; done)) (by first | exact zh (by omega) | rfl) rfl rfl rfl ?_ | refine xg rfl rfl rfl rfl rfl rfl rfl ?_ | refine Vo rfl rfl rfl rfl rfl rfl rfl rfl rfl ?_ | refine YS rfl rfl rfl rfl rfl rfl rfl rfl rfl ?_ | refine zaT rfl rfl rfl rfl rfl rfl rfl rfl rfl rfl ?_ | refine xJ rfl rfl (by first | rfl | (simp; done) | (simp; omega)) rfl rfl rfl (by decide) (by exact xB.own rfl rfl (by decide) (by first | exact List.length_map _ | exact (List.length_map _).symm | exact List.length_replicate | rfl | (simp; done) | omega | (simp; omega))) (by first | (simp; omega) | (simp; done)) (by first | (simp; omega) | (simp; done)) rfl rfl rfl ?_ | refine zC rfl rfl (by omega) rfl rfl ?_))
  rw [he]
  skip
  refine ⟨i + 1, by omega, by omega, ?_⟩
  rw [hts, List.map_append]
  exact (FLe.conv [⟨100, some 35, 0 + 1, ⟨0, .own, 34, 2, Z.map edf ++ [(b, a)].map edf⟩⟩] (by simp) (by simp) rfl (by repeat (first | exact .nil | refine .low rfl ?_ | refine .same rfl ?_ | refine .bump (Nat.lt_succ_self _) ?_)) (by repeat (first | exact .nil | refine .old rfl (by decide) (by first | rfl | (simp; omega)) ?_)) (by repeat (first | exact .nil | refine .cons (.plain rfl rfl (by first | rfl | (simp; omega))) ?_ | refine .cons (.own rfl (.head _) rfl (by first | rfl | (simp; omega))) ?_)))
 ·obtain rfl : i = E.length := by simp at h; omega
  clear h hi
  rw [← xX, List.take_length]
  (repeat (first | refine FW.seq ?_ | refine FW.region ?_ | refine FW.exit ?_ | refine zd rfl rfl rfl ?_))
  refine zg.le ?_ (FLe.share 38 rfl rfl (by simp))
  refine yp (yu n (yi E) (by omega) (by rw [xX]; omega) (yR hin)) (by repeat (first | exact zx.nil | refine zx.cons (by exact yT.plain rfl rfl) ?_)) rfl rfl ?_
  rw [Yx]
  (repeat (first | refine FW.seq ?_ | refine FW.region ?_ | refine FW.block ?_ | refine zg.nil ?_ | refine zf rfl rfl rfl ?_ | refine zd rfl rfl rfl ?_))
  refine FW.loop (fun i : Nat => ⟨[(0, .int .i64 n), (5, .list 1 ((zq n E).map yK)), (9, .list 1 ((zq n (yi E)).map yK)), (10, Ye (zag n E i)), (40, .int .i64 n), (41, .int .i64 i)], [(100, ⟨0, .own, 3, 1, (zag n E i).map zp⟩)]⟩) (fun i => i ≤ n) (fun i => n - i) 0 (Nat.zero_le _) ?_ ?_
  ·show FLe _ ⟨[(0, .int .i64 n), (5, .list 1 ((zq n E).map yK)), (9, .list 1 ((zq n (yi E)).map yK)), (10, .nil), (40, .int .i64 n), (41, .int .i64 0)], [(100, ⟨0, .own, 3, 1, []⟩)]⟩
   exact (FLe.conv [⟨100, none, 0, ⟨0, .own, 3, 1, []⟩⟩] (by simp) (by simp) rfl (by repeat (first | exact .nil | refine .low rfl ?_ | refine .same rfl ?_ | refine .bump (Nat.lt_succ_self _) ?_)) (by repeat (first | exact .nil | refine .new ?_)) (by repeat (first | exact .nil | refine .cons (.plain rfl rfl rfl) ?_)))
  intro i hi
  (repeat (first | refine FW.seq ?_ | refine FW.region ?_ | refine zg.nil ?_ | refine zI rfl rfl rfl rfl ?_))
  refine FW.cond rfl (fun h => ?_) (fun h => ?_)
  ·have hlt : i < n := by simpa using h
   clear h
   (repeat (first | refine FW.seq ?_ | refine FW.region ?_ | refine FW.block ?_ | refine FW.skip ?_ | refine zg.nil ?_ | refine zd rfl rfl rfl ?_ | refine zT rfl rfl rfl rfl rfl (by simp; done) rfl rfl rfl rfl rfl ?_ | refine xg rfl rfl rfl rfl rfl rfl rfl ?_ | refine xy rfl rfl rfl rfl rfl rfl rfl rfl rfl ?_))
   refine Xs (WM n i (zq n (yi E)) hn hlt (zL n _) (xd (yR hin)) (fun r hr => by have := zdy n (yi E) r hr; rw [xX] at this; omega)) (by repeat (first | exact zx.nil | refine zx.cons (by exact yT.plain rfl rfl) ?_)) ((List.length_map _).trans (Xy hin hlt)) rfl rfl rfl ?_
   rw [show dist (zq n (yi E)) n i = zJ n E i from rfl]
   have hdl := Xy hin hlt
   have hrng := fun v (hv : v < n) => Uh hin hlt hv
   have hrw : nth (zq n E) i = zj E i := yL E hlt
   have hrn := zL n E
   refine zg.le ?_ ((FLe.share 47 rfl rfl (by rw [List.length_map]; exact hdl.symm)).trans (FLe.shareP 11 rfl rfl))
   obtain ⟨d, hd⟩ : ∃ d, zJ n E i = d := ⟨_, rfl⟩
   rw [hd] at hdl hrng ⊢
   (repeat (first | refine FW.seq ?_ | refine FW.region ?_ | refine FW.block ?_ | refine zg.nil ?_ | refine zf rfl rfl rfl ?_ | refine zd rfl rfl rfl ?_ | refine zA rfl rfl (by first | exact List.length_map _ | rfl | (simp; done) | (simp; omega)) rfl rfl ?_ | refine zy rfl rfl rfl rfl rfl rfl (by first | (simp; omega) | (simp; done)) rfl rfl ?_ | refine zD rfl rfl rfl (by first | (simp; omega) | (simp; done)) (by first | exact zh (by omega) | rfl) rfl rfl rfl rfl ?_ | refine xg rfl rfl rfl rfl rfl rfl rfl ?_ | refine xy rfl rfl rfl rfl rfl rfl rfl rfl rfl ?_))
   rw [hrw]
   obtain ⟨B, hB⟩ : ∃ B, zag n E i = B := ⟨_, rfl⟩
   rw [hB]
   refine FW.le ?_ (FLe.shareP 12 rfl rfl)
   refine FW.loop (fun j : Nat => ⟨[(0, .int .i64 n), (5, .list 1 ((zq n E).map yK)), (9, .list 1 ((zq n (yi E)).map yK)), (10, Ye B), (40, .int .i64 n), (41, .int .i64 i), (11, .eptr 1 [[.int .i64 i]] 0 0), (12, .eptr 1 [[.list 1 (d.map zp)]] 0 0), (13, .int .i64 (((zj E i).take j).foldl (zQ d i) 0)), (51, .list 1 ((zj E i).map zp)), (52, .int .i64 (zj E i).length), (53, .int .i64 j)], [(100, ⟨0, .own, 3, 1, B.map zp⟩)]⟩) (fun j => j ≤ (zj E i).length) (fun j => (zj E i).length - j) 0 (Nat.zero_le _) ?_ ?_
   ·rcases B with _ | ⟨b, l⟩
    ·show FLe _ ⟨[(0, .int .i64 n), (5, .list 1 ((zq n E).map yK)), (9, .list 1 ((zq n (yi E)).map yK)), (10, .nil), (40, .int .i64 n), (41, .int .i64 i), (11, .eptr 1 [[.int .i64 i]] 0 0), (12, .eptr 1 [[.list 1 (d.map zp)]] 0 0), (13, .int .i64 0), (51, .list 1 ((zj E i).map zp)), (52, .int .i64 (zj E i).length), (53, .int .i64 0)], [(100, ⟨0, .own, 3, 1, []⟩)]⟩
     exact (FLe.conv [⟨100, some 100, 0, ⟨0, .own, 3, 1, []⟩⟩] (by simp) (by simp) rfl (by repeat (first | exact .nil | refine .low rfl ?_ | refine .same rfl ?_ | refine .bump (Nat.lt_succ_self _) ?_)) (by repeat (first | exact .nil | refine .old rfl (by decide) rfl ?_)) (by repeat (first | exact .nil | refine .cons (.plain rfl rfl rfl) ?_)))
    ·show FLe _ ⟨[(0, .int .i64 n), (5, .list 1 ((zq n E).map yK)), (9, .list 1 ((zq n (yi E)).map yK)), (10, .own 100 0 0 (b :: l).length), (40, .int .i64 n), (41, .int .i64 i), (11, .eptr 1 [[.int .i64 i]] 0 0), (12, .eptr 1 [[.list 1 (d.map zp)]] 0 0), (13, .int .i64 0), (51, .list 1 ((zj E i).map zp)), (52, .int .i64 (zj E i).length), (53, .int .i64 0)], [(100, ⟨0, .own, 3, 1, (b :: l).map zp⟩)]⟩
     exact (FLe.conv [⟨100, some 100, 0, ⟨0, .own, 3, 1, (b :: l).map zp⟩⟩] (by simp) (by simp) rfl (by repeat (first | exact .nil | refine .low rfl ?_ | refine .same rfl ?_ | refine .bump (Nat.lt_succ_self _) ?_)) (by repeat (first | exact .nil | refine .old rfl (by decide) rfl ?_)) (by repeat (first | exact .nil | refine .cons (.plain rfl rfl rfl) ?_ | refine .cons (.own rfl (.head _) rfl rfl) ?_)))
   have hsl := xz E i
   intro j hj
   (repeat (first | refine FW.seq ?_ | refine FW.region ?_ | refine zg.nil ?_ | refine zI rfl rfl rfl rfl ?_))
   refine FW.cond rfl (fun h => ?_) (fun h => ?_)
   ·have hlt3 : j < (zj E i).length := by simpa using h
    clear h
    obtain ⟨v, hv⟩ : ∃ v : Nat, nth (zj E i) j = v := ⟨(nth (zj E i) j).toNat, by have := (zO hin (zF hlt3)).1; omega⟩
    have hvn : v < n := by have := (zO hin (zF hlt3)).2; omega
    have hrv := hrng v hvn
    have hst : ((zj E i).take (j + 1)).foldl (zQ d i) 0 = zQ d i (((zj E i).take j).foldl (zQ d i) 0) v := by
     rw [List.take_succ_eq_append_getElem hlt3, List.foldl_append, ← nth_eq hlt3, hv]; rfl
    obtain ⟨L, hL⟩ : ∃ L, ((zj E i).take j).foldl (zQ d i) 0 = L := ⟨_, rfl⟩
    rw [hL] at hst ⊢
    generalize hBm : B.map zp = Bm
    have hdn : nth d ((v : Int)).toNat = nth d v := rfl
    (repeat (first | refine FW.seq ?_ | refine FW.region ?_ | refine FW.block ?_ | refine FW.skip ?_ | refine zg.nil ?_ | refine zf rfl rfl rfl ?_ | refine zd rfl rfl rfl ?_ | refine zy rfl rfl rfl rfl rfl rfl (by first | (simp; omega) | (simp; done)) rfl rfl ?_ | refine zD rfl rfl rfl (by first | (simp; omega) | (simp; done)) (by first | exact zh (by omega) | rfl) rfl rfl rfl rfl ?_ | refine UR rfl rfl rfl rfl ?_))
    rw [hv]
    skip
    refine yo (fun h1 => ?_) (fun h1 => ?_)
    ·(repeat (first | refine zd rfl rfl rfl ?_ | refine zN rfl rfl rfl rfl ?_ | refine zD rfl rfl rfl (by first | (simp; omega) | (simp; done)) (by first | exact zh (by omega) | rfl) rfl rfl rfl ⟨_, _, rfl, rfl, rfl⟩ ?_ | refine zd rfl rfl ⟨_, _, rfl, rfl, rfl⟩ ?_ | refine zy rfl rfl rfl rfl rfl rfl (by first | (simp; omega) | (simp; done)) rfl ⟨_, _, rfl, rfl, rfl⟩ ?_ | refine UR rfl rfl rfl ⟨_, _, rfl, rfl, rfl⟩ ?_))
     refine yo (fun h2 => ?_) (fun h2 => ?_)
     ·(repeat (first | refine zd rfl rfl ⟨_, _, rfl, rfl, rfl⟩ ?_ | refine Zl rfl rfl rfl ⟨_, _, rfl, rfl, rfl⟩ ?_))
      refine yo (fun h3 => ?_) (fun h3 => ?_)
      ·(repeat (first | refine FW.region ?_ | refine FW.condT rfl ?_ | refine zg.nil ?_ | refine zf rfl rfl rfl ?_ | refine zd rfl rfl rfl ?_ | refine zy rfl rfl rfl rfl rfl rfl (by first | omega | (simp; omega) | (simp; done)) rfl rfl ?_ | refine zD rfl rfl rfl (by first | omega | (simp; omega) | (simp; done)) (by first | exact zh (by omega) | rfl) rfl rfl rfl rfl ?_ | refine zC rfl rfl (by omega) rfl rfl ?_ | refine zN rfl rfl rfl rfl ?_ | refine zN rfl rfl rfl ⟨_, _, rfl, rfl, rfl⟩ ?_ | refine yj rfl rfl ⟨_, _, rfl, rfl, rfl⟩ ?_))
       rw [zQ, if_pos ⟨⟨by simpa using h1, by simpa using h2⟩, .inl (by simpa using h3)⟩, hdn] at hst
       refine ⟨j + 1, by omega, by omega, ?_⟩
       rw [hst]
       rcases B with _ | ⟨b, l⟩ <;> dsimp only [Ye]
       ·exact (FLe.conv [⟨100, some 100, 0, ⟨0, .own, 3, 1, Bm⟩⟩] (by simp) (by simp) rfl (by repeat (first | exact .nil | refine .low rfl ?_ | refine .same rfl ?_ | refine .bump (Nat.lt_succ_self _) ?_)) (by repeat (first | exact .nil | refine .old rfl (by decide) rfl ?_)) (by repeat (first | exact .nil | refine .cons (.plain rfl rfl rfl) ?_)))
       ·exact (FLe.conv [⟨100, some 100, 0, ⟨0, .own, 3, 1, Bm⟩⟩] (by simp) (by simp) rfl (by repeat (first | exact .nil | refine .low rfl ?_ | refine .same rfl ?_ | refine .bump (Nat.lt_succ_self _) ?_)) (by repeat (first | exact .nil | refine .old rfl (by decide) rfl ?_)) (by repeat (first | exact .nil | refine .cons (.plain rfl rfl rfl) ?_ | refine .cons (.own rfl (.head _) rfl rfl) ?_)))
      ·(repeat (first | refine zg.nil ?_ | refine zN rfl rfl rfl rfl ?_ | refine zD rfl rfl rfl (by first | (simp; omega) | (simp; done)) (by first | exact zh (by omega) | rfl) rfl rfl rfl ⟨_, _, rfl, rfl, rfl⟩ ?_ | refine zd rfl rfl ⟨_, _, rfl, rfl, rfl⟩ ?_ | refine zy rfl rfl rfl rfl rfl rfl (by first | (simp; omega) | (simp; done)) rfl ⟨_, _, rfl, rfl, rfl⟩ ?_ | refine zC rfl rfl (by omega) rfl ⟨_, _, rfl, rfl, rfl⟩ ?_ | refine zI rfl rfl rfl ⟨_, _, rfl, rfl, rfl⟩ ?_ | refine zU rfl rfl rfl ⟨_, _, rfl, rfl, rfl⟩ ?_))
       refine FW.cond rfl (fun h4 => ?_) (fun h4 => ?_)
       ·(repeat (first | refine FW.region ?_ | refine zg.nil ?_ | refine zf rfl rfl rfl ?_ | refine zd rfl rfl rfl ?_ | refine zy rfl rfl rfl rfl rfl rfl (by first | (simp; omega) | (simp; done)) rfl rfl ?_ | refine zD rfl rfl rfl (by first | (simp; omega) | (simp; done)) (by first | exact zh (by omega) | rfl) rfl rfl rfl rfl ?_ | refine zC rfl rfl (by omega) rfl rfl ?_))
        rw [zQ, if_pos ⟨⟨by simpa using h1, by simpa using h2⟩, .inr (by simpa using h4)⟩, hdn] at hst
        refine ⟨j + 1, by omega, by omega, ?_⟩
        rw [hst]
        rcases B with _ | ⟨b, l⟩ <;> dsimp only [Ye]
        ·exact (FLe.conv [⟨100, some 100, 0, ⟨0, .own, 3, 1, Bm⟩⟩] (by simp) (by simp) rfl (by repeat (first | exact .nil | refine .low rfl ?_ | refine .same rfl ?_ | refine .bump (Nat.lt_succ_self _) ?_)) (by repeat (first | exact .nil | refine .old rfl (by decide) rfl ?_)) (by repeat (first | exact .nil | refine .cons (.plain rfl rfl rfl) ?_)))
        ·exact (FLe.conv [⟨100, some 100, 0, ⟨0, .own, 3, 1, Bm⟩⟩] (by simp) (by simp) rfl (by repeat (first | exact .nil | refine .low rfl ?_ | refine .same rfl ?_ | refine .bump (Nat.lt_succ_self _) ?_)) (by repeat (first | exact .nil | refine .old rfl (by decide) rfl ?_)) (by repeat (first | exact .nil | refine .cons (.plain rfl rfl rfl) ?_ | refine .cons (.own rfl (.head _) rfl rfl) ?_)))
       ·(repeat (first | refine FW.region ?_ | refine FW.skip ?_ | refine zg.nil ?_ | refine zd rfl rfl rfl ?_ | refine zC rfl rfl (by omega) rfl rfl ?_))
        rw [zQ, if_neg (fun q => by simp at h3 h4; rcases q.2 with q | q; exact h3 q; rw [hdn] at q; omega)] at hst
        refine ⟨j + 1, by omega, by omega, ?_⟩
        rw [hst]
        rcases B with _ | ⟨b, l⟩ <;> dsimp only [Ye]
        ·exact (FLe.conv [⟨100, some 100, 0, ⟨0, .own, 3, 1, Bm⟩⟩] (by simp) (by simp) rfl (by repeat (first | exact .nil | refine .low rfl ?_ | refine .same rfl ?_ | refine .bump (Nat.lt_succ_self _) ?_)) (by repeat (first | exact .nil | refine .old rfl (by decide) rfl ?_)) (by repeat (first | exact .nil | refine .cons (.plain rfl rfl rfl) ?_)))
        ·exact (FLe.conv [⟨100, some 100, 0, ⟨0, .own, 3, 1, Bm⟩⟩] (by simp) (by simp) rfl (by repeat (first | exact .nil | refine .low rfl ?_ | refine .same rfl ?_ | refine .bump (Nat.lt_succ_self _) ?_)) (by repeat (first | exact .nil | refine .old rfl (by decide) rfl ?_)) (by repeat (first | exact .nil | refine .cons (.plain rfl rfl rfl) ?_ | refine .cons (.own rfl (.head _) rfl rfl) ?_)))
     ·(repeat (first | refine FW.region ?_ | refine FW.skip ?_ | refine FW.condF rfl ?_ | refine zg.nil ?_ | refine zd rfl rfl rfl ?_ | refine zC rfl rfl (by omega) rfl rfl ?_ | refine zU rfl rfl rfl rfl ?_ | refine yj rfl rfl ⟨_, _, rfl, rfl, rfl⟩ ?_))
      rw [zQ, if_neg (fun q => by simp at h2; have q2 := q.1.2; rw [hdn] at q2; omega)] at hst
      refine ⟨j + 1, by omega, by omega, ?_⟩
      rw [hst]
      rcases B with _ | ⟨b, l⟩ <;> dsimp only [Ye]
      ·exact (FLe.conv [⟨100, some 100, 0, ⟨0, .own, 3, 1, Bm⟩⟩] (by simp) (by simp) rfl (by repeat (first | exact .nil | refine .low rfl ?_ | refine .same rfl ?_ | refine .bump (Nat.lt_succ_self _) ?_)) (by repeat (first | exact .nil | refine .old rfl (by decide) rfl ?_)) (by repeat (first | exact .nil | refine .cons (.plain rfl rfl rfl) ?_)))
      ·exact (FLe.conv [⟨100, some 100, 0, ⟨0, .own, 3, 1, Bm⟩⟩] (by simp) (by simp) rfl (by repeat (first | exact .nil | refine .low rfl ?_ | refine .same rfl ?_ | refine .bump (Nat.lt_succ_self _) ?_)) (by repeat (first | exact .nil | refine .old rfl (by decide) rfl ?_)) (by repeat (first | exact .nil | refine .cons (.plain rfl rfl rfl) ?_ | refine .cons (.own rfl (.head _) rfl rfl) ?_)))
    ·(repeat (first | refine FW.region ?_ | refine FW.skip ?_ | refine FW.condF rfl ?_ | refine zg.nil ?_ | refine zd rfl rfl rfl ?_ | refine zC rfl rfl (by omega) rfl rfl ?_ | refine zU rfl rfl rfl rfl ?_ | refine yj rfl rfl ⟨_, _, rfl, rfl, rfl⟩ ?_))
     rw [zQ, if_neg (fun q => by simp at h1; omega)] at hst
     refine ⟨j + 1, by omega, by omega, ?_⟩
     rw [hst]
     rcases B with _ | ⟨b, l⟩ <;> dsimp only [Ye]
     ·exact (FLe.conv [⟨100, some 100, 0, ⟨0, .own, 3, 1, Bm⟩⟩] (by simp) (by simp) rfl (by repeat (first | exact .nil | refine .low rfl ?_ | refine .same rfl ?_ | refine .bump (Nat.lt_succ_self _) ?_)) (by repeat (first | exact .nil | refine .old rfl (by decide) rfl ?_)) (by repeat (first | exact .nil | refine .cons (.plain rfl rfl rfl) ?_)))
     ·exact (FLe.conv [⟨100, some 100, 0, ⟨0, .own, 3, 1, Bm⟩⟩] (by simp) (by simp) rfl (by repeat (first | exact .nil | refine .low rfl ?_ | refine .same rfl ?_ | refine .bump (Nat.lt_succ_self _) ?_)) (by repeat (first | exact .nil | refine .old rfl (by decide) rfl ?_)) (by repeat (first | exact .nil | refine .cons (.plain rfl rfl rfl) ?_ | refine .cons (.own rfl (.head _) rfl rfl) ?_)))
   ·obtain rfl : j = (zj E i).length := by simp at h; omega
    clear h hj
    rw [List.take_length]
    obtain ⟨L, hL⟩ : ∃ L, (zj E i).foldl (zQ d i) 0 = L := ⟨_, rfl⟩
    rw [hL]
    have hLL : yN (zJ n E i) i (zj E i) = L := by rw [hd]; exact hL
    have hcs := XB n E i
    rw [hB] at hcs
    unfold ZR at hcs
    dsimp only at hcs
    rw [hLL] at hcs
    have hBl : B.length ≤ n := hB ▸ zbb hin (by omega)
    refine FW.exit ?_
    refine FW.seq ?_
    refine FW.seq ?_
    refine FW.join (fun _ : Unit => ⟨[(0, .int .i64 n), (5, .list 1 ((zq n E).map yK)), (9, .list 1 ((zq n (yi E)).map yK)), (10, Ye B), (40, .int .i64 n), (41, .int .i64 i), (11, .eptr 1 [[.int .i64 i]] 0 0), (12, .eptr 1 [[.list 1 (d.map zp)]] 0 0), (13, .int .i64 L), (97, .bool (decide (L = 0 ∨ (B ≠ [] ∧ (B.length : Int) ≤ L))))], [(100, ⟨0, .own, 3, 1, B.map zp⟩)]⟩) (fun _ => True) ?_ (fun _ _ => ?_)
    ·rcases B with _ | ⟨b, l⟩
     ·dsimp only [Ye]
      (repeat (first | refine FW.region ?_ | refine zd rfl rfl rfl ?_ | refine Zl rfl rfl rfl rfl ?_))
      refine yo (fun h1 => ?_) (fun h1 => ?_)
      ·(repeat (first | refine zg.nil ?_ | refine zN rfl rfl rfl rfl ?_ | refine yj rfl rfl ⟨_, _, rfl, rfl, rfl⟩ ?_))
       refine ⟨rfl, (), trivial, ?_⟩
       rw [show decide (L = 0 ∨ (([] : List Int) ≠ [] ∧ ((([] : List Int).length : Nat) : Int) ≤ L)) = true by simpa using h1]
       exact (FLe.conv [⟨100, some 100, 0, ⟨0, .own, 3, 1, []⟩⟩] (by simp) (by simp) rfl (by repeat (first | exact .nil | refine .low rfl ?_ | refine .same rfl ?_ | refine .bump (Nat.lt_succ_self _) ?_)) (by repeat (first | exact .nil | refine .old rfl (by decide) rfl ?_)) (by repeat (first | exact .nil | refine .cons (.plain rfl rfl rfl) ?_)))
      ·(repeat (first | refine zg.nil ?_ | refine zU rfl rfl rfl rfl ?_ | refine zd rfl rfl ⟨_, _, rfl, rfl, rfl⟩ ?_ | refine zU rfl rfl rfl ⟨_, _, rfl, rfl, rfl⟩ ?_ | refine zdv rfl rfl rfl rfl ⟨_, _, rfl, rfl, rfl⟩ ?_ | refine yj rfl rfl ⟨_, _, rfl, rfl, rfl⟩ ?_))
       refine ⟨rfl, (), trivial, ?_⟩
       rw [show decide (L = 0 ∨ (([] : List Int) ≠ [] ∧ ((([] : List Int).length : Nat) : Int) ≤ L)) = false by simpa using h1]
       exact (FLe.conv [⟨100, some 100, 0, ⟨0, .own, 3, 1, []⟩⟩] (by simp) (by simp) rfl (by repeat (first | exact .nil | refine .low rfl ?_ | refine .same rfl ?_ | refine .bump (Nat.lt_succ_self _) ?_)) (by repeat (first | exact .nil | refine .old rfl (by decide) rfl ?_)) (by repeat (first | exact .nil | refine .cons (.plain rfl rfl rfl) ?_)))
     ·dsimp only [Ye]
      (repeat (first | refine FW.region ?_ | refine zd rfl rfl rfl ?_ | refine Zl rfl rfl rfl rfl ?_))
      refine yo (fun h1 => ?_) (fun h1 => ?_)
      ·(repeat (first | refine zg.nil ?_ | refine zN rfl rfl rfl rfl ?_ | refine yj rfl rfl ⟨_, _, rfl, rfl, rfl⟩ ?_))
       refine ⟨rfl, (), trivial, ?_⟩
       rw [show decide (L = 0 ∨ ((b :: l : List Int) ≠ [] ∧ (((b :: l : List Int).length : Nat) : Int) ≤ L)) = true by simp at h1 ⊢; exact .inl h1]
       exact (FLe.conv [⟨100, some 100, 0, ⟨0, .own, 3, 1, (b :: l).map zp⟩⟩] (by simp) (by simp) rfl (by repeat (first | exact .nil | refine .low rfl ?_ | refine .same rfl ?_ | refine .bump (Nat.lt_succ_self _) ?_)) (by repeat (first | exact .nil | refine .old rfl (by decide) rfl ?_)) (by repeat (first | exact .nil | refine .cons (.plain rfl rfl rfl) ?_ | refine .cons (.own rfl (.head _) rfl rfl) ?_)))
      ·(repeat (first | refine zg.nil ?_ | refine zU rfl rfl rfl rfl ?_ | refine zd rfl rfl ⟨_, _, rfl, rfl, rfl⟩ ?_ | refine UR rfl rfl rfl ⟨_, _, rfl, rfl, rfl⟩ ?_ | refine zN rfl rfl rfl ⟨_, _, rfl, rfl, rfl⟩ ?_ | refine zdw rfl rfl rfl rfl (by decide) (by simp; done) rfl ⟨_, _, rfl, rfl, rfl⟩ ?_ | refine yl rfl rfl rfl (by decide) rfl ⟨_, _, rfl, rfl, rfl⟩ ?_))
       refine ⟨rfl, (), trivial, ?_⟩
       rw [show decide (L = 0 ∨ ((b :: l : List Int) ≠ [] ∧ (((b :: l : List Int).length : Nat) : Int) ≤ L)) = decide (L ≥ (((b :: l).length : Nat) : Int)) by simp at h1 ⊢; intro q; exact absurd q h1]
       exact (FLe.conv [⟨100, some 100, 0, ⟨0, .own, 3, 1, (b :: l).map zp⟩⟩] (by simp) (by simp) rfl (by repeat (first | exact .nil | refine .low rfl ?_ | refine .same rfl ?_ | refine .bump (Nat.lt_succ_self _) ?_)) (by repeat (first | exact .nil | refine .old rfl (by decide) rfl ?_)) (by repeat (first | exact .nil | refine .cons (.plain rfl rfl rfl) ?_ | refine .cons (.own rfl (.head _) rfl rfl) ?_)))
    ·refine FW.cond rfl (fun h => ?_) (fun h => ?_)
     ·rw [if_pos (by simpa using h)] at hcs
      (repeat (first | refine FW.region ?_ | refine FW.exit ?_ | refine zg.nil ?_ | refine zd rfl rfl rfl ?_ | refine zC rfl rfl (by omega) rfl rfl ?_))
      refine ⟨i + 1, by omega, by omega, ?_⟩
      rw [hcs]
      generalize hBm : B.map zp = Bm
      rcases B with _ | ⟨b, l⟩ <;> dsimp only [Ye]
      ·exact (FLe.conv [⟨100, some 100, 0, ⟨0, .own, 3, 1, Bm⟩⟩] (by simp) (by simp) rfl (by repeat (first | exact .nil | refine .low rfl ?_ | refine .same rfl ?_ | refine .bump (Nat.lt_succ_self _) ?_)) (by repeat (first | exact .nil | refine .old rfl (by decide) rfl ?_)) (by repeat (first | exact .nil | refine .cons (.plain rfl rfl rfl) ?_)))
      ·exact (FLe.conv [⟨100, some 100, 0, ⟨0, .own, 3, 1, Bm⟩⟩] (by simp) (by simp) rfl (by repeat (first | exact .nil | refine .low rfl ?_ | refine .same rfl ?_ | refine .bump (Nat.lt_succ_self _) ?_)) (by repeat (first | exact .nil | refine .old rfl (by decide) rfl ?_)) (by repeat (first | exact .nil | refine .cons (.plain rfl rfl rfl) ?_ | refine .cons (.own rfl (.head _) rfl rfl) ?_)))
     ·have hno : ¬ (L = 0 ∨ (B ≠ [] ∧ (B.length : Int) ≤ L)) := by simpa using h
      rw [if_neg hno] at hcs
      obtain ⟨K, hK, hKn, hway⟩ := ZW hin hlt (by rw [hLL]; exact fun e => hno (.inl e))
      rw [hLL] at hK
      subst hK
      rw [show ((K + 1 : Nat) : Int).toNat - 1 = K by omega] at hcs
      clear h hno hL hLL hB hBl hrn
      rw [hd] at hcs
      refine FW.le (s' := ⟨[(0, .int .i64 n), (5, .list 1 ((zq n E).map yK)), (9, .list 1 ((zq n (yi E)).map yK)), (40, .int .i64 n), (41, .int .i64 i), (11, .eptr 1 [[.int .i64 i]] 0 0), (12, .eptr 1 [[.list 1 (d.map zp)]] 0 0), (13, .int .i64 (K + 1 : Nat))], []⟩) ?_ (FLe.conv [] (by simp) (by simp) rfl (by repeat (first | exact .nil | refine .low rfl ?_ | refine .same rfl ?_ | refine .bump (Nat.lt_succ_self _) ?_)) (by repeat (first | exact .nil)) (by repeat (first | exact .nil | refine .cons (.plain rfl rfl rfl) ?_)))
      (repeat (first | refine FW.seq ?_ | refine FW.region ?_ | refine FW.block ?_ | refine FW.skip ?_ | refine zg.nil ?_ | refine zf rfl rfl rfl ?_ | refine zD rfl rfl rfl (by simp; done) rfl rfl rfl rfl rfl ?_ | refine zP rfl rfl rfl rfl rfl rfl rfl rfl ?_))
      refine FW.loop (fun x : List Int × Nat => ⟨[(0, .int .i64 n), (5, .list 1 ((zq n E).map yK)), (9, .list 1 ((zq n (yi E)).map yK)), (40, .int .i64 n), (41, .int .i64 i), (11, .eptr 1 [[.int .i64 i]] 0 0), (12, .eptr 1 [[.list 1 (d.map zp)]] 0 0), (13, .int .i64 (K + 1 : Nat)), (10, .own 100 0 0 x.1.length), (16, .int .i64 x.2)], [(100, ⟨0, .own, 3, 1, x.1.map zp⟩)]⟩) (fun x => ∃ k, x.1.length + k = K + 1 ∧ x.2 < n ∧ Way E (zJ n E i) i k x.2 ∧ x.1 ++ Yc E d i k x.2 = (i : Int) :: Yc E d i K i) (fun x => K + 1 - x.1.length) ([(i : Int)], i) ⟨K, by simp; omega, hlt, hway, rfl⟩ ?_ ?_
      ·show FLe _ ⟨[(0, .int .i64 n), (5, .list 1 ((zq n E).map yK)), (9, .list 1 ((zq n (yi E)).map yK)), (40, .int .i64 n), (41, .int .i64 i), (11, .eptr 1 [[.int .i64 i]] 0 0), (12, .eptr 1 [[.list 1 (d.map zp)]] 0 0), (13, .int .i64 (K + 1 : Nat)), (10, .own 100 0 0 1), (16, .int .i64 i)], [(100, ⟨0, .own, 3, 1, [[.int .i64 i]]⟩)]⟩
       exact (FLe.conv [⟨100, some 99, 0 + 1, ⟨0, .own, 3, 1, [[.int .i64 i]]⟩⟩] (by simp) (by simp) rfl (by repeat (first | exact .nil | refine .low rfl ?_ | refine .same rfl ?_ | refine .bump (Nat.lt_succ_self _) ?_)) (by repeat (first | exact .nil | refine .old rfl (by decide) rfl ?_)) (by repeat (first | exact .nil | refine .cons (.plain rfl rfl rfl) ?_ | refine .cons (.own rfl (.head _) rfl rfl) ?_)))
      ·rintro ⟨P, v⟩ ⟨k, hPk, hvn, hw, hP⟩
       dsimp only at hPk hvn hw hP ⊢
       (repeat (first | refine FW.seq ?_ | refine FW.region ?_ | refine zg.nil ?_ | refine zd rfl rfl rfl ?_ | refine yl rfl rfl rfl (by decide) rfl rfl ?_ | refine zI rfl rfl rfl rfl ?_))
       refine FW.cond rfl (fun h => ?_) (fun h => ?_)
       ·obtain ⟨k, rfl⟩ : ∃ k', k = k' + 1 := ⟨k - 1, by simp at h; omega⟩
        clear h
        obtain ⟨j, hj, hfx, hnx, hsn, hway'⟩ := hw.step hin hlt
        rw [hd] at hfx hnx hsn hway'
        have hwo : Yc E d i (k + 1) v = (xF E d i (k + 1 : Nat) v : Int) :: Yc E d i k (xF E d i (k + 1 : Nat) v) := rfl
        rw [hwo] at hP
        obtain ⟨u, hu⟩ : ∃ u, xF E d i (k + 1 : Nat) v = u := ⟨_, rfl⟩
        rw [hu] at hnx hsn hway' hP
        have hvr : nth (zq n E) v = zj E v := yL E hvn
        have hvl := xz E v
        have hrn := zL n E
        have hlft : ((K + 1 : Nat) : Int) - (P.length : Int) = (k + 1 : Nat) := by omega
        (repeat (first | refine FW.seq ?_ | refine FW.region ?_ | refine FW.block ?_ | refine FW.skip ?_ | refine zg.nil ?_ | refine zd rfl rfl rfl ?_ | refine yl rfl rfl rfl (by decide) rfl rfl ?_ | refine zy rfl rfl rfl rfl rfl rfl (by simp; omega) rfl rfl ?_ | refine zD rfl rfl rfl (by simp; omega) (by first | exact zh (by omega) | rfl) rfl rfl rfl rfl ?_ | refine xg rfl rfl rfl rfl rfl rfl rfl ?_ | refine xy rfl rfl rfl rfl rfl rfl rfl rfl rfl ?_ | refine Xg rfl rfl (by omega) rfl rfl ?_))
        rw [hlft, hvr]
        refine zg.le ?_ (FLe.shareP 17 rfl rfl)
        (repeat (first | refine zck rfl rfl rfl rfl rfl rfl rfl rfl ?_))
        refine zW (WV (zj E v) _ _ (Yu d i (k + 1 : Nat)) (by omega) (fun x hx => ?_)) (by repeat (first | exact zx.nil | refine zx.cons (by exact yT.plain rfl rfl) ?_)) rfl rfl ?_
        ·have hx2 := zO hin hx
         obtain ⟨x, rfl⟩ : ∃ x' : Nat, x = x' := ⟨x.toNat, by omega⟩
         exact zat d i (k + 1 : Nat) x (by omega)
        rw [hfx]
        have hj' : j < (nth (zq n E) v).length := by rw [hvr]; exact hj
        (repeat (first | refine FW.seq ?_ | refine FW.region ?_ | refine zg.nil ?_ | refine zf rfl rfl rfl ?_ | refine zd rfl rfl rfl ?_ | refine zy rfl rfl rfl rfl rfl rfl (by first | (simp; omega) | (simp; done)) rfl rfl ?_ | refine zD rfl rfl rfl (by first | (simp; omega) | (simp; done)) (by first | exact zh (by omega) | rfl) rfl rfl rfl rfl ?_ | refine zP rfl rfl rfl rfl rfl rfl rfl rfl ?_ | refine xJ rfl rfl (by first | exact (List.length_map _).symm | rfl | (simp; done) | (simp; omega)) rfl rfl rfl (by decide) (by exact xB.own rfl rfl (by decide) (by first | exact List.length_map _ | exact (List.length_map _).symm | exact List.length_replicate | rfl | (simp; done) | omega | (simp; omega))) (by first | (simp; omega) | (simp; done)) (by first | (simp; omega) | (simp; done)) rfl rfl rfl ?_))
        rw [hvr]
        skip
        rw [hnx]
        skip
        refine ⟨(P ++ [(u : Int)], u), ⟨k, by simp; omega, hsn, by rw [hd]; exact hway', by rw [List.append_assoc]; exact hP⟩, by simp; omega, ?_⟩
        dsimp only
        rw [List.length_append, List.map_append]
        exact (FLe.conv [⟨100, some 125, 0 + 1, ⟨0, .own, 3, 1, P.map zp ++ [(u : Int)].map zp⟩⟩] (by simp) (by simp) rfl (by repeat (first | exact .nil | refine .low rfl ?_ | refine .same rfl ?_ | refine .bump (Nat.lt_succ_self _) ?_)) (by repeat (first | exact .nil | refine .old rfl (by decide) (by first | rfl | (simp; done)) ?_)) (by repeat (first | exact .nil | refine .cons (.plain rfl rfl (by first | rfl | (simp; done))) ?_ | refine .cons (.own rfl (.head _) rfl (by first | rfl | (simp; done))) ?_)))
       ·obtain rfl : k = 0 := by simp at h; omega
        rw [show Yc E d i 0 v = [] from rfl, List.append_nil] at hP
        (repeat (first | refine FW.region ?_ | refine FW.exit ?_ | refine zg.nil ?_ | refine zd rfl rfl rfl ?_ | refine zC rfl rfl (by omega) rfl rfl ?_))
        refine ⟨i + 1, by omega, by omega, ?_⟩
        rw [hcs, ← hP]
        subst hP
        dsimp only [Ye]
        exact (FLe.conv [⟨100, some 100, 0, ⟨0, .own, 3, 1, ((i : Int) :: Yc E d i K i).map zp⟩⟩] (by simp) (by simp) rfl (by repeat (first | exact .nil | refine .low rfl ?_ | refine .same rfl ?_ | refine .bump (Nat.lt_succ_self _) ?_)) (by repeat (first | exact .nil | refine .old rfl (by decide) rfl ?_)) (by repeat (first | exact .nil | refine .cons (.plain rfl rfl rfl) ?_ | refine .cons (.own rfl (.head _) rfl rfl) ?_)))
  ·obtain rfl : i = n := by simp at h; omega
   rw [show zag i E i = Up i E from rfl]
   generalize Up i E = B
   cases B with
   | nil =>
    dsimp only [Ye]
    refine FW.le (s' := ⟨[(10, .nil)], []⟩) ?_ (FLe.conv [] (by simp) (by simp) rfl (by repeat (first | exact .nil | refine .low rfl ?_ | refine .same rfl ?_ | refine .bump (Nat.lt_succ_self _) ?_)) (by repeat (first | exact .nil)) (by repeat (first | exact .nil | refine .cons (.plain rfl rfl rfl) ?_)))
    (repeat (first | refine FW.seq ?_ | refine FW.region ?_ | refine FW.exit ?_ | refine zg.nil ?_ | refine zf rfl rfl rfl ?_ | refine zd rfl rfl rfl ?_))
    exact FW.ret ⟨.inl rfl, .sh (.cons (.tmp 4 rfl rfl) .nil) rfl rfl⟩
   | cons b l =>
    dsimp only [Ye]
    refine FW.le (s' := ⟨[(10, .list 1 ((b :: l).map zp))], []⟩) ?_ ((FLe.share 10 rfl rfl (by simp)).trans (FLe.conv [] (by simp) (by simp) rfl (by repeat (first | exact .nil | refine .low rfl ?_ | refine .same rfl ?_ | refine .bump (Nat.lt_succ_self _) ?_)) (by repeat (first | exact .nil)) (by repeat (first | exact .nil | refine .cons (.plain rfl rfl rfl) ?_))))
    (repeat (first | refine FW.seq ?_ | refine FW.region ?_ | refine FW.exit ?_ | refine zg.nil ?_ | refine zf rfl rfl rfl ?_ | refine zd rfl rfl rfl ?_))
    exact FW.ret ⟨.inl rfl, .sh (.cons (.tmp 4 rfl rfl) .nil) rfl rfl⟩
theorem zbJ (n : Nat) (E : List (Nat × Nat)) (hn : n ≤ 12) (hE : E.length ≤ 1000) (hin : InN n E) : yr Try.prog 15 [.int .i64 n, .list 2 (E.map edf)] .sh (.list 1 ((Up n E).map zp)) :=
 (zau n E hn hE hin).le (zeW _) rfl
end Go.Proofs.Ythjplkjpehdpfaa
