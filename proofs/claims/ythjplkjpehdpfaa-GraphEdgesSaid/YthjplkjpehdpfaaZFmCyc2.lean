/-
  The contract of graph.Cycle.
-/
import Derived.Test.YthjplkjpehdpfaaZK
namespace Go.Proofs.Ythjplkjpehdpfaa
set_option linter.unusedVariables false
open Go.RowKit

theorem YN (n : Nat) (E : List (Nat × Nat)) : (List.range n).map (fun v => [FV.list 1 ((zi E v).map zt)]) = (zp n E).map yK := by
 unfold zp
 rw [List.map_map]
 rfl
def Ys : List Int → FV
 | [] => .nil
 | b :: l => .own 100 0 0 (b :: l).length
def zaS (n : Nat) (E : List (Nat × Nat)) (i : Nat) : List Int := (List.range i).foldl (Yf n E) []
theorem XV (n : Nat) (E : List (Nat × Nat)) (i : Nat) : zaS n E (i + 1) = Yf n E (zaS n E i) i := by
 unfold zaS
 rw [List.range_succ, List.foldl_append]; rfl
theorem Ul {n : Nat} {E : List (Nat × Nat)} (h : InN n E) : ∀ {i : Nat}, i ≤ n → (zaS n E i).length ≤ n
 | 0, _ => Nat.zero_le _
 | i + 1, hi => by rw [XV]; exact za7 h (by omega) (Ul h (by omega))
theorem Zf (E : List (Nat × Nat)) : (yi E).length = E.length := List.length_map _
theorem yj.le {P : Program} {f : Nat} {args : List FV} {r r' : FV} (h : yj P f args .sh r) (hle : FV.le r r') (hh : r'.hand = none) : yj P f args .sh r' where
 go := h.go
 hand := hh
 calls w I vs hI hv := (h.calls w I vs hI hv).mono fun e w' ⟨v, e1, hb, hr⟩ => ⟨v, e1, hb, Rd.le hle hr⟩
def zgL : List (List FV) → FV
 | [] => .nil
 | e :: es => .list 1 (e :: es)
theorem zfX (es : List (List FV)) : FV.le (zgL es) (.list 1 es) := by
 cases es with
 | nil => exact .nil 1
 | cons e es => exact .refl _
theorem zdT (es : List (List FV)) : (zgL es).hand = none := by cases es <;> rfl
set_option maxHeartbeats 4000000 in
theorem za9 (n : Nat) (E : List (Nat × Nat)) (hn : n ≤ 12) (hE : E.length ≤ 1000) (hin : InN n E) : yj Try.prog 15 [.int .i64 n, .list 2 (E.map edf)] .sh (zgL ((zaa n E).map zt)) := by
 refine yj.of_body (c := (xm Try.prog zw zn 128)) ⟨Try.func15, rfl, Try.ntmps15, by kernel_rfl⟩ (by simp [FV.hand]) (by exact Nat.le_of_ble_eq_true rfl) (zdT _) ?_
 change FW _ _ _ ⟨[(0, .int .i64 n), (1, .list 2 (E.map edf))], []⟩
 (repeat (first | refine FW.seq ?_ | refine FW.region ?_ | refine zd.nil ?_ | refine zc rfl rfl rfl ?_ | refine zb rfl rfl rfl ?_))
 refine yc (yu n E (by omega) (by omega) hin) (by repeat (first | exact zu.nil | refine zu.cons (by exact yU.plain rfl rfl) ?_)) rfl rfl ?_
 rw [YN]
 (repeat (first | refine FW.seq ?_ | refine FW.region ?_ | refine FW.block ?_ | refine zd.nil ?_ | refine zc rfl rfl rfl ?_ | refine zb rfl rfl rfl ?_ | refine zA rfl rfl (by exact List.length_map _) rfl rfl ?_))
 refine FW.loop (fun i : Nat => ⟨[(0, .int .i64 n), (1, .list 2 (E.map edf)), (5, .list 1 ((zp n E).map yK)), (6, .own 100 0 0 i), (22, .list 2 (E.map edf)), (23, .int .i64 E.length), (24, .int .i64 i)], [(100, ⟨0, .own, 34, 2, ((yi E).take i).map edf⟩)]⟩) (fun i => i ≤ E.length) (fun i => E.length - i) 0 (Nat.zero_le _)
  (FLe.cv [⟨100, none, 0, ⟨0, .own, 34, 2, []⟩⟩] (by repeat (first | exact .nil | refine .new ?_)) (by repeat (first | exact .nil | refine .cons (.plain rfl rfl rfl) ?_ | refine .cons (.nil rfl (.head _) rfl) ?_))) ?_
 intro i hi
 (repeat (first | refine FW.seq ?_ | refine FW.region ?_ | refine zd.nil ?_ | refine zP rfl rfl rfl rfl ?_))
 refine FW.cond rfl (fun h => ?_) (fun h => ?_)
 ·have hlt : i < E.length := by simpa using h
  clear h
  obtain ⟨⟨a, b⟩, he⟩ : ∃ e, nth E i = e := ⟨_, rfl⟩
  have hti : ((yi E).take i).length = i := by rw [List.length_take, Zf]; omega
  have hts : (yi E).take (i + 1) = (yi E).take i ++ [(b, a)] := by
   rw [List.take_succ_eq_append_getElem (by rw [Zf]; exact hlt)]
   congr 2
   rw [nth_eq hlt] at he
   simp [yi, he]
  obtain ⟨Z, hZ⟩ : ∃ Z, (yi E).take i = Z := ⟨_, rfl⟩
  rw [hZ] at hti hts ⊢
  (repeat (first | refine FW.seq ?_ | refine FW.region ?_ | refine FW.block ?_ | refine FW.skip ?_ | refine zd.nil ?_ | refine zc rfl rfl rfl ?_ | refine zb rfl rfl rfl ?_ | refine zy rfl rfl rfl rfl rfl rfl (by first | (simp; omega) | (simp; done)) rfl rfl ?_ | refine zc2 rfl rfl rfl rfl rfl rfl rfl (by decide) (by first | (simp; omega) | (simp; done)) rfl rfl ?_ | refine zG rfl rfl rfl rfl rfl (by first | (simp; omega) | (simp; done)) (by first | exact zf (by omega) | rfl) rfl rfl rfl rfl ?_ | refine YM rfl rfl rfl (by decide) (by first | (simp; omega) | (simp; done)) (by first | exact zf (by omega) | rfl) rfl rfl rfl ?_ | refine xa rfl rfl rfl rfl rfl rfl rfl ?_ | refine VW rfl rfl rfl rfl rfl rfl rfl rfl rfl ?_ | refine Xh rfl rfl rfl rfl rfl rfl rfl rfl rfl ?_ | refine Yl rfl rfl rfl rfl rfl rfl rfl rfl rfl rfl ?_ | refine Zm rfl rfl (by first | rfl | (simp; done) | (simp; omega)) rfl rfl rfl (by decide) (by exact xJ.own rfl rfl (by decide) (by first | exact List.length_map _ | exact (List.length_map _).symm | exact List.length_replicate | rfl | (simp; done) | omega | (simp; omega))) (by first | (simp; omega) | (simp; done)) (by first | (simp; omega) | (simp; done)) rfl rfl rfl ?_ | refine zB rfl rfl (by omega) rfl rfl ?_))
  rw [he]
  skip
  refine ⟨i + 1, by omega, by omega, ?_⟩
  rw [hts, List.map_append]
  exact (FLe.cv [⟨100, some 35, 0 + 1, ⟨0, .own, 34, 2, Z.map edf ++ [(b, a)].map edf⟩⟩] (by repeat (first | exact .nil | refine .old rfl (by decide) (by first | rfl | (simp; omega)) ?_)) (by repeat (first | exact .nil | refine .cons (.plain rfl rfl (by first | rfl | (simp; omega))) ?_ | refine .cons (.own rfl (.head _) rfl (by first | rfl | (simp; omega))) ?_)))
 ·obtain rfl : i = E.length := by simp at h; omega
  clear h hi
  rw [← Zf, List.take_length]
  (repeat (first | refine FW.seq ?_ | refine FW.region ?_ | refine FW.exit ?_ | refine zb rfl rfl rfl ?_))
  refine zd.le ?_ (FLe.share 38 rfl rfl (by simp))
  refine yc (yu n (yi E) (by omega) (by rw [Zf]; omega) (yT hin)) (by repeat (first | exact zu.nil | refine zu.cons (by exact yU.plain rfl rfl) ?_)) rfl rfl ?_
  rw [YN]
  (repeat (first | refine FW.seq ?_ | refine FW.region ?_ | refine FW.block ?_ | refine zd.nil ?_ | refine zc rfl rfl rfl ?_ | refine zb rfl rfl rfl ?_))
  refine FW.loop (fun i : Nat => ⟨[(0, .int .i64 n), (5, .list 1 ((zp n E).map yK)), (9, .list 1 ((zp n (yi E)).map yK)), (10, Ys (zaS n E i)), (40, .int .i64 n), (41, .int .i64 i)], [(100, ⟨0, .own, 3, 1, (zaS n E i).map zt⟩)]⟩) (fun i => i ≤ n) (fun i => n - i) 0 (Nat.zero_le _) ?_ ?_
  ·show FLe _ ⟨[(0, .int .i64 n), (5, .list 1 ((zp n E).map yK)), (9, .list 1 ((zp n (yi E)).map yK)), (10, .nil), (40, .int .i64 n), (41, .int .i64 0)], [(100, ⟨0, .own, 3, 1, []⟩)]⟩
   exact (FLe.cv [⟨100, none, 0, ⟨0, .own, 3, 1, []⟩⟩] (by repeat (first | exact .nil | refine .new ?_)) (by repeat (first | exact .nil | refine .cons (.plain rfl rfl rfl) ?_)))
  intro i hi
  (repeat (first | refine FW.seq ?_ | refine FW.region ?_ | refine zd.nil ?_ | refine zP rfl rfl rfl rfl ?_))
  refine FW.cond rfl (fun h => ?_) (fun h => ?_)
  ·have hlt : i < n := by simpa using h
   clear h
   (repeat (first | refine FW.seq ?_ | refine FW.region ?_ | refine FW.block ?_ | refine FW.skip ?_ | refine zd.nil ?_ | refine zb rfl rfl rfl ?_ | refine zG rfl rfl rfl rfl rfl (by simp; done) rfl rfl rfl rfl rfl ?_ | refine xa rfl rfl rfl rfl rfl rfl rfl ?_ | refine yr rfl rfl rfl rfl rfl rfl rfl rfl rfl ?_))
   refine XJ (Vg n i (zp n (yi E)) hn hlt (zI n _) (xg (yT hin)) (fun r hr => by have := zeh n (yi E) r hr; rw [Zf] at this; omega)) (by repeat (first | exact zu.nil | refine zu.cons (by exact yU.plain rfl rfl) ?_)) ((List.length_map _).trans (XT hin hlt)) rfl rfl rfl ?_
   rw [show dist (zp n (yi E)) n i = zH n E i from rfl]
   have hdl := XT hin hlt
   have hrng := fun v (hv : v < n) => US hin hlt hv
   have hrw : nth (zp n E) i = zi E i := yL E hlt
   have hrn := zI n E
   refine zd.le ?_ ((FLe.share 47 rfl rfl (by rw [List.length_map]; exact hdl.symm)).trans (FLe.shareP 11 rfl rfl))
   obtain ⟨d, hd⟩ : ∃ d, zH n E i = d := ⟨_, rfl⟩
   rw [hd] at hdl hrng ⊢
   (repeat (first | refine FW.seq ?_ | refine FW.region ?_ | refine FW.block ?_ | refine zd.nil ?_ | refine zc rfl rfl rfl ?_ | refine zb rfl rfl rfl ?_ | refine zA rfl rfl (by first | exact List.length_map _ | rfl | (simp; done) | (simp; omega)) rfl rfl ?_ | refine zy rfl rfl rfl rfl rfl rfl (by first | (simp; omega) | (simp; done)) rfl rfl ?_ | refine zC rfl rfl rfl (by first | (simp; omega) | (simp; done)) (by first | exact zf (by omega) | rfl) rfl rfl rfl rfl ?_ | refine xa rfl rfl rfl rfl rfl rfl rfl ?_ | refine yr rfl rfl rfl rfl rfl rfl rfl rfl rfl ?_))
   rw [hrw]
   obtain ⟨B, hB⟩ : ∃ B, zaS n E i = B := ⟨_, rfl⟩
   rw [hB]
   refine FW.le ?_ (FLe.shareP 12 rfl rfl)
   refine FW.loop (fun j : Nat => ⟨[(0, .int .i64 n), (5, .list 1 ((zp n E).map yK)), (9, .list 1 ((zp n (yi E)).map yK)), (10, Ys B), (40, .int .i64 n), (41, .int .i64 i), (11, .eptr 1 [[.int .i64 i]] 0 0), (12, .eptr 1 [[.list 1 (d.map zt)]] 0 0), (13, .int .i64 (((zi E i).take j).foldl (zM d i) 0)), (51, .list 1 ((zi E i).map zt)), (52, .int .i64 (zi E i).length), (53, .int .i64 j)], [(100, ⟨0, .own, 3, 1, B.map zt⟩)]⟩) (fun j => j ≤ (zi E i).length) (fun j => (zi E i).length - j) 0 (Nat.zero_le _) ?_ ?_
   ·rcases B with _ | ⟨b, l⟩
    ·show FLe _ ⟨[(0, .int .i64 n), (5, .list 1 ((zp n E).map yK)), (9, .list 1 ((zp n (yi E)).map yK)), (10, .nil), (40, .int .i64 n), (41, .int .i64 i), (11, .eptr 1 [[.int .i64 i]] 0 0), (12, .eptr 1 [[.list 1 (d.map zt)]] 0 0), (13, .int .i64 0), (51, .list 1 ((zi E i).map zt)), (52, .int .i64 (zi E i).length), (53, .int .i64 0)], [(100, ⟨0, .own, 3, 1, []⟩)]⟩
     exact (FLe.cv [⟨100, some 100, 0, ⟨0, .own, 3, 1, []⟩⟩] (by repeat (first | exact .nil | refine .old rfl (by decide) rfl ?_)) (by repeat (first | exact .nil | refine .cons (.plain rfl rfl rfl) ?_)))
    ·show FLe _ ⟨[(0, .int .i64 n), (5, .list 1 ((zp n E).map yK)), (9, .list 1 ((zp n (yi E)).map yK)), (10, .own 100 0 0 (b :: l).length), (40, .int .i64 n), (41, .int .i64 i), (11, .eptr 1 [[.int .i64 i]] 0 0), (12, .eptr 1 [[.list 1 (d.map zt)]] 0 0), (13, .int .i64 0), (51, .list 1 ((zi E i).map zt)), (52, .int .i64 (zi E i).length), (53, .int .i64 0)], [(100, ⟨0, .own, 3, 1, (b :: l).map zt⟩)]⟩
     exact (FLe.cv [⟨100, some 100, 0, ⟨0, .own, 3, 1, (b :: l).map zt⟩⟩] (by repeat (first | exact .nil | refine .old rfl (by decide) rfl ?_)) (by repeat (first | exact .nil | refine .cons (.plain rfl rfl rfl) ?_ | refine .cons (.own rfl (.head _) rfl rfl) ?_)))
   have hsl := xE E i
   intro j hj
   (repeat (first | refine FW.seq ?_ | refine FW.region ?_ | refine zd.nil ?_ | refine zP rfl rfl rfl rfl ?_))
   refine FW.cond rfl (fun h => ?_) (fun h => ?_)
   ·have hlt3 : j < (zi E i).length := by simpa using h
    clear h
    obtain ⟨v, hv⟩ : ∃ v : Nat, nth (zi E i) j = v := ⟨(nth (zi E i) j).toNat, by have := (zL hin (zK hlt3)).1; omega⟩
    have hvn : v < n := by have := (zL hin (zK hlt3)).2; omega
    have hrv := hrng v hvn
    have hst : ((zi E i).take (j + 1)).foldl (zM d i) 0 = zM d i (((zi E i).take j).foldl (zM d i) 0) v := by
     rw [List.take_succ_eq_append_getElem hlt3, List.foldl_append, ← nth_eq hlt3, hv]; rfl
    obtain ⟨L, hL⟩ : ∃ L, ((zi E i).take j).foldl (zM d i) 0 = L := ⟨_, rfl⟩
    rw [hL] at hst ⊢
    generalize hBm : B.map zt = Bm
    have hdn : nth d ((v : Int)).toNat = nth d v := rfl
    (repeat (first | refine FW.seq ?_ | refine FW.region ?_ | refine FW.block ?_ | refine FW.skip ?_ | refine zd.nil ?_ | refine zc rfl rfl rfl ?_ | refine zb rfl rfl rfl ?_ | refine zy rfl rfl rfl rfl rfl rfl (by first | (simp; omega) | (simp; done)) rfl rfl ?_ | refine zC rfl rfl rfl (by first | (simp; omega) | (simp; done)) (by first | exact zf (by omega) | rfl) rfl rfl rfl rfl ?_ | refine VS rfl rfl rfl rfl ?_))
    rw [hv]
    skip
    refine yP (fun h1 => ?_) (fun h1 => ?_)
    ·(repeat (first | refine zb rfl rfl rfl ?_ | refine yb rfl rfl rfl rfl ?_ | refine zC rfl rfl rfl (by first | (simp; omega) | (simp; done)) (by first | exact zf (by omega) | rfl) rfl rfl rfl ⟨_, _, rfl, rfl, rfl⟩ ?_ | refine zb rfl rfl ⟨_, _, rfl, rfl, rfl⟩ ?_ | refine zy rfl rfl rfl rfl rfl rfl (by first | (simp; omega) | (simp; done)) rfl ⟨_, _, rfl, rfl, rfl⟩ ?_ | refine VS rfl rfl rfl ⟨_, _, rfl, rfl, rfl⟩ ?_))
     refine yP (fun h2 => ?_) (fun h2 => ?_)
     ·(repeat (first | refine zb rfl rfl ⟨_, _, rfl, rfl, rfl⟩ ?_ | refine Ya rfl rfl rfl ⟨_, _, rfl, rfl, rfl⟩ ?_))
      refine yP (fun h3 => ?_) (fun h3 => ?_)
      ·(repeat (first | refine FW.region ?_ | refine FW.condT rfl ?_ | refine zd.nil ?_ | refine zc rfl rfl rfl ?_ | refine zb rfl rfl rfl ?_ | refine zy rfl rfl rfl rfl rfl rfl (by first | omega | (simp; omega) | (simp; done)) rfl rfl ?_ | refine zC rfl rfl rfl (by first | omega | (simp; omega) | (simp; done)) (by first | exact zf (by omega) | rfl) rfl rfl rfl rfl ?_ | refine zB rfl rfl (by omega) rfl rfl ?_ | refine yb rfl rfl rfl rfl ?_ | refine yb rfl rfl rfl ⟨_, _, rfl, rfl, rfl⟩ ?_ | refine yQ rfl rfl ⟨_, _, rfl, rfl, rfl⟩ ?_))
       rw [zM, if_pos ⟨⟨by simpa using h1, by simpa using h2⟩, .inl (by simpa using h3)⟩, hdn] at hst
       refine ⟨j + 1, by omega, by omega, ?_⟩
       rw [hst]
       rcases B with _ | ⟨b, l⟩ <;> dsimp only [Ys]
       ·exact (FLe.cv [⟨100, some 100, 0, ⟨0, .own, 3, 1, Bm⟩⟩] (by repeat (first | exact .nil | refine .old rfl (by decide) rfl ?_)) (by repeat (first | exact .nil | refine .cons (.plain rfl rfl rfl) ?_)))
       ·exact (FLe.cv [⟨100, some 100, 0, ⟨0, .own, 3, 1, Bm⟩⟩] (by repeat (first | exact .nil | refine .old rfl (by decide) rfl ?_)) (by repeat (first | exact .nil | refine .cons (.plain rfl rfl rfl) ?_ | refine .cons (.own rfl (.head _) rfl rfl) ?_)))
      ·(repeat (first | refine zd.nil ?_ | refine yb rfl rfl rfl rfl ?_ | refine zC rfl rfl rfl (by first | (simp; omega) | (simp; done)) (by first | exact zf (by omega) | rfl) rfl rfl rfl ⟨_, _, rfl, rfl, rfl⟩ ?_ | refine zb rfl rfl ⟨_, _, rfl, rfl, rfl⟩ ?_ | refine zy rfl rfl rfl rfl rfl rfl (by first | (simp; omega) | (simp; done)) rfl ⟨_, _, rfl, rfl, rfl⟩ ?_ | refine zB rfl rfl (by omega) rfl ⟨_, _, rfl, rfl, rfl⟩ ?_ | refine zP rfl rfl rfl ⟨_, _, rfl, rfl, rfl⟩ ?_ | refine zX rfl rfl rfl ⟨_, _, rfl, rfl, rfl⟩ ?_))
       refine FW.cond rfl (fun h4 => ?_) (fun h4 => ?_)
       ·(repeat (first | refine FW.region ?_ | refine zd.nil ?_ | refine zc rfl rfl rfl ?_ | refine zb rfl rfl rfl ?_ | refine zy rfl rfl rfl rfl rfl rfl (by first | (simp; omega) | (simp; done)) rfl rfl ?_ | refine zC rfl rfl rfl (by first | (simp; omega) | (simp; done)) (by first | exact zf (by omega) | rfl) rfl rfl rfl rfl ?_ | refine zB rfl rfl (by omega) rfl rfl ?_))
        rw [zM, if_pos ⟨⟨by simpa using h1, by simpa using h2⟩, .inr (by simpa using h4)⟩, hdn] at hst
        refine ⟨j + 1, by omega, by omega, ?_⟩
        rw [hst]
        rcases B with _ | ⟨b, l⟩ <;> dsimp only [Ys]
        ·exact (FLe.cv [⟨100, some 100, 0, ⟨0, .own, 3, 1, Bm⟩⟩] (by repeat (first | exact .nil | refine .old rfl (by decide) rfl ?_)) (by repeat (first | exact .nil | refine .cons (.plain rfl rfl rfl) ?_)))
        ·exact (FLe.cv [⟨100, some 100, 0, ⟨0, .own, 3, 1, Bm⟩⟩] (by repeat (first | exact .nil | refine .old rfl (by decide) rfl ?_)) (by repeat (first | exact .nil | refine .cons (.plain rfl rfl rfl) ?_ | refine .cons (.own rfl (.head _) rfl rfl) ?_)))
       ·(repeat (first | refine FW.region ?_ | refine FW.skip ?_ | refine zd.nil ?_ | refine zb rfl rfl rfl ?_ | refine zB rfl rfl (by omega) rfl rfl ?_))
        rw [zM, if_neg (fun q => by simp at h3 h4; rcases q.2 with q | q; exact h3 q; rw [hdn] at q; omega)] at hst
        refine ⟨j + 1, by omega, by omega, ?_⟩
        rw [hst]
        rcases B with _ | ⟨b, l⟩ <;> dsimp only [Ys]
        ·exact (FLe.cv [⟨100, some 100, 0, ⟨0, .own, 3, 1, Bm⟩⟩] (by repeat (first | exact .nil | refine .old rfl (by decide) rfl ?_)) (by repeat (first | exact .nil | refine .cons (.plain rfl rfl rfl) ?_)))
        ·exact (FLe.cv [⟨100, some 100, 0, ⟨0, .own, 3, 1, Bm⟩⟩] (by repeat (first | exact .nil | refine .old rfl (by decide) rfl ?_)) (by repeat (first | exact .nil | refine .cons (.plain rfl rfl rfl) ?_ | refine .cons (.own rfl (.head _) rfl rfl) ?_)))
     ·(repeat (first | refine FW.region ?_ | refine FW.skip ?_ | refine FW.condF rfl ?_ | refine zd.nil ?_ | refine zb rfl rfl rfl ?_ | refine zB rfl rfl (by omega) rfl rfl ?_ | refine zX rfl rfl rfl rfl ?_ | refine yQ rfl rfl ⟨_, _, rfl, rfl, rfl⟩ ?_))
      rw [zM, if_neg (fun q => by simp at h2; have q2 := q.1.2; rw [hdn] at q2; omega)] at hst
      refine ⟨j + 1, by omega, by omega, ?_⟩
      rw [hst]
      rcases B with _ | ⟨b, l⟩ <;> dsimp only [Ys]
      ·exact (FLe.cv [⟨100, some 100, 0, ⟨0, .own, 3, 1, Bm⟩⟩] (by repeat (first | exact .nil | refine .old rfl (by decide) rfl ?_)) (by repeat (first | exact .nil | refine .cons (.plain rfl rfl rfl) ?_)))
      ·exact (FLe.cv [⟨100, some 100, 0, ⟨0, .own, 3, 1, Bm⟩⟩] (by repeat (first | exact .nil | refine .old rfl (by decide) rfl ?_)) (by repeat (first | exact .nil | refine .cons (.plain rfl rfl rfl) ?_ | refine .cons (.own rfl (.head _) rfl rfl) ?_)))
    ·(repeat (first | refine FW.region ?_ | refine FW.skip ?_ | refine FW.condF rfl ?_ | refine zd.nil ?_ | refine zb rfl rfl rfl ?_ | refine zB rfl rfl (by omega) rfl rfl ?_ | refine zX rfl rfl rfl rfl ?_ | refine yQ rfl rfl ⟨_, _, rfl, rfl, rfl⟩ ?_))
     rw [zM, if_neg (fun q => by simp at h1; omega)] at hst
     refine ⟨j + 1, by omega, by omega, ?_⟩
     rw [hst]
     rcases B with _ | ⟨b, l⟩ <;> dsimp only [Ys]
     ·exact (FLe.cv [⟨100, some 100, 0, ⟨0, .own, 3, 1, Bm⟩⟩] (by repeat (first | exact .nil | refine .old rfl (by decide) rfl ?_)) (by repeat (first | exact .nil | refine .cons (.plain rfl rfl rfl) ?_)))
     ·exact (FLe.cv [⟨100, some 100, 0, ⟨0, .own, 3, 1, Bm⟩⟩] (by repeat (first | exact .nil | refine .old rfl (by decide) rfl ?_)) (by repeat (first | exact .nil | refine .cons (.plain rfl rfl rfl) ?_ | refine .cons (.own rfl (.head _) rfl rfl) ?_)))
   ·obtain rfl : j = (zi E i).length := by simp at h; omega
    clear h hj
    rw [List.take_length]
    obtain ⟨L, hL⟩ : ∃ L, (zi E i).foldl (zM d i) 0 = L := ⟨_, rfl⟩
    rw [hL]
    have hLL : yN (zH n E i) i (zi E i) = L := by rw [hd]; exact hL
    have hcs := XV n E i
    rw [hB] at hcs
    unfold Yf at hcs
    dsimp only at hcs
    rw [hLL] at hcs
    have hBl : B.length ≤ n := hB ▸ Ul hin (by omega)
    refine FW.exit ?_
    refine FW.seq ?_
    refine FW.seq ?_
    refine FW.join (fun _ : Unit => ⟨[(0, .int .i64 n), (5, .list 1 ((zp n E).map yK)), (9, .list 1 ((zp n (yi E)).map yK)), (10, Ys B), (40, .int .i64 n), (41, .int .i64 i), (11, .eptr 1 [[.int .i64 i]] 0 0), (12, .eptr 1 [[.list 1 (d.map zt)]] 0 0), (13, .int .i64 L), (97, .bool (decide (L = 0 ∨ (B ≠ [] ∧ (B.length : Int) ≤ L))))], [(100, ⟨0, .own, 3, 1, B.map zt⟩)]⟩) (fun _ => True) ?_ (fun _ _ => ?_)
    ·rcases B with _ | ⟨b, l⟩
     ·dsimp only [Ys]
      (repeat (first | refine FW.region ?_ | refine zb rfl rfl rfl ?_ | refine Ya rfl rfl rfl rfl ?_))
      refine yP (fun h1 => ?_) (fun h1 => ?_)
      ·(repeat (first | refine zd.nil ?_ | refine yb rfl rfl rfl rfl ?_ | refine yQ rfl rfl ⟨_, _, rfl, rfl, rfl⟩ ?_))
       refine ⟨rfl, (), trivial, ?_⟩
       rw [show decide (L = 0 ∨ (([] : List Int) ≠ [] ∧ ((([] : List Int).length : Nat) : Int) ≤ L)) = true by simpa using h1]
       exact (FLe.cv [⟨100, some 100, 0, ⟨0, .own, 3, 1, []⟩⟩] (by repeat (first | exact .nil | refine .old rfl (by decide) rfl ?_)) (by repeat (first | exact .nil | refine .cons (.plain rfl rfl rfl) ?_)))
      ·(repeat (first | refine zd.nil ?_ | refine zX rfl rfl rfl rfl ?_ | refine zb rfl rfl ⟨_, _, rfl, rfl, rfl⟩ ?_ | refine zX rfl rfl rfl ⟨_, _, rfl, rfl, rfl⟩ ?_ | refine zee rfl rfl rfl rfl ⟨_, _, rfl, rfl, rfl⟩ ?_ | refine yQ rfl rfl ⟨_, _, rfl, rfl, rfl⟩ ?_))
       refine ⟨rfl, (), trivial, ?_⟩
       rw [show decide (L = 0 ∨ (([] : List Int) ≠ [] ∧ ((([] : List Int).length : Nat) : Int) ≤ L)) = false by simpa using h1]
       exact (FLe.cv [⟨100, some 100, 0, ⟨0, .own, 3, 1, []⟩⟩] (by repeat (first | exact .nil | refine .old rfl (by decide) rfl ?_)) (by repeat (first | exact .nil | refine .cons (.plain rfl rfl rfl) ?_)))
     ·dsimp only [Ys]
      (repeat (first | refine FW.region ?_ | refine zb rfl rfl rfl ?_ | refine Ya rfl rfl rfl rfl ?_))
      refine yP (fun h1 => ?_) (fun h1 => ?_)
      ·(repeat (first | refine zd.nil ?_ | refine yb rfl rfl rfl rfl ?_ | refine yQ rfl rfl ⟨_, _, rfl, rfl, rfl⟩ ?_))
       refine ⟨rfl, (), trivial, ?_⟩
       rw [show decide (L = 0 ∨ ((b :: l : List Int) ≠ [] ∧ (((b :: l : List Int).length : Nat) : Int) ≤ L)) = true by simp at h1 ⊢; exact .inl h1]
       exact (FLe.cv [⟨100, some 100, 0, ⟨0, .own, 3, 1, (b :: l).map zt⟩⟩] (by repeat (first | exact .nil | refine .old rfl (by decide) rfl ?_)) (by repeat (first | exact .nil | refine .cons (.plain rfl rfl rfl) ?_ | refine .cons (.own rfl (.head _) rfl rfl) ?_)))
      ·(repeat (first | refine zd.nil ?_ | refine zX rfl rfl rfl rfl ?_ | refine zb rfl rfl ⟨_, _, rfl, rfl, rfl⟩ ?_ | refine VS rfl rfl rfl ⟨_, _, rfl, rfl, rfl⟩ ?_ | refine yb rfl rfl rfl ⟨_, _, rfl, rfl, rfl⟩ ?_ | refine zef rfl rfl rfl rfl (by decide) (by simp; done) rfl ⟨_, _, rfl, rfl, rfl⟩ ?_ | refine yl rfl rfl rfl (by decide) rfl ⟨_, _, rfl, rfl, rfl⟩ ?_))
       refine ⟨rfl, (), trivial, ?_⟩
       rw [show decide (L = 0 ∨ ((b :: l : List Int) ≠ [] ∧ (((b :: l : List Int).length : Nat) : Int) ≤ L)) = decide (L ≥ (((b :: l).length : Nat) : Int)) by simp at h1 ⊢; intro q; exact absurd q h1]
       exact (FLe.cv [⟨100, some 100, 0, ⟨0, .own, 3, 1, (b :: l).map zt⟩⟩] (by repeat (first | exact .nil | refine .old rfl (by decide) rfl ?_)) (by repeat (first | exact .nil | refine .cons (.plain rfl rfl rfl) ?_ | refine .cons (.own rfl (.head _) rfl rfl) ?_)))
    ·refine FW.cond rfl (fun h => ?_) (fun h => ?_)
     ·rw [if_pos (by simpa using h)] at hcs
      (repeat (first | refine FW.region ?_ | refine FW.exit ?_ | refine zd.nil ?_ | refine zb rfl rfl rfl ?_ | refine zB rfl rfl (by omega) rfl rfl ?_))
      refine ⟨i + 1, by omega, by omega, ?_⟩
      rw [hcs]
      generalize hBm : B.map zt = Bm
      rcases B with _ | ⟨b, l⟩ <;> dsimp only [Ys]
      ·exact (FLe.cv [⟨100, some 100, 0, ⟨0, .own, 3, 1, Bm⟩⟩] (by repeat (first | exact .nil | refine .old rfl (by decide) rfl ?_)) (by repeat (first | exact .nil | refine .cons (.plain rfl rfl rfl) ?_)))
      ·exact (FLe.cv [⟨100, some 100, 0, ⟨0, .own, 3, 1, Bm⟩⟩] (by repeat (first | exact .nil | refine .old rfl (by decide) rfl ?_)) (by repeat (first | exact .nil | refine .cons (.plain rfl rfl rfl) ?_ | refine .cons (.own rfl (.head _) rfl rfl) ?_)))
     ·have hno : ¬ (L = 0 ∨ (B ≠ [] ∧ (B.length : Int) ≤ L)) := by simpa using h
      rw [if_neg hno] at hcs
      obtain ⟨K, hK, hKn, hway⟩ := Yk hin hlt (by rw [hLL]; exact fun e => hno (.inl e))
      rw [hLL] at hK
      subst hK
      rw [show ((K + 1 : Nat) : Int).toNat - 1 = K by omega] at hcs
      clear h hno hL hLL hB hBl hrn
      rw [hd] at hcs
      refine FW.le (s' := ⟨[(0, .int .i64 n), (5, .list 1 ((zp n E).map yK)), (9, .list 1 ((zp n (yi E)).map yK)), (40, .int .i64 n), (41, .int .i64 i), (11, .eptr 1 [[.int .i64 i]] 0 0), (12, .eptr 1 [[.list 1 (d.map zt)]] 0 0), (13, .int .i64 (K + 1 : Nat))], []⟩) ?_ (FLe.cv [] (by repeat (first | exact .nil)) (by repeat (first | exact .nil | refine .cons (.plain rfl rfl rfl) ?_)))
      (repeat (first | refine FW.seq ?_ | refine FW.region ?_ | refine FW.block ?_ | refine FW.skip ?_ | refine zd.nil ?_ | refine zc rfl rfl rfl ?_ | refine zC rfl rfl rfl (by simp; done) rfl rfl rfl rfl rfl ?_ | refine yg rfl rfl rfl rfl rfl rfl rfl rfl ?_))
      refine FW.loop (fun x : List Int × Nat => ⟨[(0, .int .i64 n), (5, .list 1 ((zp n E).map yK)), (9, .list 1 ((zp n (yi E)).map yK)), (40, .int .i64 n), (41, .int .i64 i), (11, .eptr 1 [[.int .i64 i]] 0 0), (12, .eptr 1 [[.list 1 (d.map zt)]] 0 0), (13, .int .i64 (K + 1 : Nat)), (10, .own 100 0 0 x.1.length), (16, .int .i64 x.2)], [(100, ⟨0, .own, 3, 1, x.1.map zt⟩)]⟩) (fun x => ∃ k, x.1.length + k = K + 1 ∧ x.2 < n ∧ Way E (zH n E i) i k x.2 ∧ x.1 ++ Yr E d i k x.2 = (i : Int) :: Yr E d i K i) (fun x => K + 1 - x.1.length) ([(i : Int)], i) ⟨K, by simp; omega, hlt, hway, rfl⟩ ?_ ?_
      ·show FLe _ ⟨[(0, .int .i64 n), (5, .list 1 ((zp n E).map yK)), (9, .list 1 ((zp n (yi E)).map yK)), (40, .int .i64 n), (41, .int .i64 i), (11, .eptr 1 [[.int .i64 i]] 0 0), (12, .eptr 1 [[.list 1 (d.map zt)]] 0 0), (13, .int .i64 (K + 1 : Nat)), (10, .own 100 0 0 1), (16, .int .i64 i)], [(100, ⟨0, .own, 3, 1, [[.int .i64 i]]⟩)]⟩
       exact (FLe.cv [⟨100, some 99, 0 + 1, ⟨0, .own, 3, 1, [[.int .i64 i]]⟩⟩] (by repeat (first | exact .nil | refine .old rfl (by decide) rfl ?_)) (by repeat (first | exact .nil | refine .cons (.plain rfl rfl rfl) ?_ | refine .cons (.own rfl (.head _) rfl rfl) ?_)))
      ·rintro ⟨P, v⟩ ⟨k, hPk, hvn, hw, hP⟩
       dsimp only at hPk hvn hw hP ⊢
       (repeat (first | refine FW.seq ?_ | refine FW.region ?_ | refine zd.nil ?_ | refine zb rfl rfl rfl ?_ | refine yl rfl rfl rfl (by decide) rfl rfl ?_ | refine zP rfl rfl rfl rfl ?_))
       refine FW.cond rfl (fun h => ?_) (fun h => ?_)
       ·obtain ⟨k, rfl⟩ : ∃ k', k = k' + 1 := ⟨k - 1, by simp at h; omega⟩
        clear h
        obtain ⟨j, hj, hfx, hnx, hsn, hway'⟩ := hw.step hin hlt
        rw [hd] at hfx hnx hsn hway'
        have hwo : Yr E d i (k + 1) v = (xO E d i (k + 1 : Nat) v : Int) :: Yr E d i k (xO E d i (k + 1 : Nat) v) := rfl
        rw [hwo] at hP
        obtain ⟨u, hu⟩ : ∃ u, xO E d i (k + 1 : Nat) v = u := ⟨_, rfl⟩
        rw [hu] at hnx hsn hway' hP
        have hvr : nth (zp n E) v = zi E v := yL E hvn
        have hvl := xE E v
        have hrn := zI n E
        have hlft : ((K + 1 : Nat) : Int) - (P.length : Int) = (k + 1 : Nat) := by omega
        (repeat (first | refine FW.seq ?_ | refine FW.region ?_ | refine FW.block ?_ | refine FW.skip ?_ | refine zd.nil ?_ | refine zb rfl rfl rfl ?_ | refine yl rfl rfl rfl (by decide) rfl rfl ?_ | refine zy rfl rfl rfl rfl rfl rfl (by simp; omega) rfl rfl ?_ | refine zC rfl rfl rfl (by simp; omega) (by first | exact zf (by omega) | rfl) rfl rfl rfl rfl ?_ | refine xa rfl rfl rfl rfl rfl rfl rfl ?_ | refine yr rfl rfl rfl rfl rfl rfl rfl rfl rfl ?_ | refine Zs rfl rfl (by omega) rfl rfl ?_))
        rw [hlft, hvr]
        refine zd.le ?_ (FLe.shareP 17 rfl rfl)
        (repeat (first | refine zc4 rfl rfl rfl rfl rfl rfl rfl rfl ?_))
        refine zW (Vq (zi E v) _ _ (YI d i (k + 1 : Nat)) (by omega) (fun x hx => ?_)) (by repeat (first | exact zu.nil | refine zu.cons (by exact yU.plain rfl rfl) ?_)) rfl rfl ?_
        ·have hx2 := zL hin hx
         obtain ⟨x, rfl⟩ : ∃ x' : Nat, x = x' := ⟨x.toNat, by omega⟩
         exact za8 d i (k + 1 : Nat) x (by omega)
        rw [hfx]
        have hj' : j < (nth (zp n E) v).length := by rw [hvr]; exact hj
        (repeat (first | refine FW.seq ?_ | refine FW.region ?_ | refine zd.nil ?_ | refine zc rfl rfl rfl ?_ | refine zb rfl rfl rfl ?_ | refine zy rfl rfl rfl rfl rfl rfl (by first | (simp; omega) | (simp; done)) rfl rfl ?_ | refine zC rfl rfl rfl (by first | (simp; omega) | (simp; done)) (by first | exact zf (by omega) | rfl) rfl rfl rfl rfl ?_ | refine yg rfl rfl rfl rfl rfl rfl rfl rfl ?_ | refine Zm rfl rfl (by first | exact (List.length_map _).symm | rfl | (simp; done) | (simp; omega)) rfl rfl rfl (by decide) (by exact xJ.own rfl rfl (by decide) (by first | exact List.length_map _ | exact (List.length_map _).symm | exact List.length_replicate | rfl | (simp; done) | omega | (simp; omega))) (by first | (simp; omega) | (simp; done)) (by first | (simp; omega) | (simp; done)) rfl rfl rfl ?_))
        rw [hvr]
        skip
        rw [hnx]
        skip
        refine ⟨(P ++ [(u : Int)], u), ⟨k, by simp; omega, hsn, by rw [hd]; exact hway', by rw [List.append_assoc]; exact hP⟩, by simp; omega, ?_⟩
        dsimp only
        rw [List.length_append, List.map_append]
        exact (FLe.cv [⟨100, some 125, 0 + 1, ⟨0, .own, 3, 1, P.map zt ++ [(u : Int)].map zt⟩⟩] (by repeat (first | exact .nil | refine .old rfl (by decide) (by first | rfl | (simp; done)) ?_)) (by repeat (first | exact .nil | refine .cons (.plain rfl rfl (by first | rfl | (simp; done))) ?_ | refine .cons (.own rfl (.head _) rfl (by first | rfl | (simp; done))) ?_)))
       ·obtain rfl : k = 0 := by simp at h; omega
        rw [show Yr E d i 0 v = [] from rfl, List.append_nil] at hP
        (repeat (first | refine FW.region ?_ | refine FW.exit ?_ | refine zd.nil ?_ | refine zb rfl rfl rfl ?_ | refine zB rfl rfl (by omega) rfl rfl ?_))
        refine ⟨i + 1, by omega, by omega, ?_⟩
        rw [hcs, ← hP]
        subst hP
        dsimp only [Ys]
        exact (FLe.cv [⟨100, some 100, 0, ⟨0, .own, 3, 1, ((i : Int) :: Yr E d i K i).map zt⟩⟩] (by repeat (first | exact .nil | refine .old rfl (by decide) rfl ?_)) (by repeat (first | exact .nil | refine .cons (.plain rfl rfl rfl) ?_ | refine .cons (.own rfl (.head _) rfl rfl) ?_)))
  ·obtain rfl : i = n := by simp at h; omega
   rw [show zaS i E i = zaa i E from rfl]
   generalize zaa i E = B
   cases B with
   | nil =>
    dsimp only [Ys]
    refine FW.le (s' := ⟨[(10, .nil)], []⟩) ?_ (FLe.cv [] (by repeat (first | exact .nil)) (by repeat (first | exact .nil | refine .cons (.plain rfl rfl rfl) ?_)))
    (repeat (first | refine FW.seq ?_ | refine FW.region ?_ | refine FW.exit ?_ | refine zd.nil ?_ | refine zc rfl rfl rfl ?_ | refine zb rfl rfl rfl ?_))
    exact FW.ret ⟨.inl rfl, .sh (.cons (.tmp 4 rfl rfl) .nil) rfl rfl⟩
   | cons b l =>
    dsimp only [Ys]
    refine FW.le (s' := ⟨[(10, .list 1 ((b :: l).map zt))], []⟩) ?_ ((FLe.share 10 rfl rfl (by simp)).trans (FLe.cv [] (by repeat (first | exact .nil)) (by repeat (first | exact .nil | refine .cons (.plain rfl rfl rfl) ?_))))
    (repeat (first | refine FW.seq ?_ | refine FW.region ?_ | refine FW.exit ?_ | refine zd.nil ?_ | refine zc rfl rfl rfl ?_ | refine zb rfl rfl rfl ?_))
    exact FW.ret ⟨.inl rfl, .sh (.cons (.tmp 4 rfl rfl) .nil) rfl rfl⟩
theorem zcp (n : Nat) (E : List (Nat × Nat)) (hn : n ≤ 12) (hE : E.length ≤ 1000) (hin : InN n E) : yj Try.prog 15 [.int .i64 n, .list 2 (E.map edf)] .sh (.list 1 ((zaa n E).map zt)) :=
 (za9 n E hn hE hin).le (zfX _) rfl
end Go.Proofs.Ythjplkjpehdpfaa
