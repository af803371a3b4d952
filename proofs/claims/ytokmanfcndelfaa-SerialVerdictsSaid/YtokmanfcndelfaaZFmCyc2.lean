/-
  The contract of graph.Cycle.
-/
import Derived.Test.YtokmanfcndelfaaZK
namespace Go.Proofs.Ytokmanfcndelfaa
set_option linter.unusedVariables false
open Go.RowKit

theorem zbi (n : Nat) (E : List (Nat × Nat)) : (List.range n).map (fun v => [FV.list 1 ((zy E v).map zp)]) = (zS n E).map Yf := by
 unfold zS
 rw [List.map_map]
 rfl
def Xz : List Int → FV
 | [] => .nil
 | b :: l => .own 100 0 0 (b :: l).length
def zbr (n : Nat) (E : List (Nat × Nat)) (i : Nat) : List Int := (List.range i).foldl (Xk n E) []
theorem Vr (n : Nat) (E : List (Nat × Nat)) (i : Nat) : zbr n E (i + 1) = Xk n E (zbr n E i) i := by
 unfold zbr
 rw [List.range_succ, List.foldl_append]; rfl
theorem Va {n : Nat} {E : List (Nat × Nat)} (h : InN n E) : ∀ {i : Nat}, i ≤ n → (zbr n E i).length ≤ n
 | 0, _ => Nat.zero_le _
 | i + 1, hi => by rw [Vr]; exact zc1 h (by omega) (Va h (by omega))
theorem ZL (E : List (Nat × Nat)) : (yQ E).length = E.length := List.length_map _
theorem yc.le {P : Program} {f : Nat} {args : List FV} {r r' : FV} (h : yc P f args .sh r) (hle : FV.le r r') (hh : r'.hand = none) : yc P f args .sh r' where
 go := h.go
 hand := hh
 calls w I vs hI hv := (h.calls w I vs hI hv).mono fun e w' ⟨v, e1, hb, hr⟩ => ⟨v, e1, hb, Rd.le hle hr⟩
def zjg : List (List FV) → FV
 | [] => .nil
 | e :: es => .list 1 (e :: es)
theorem zgJ (es : List (List FV)) : (zjg es).hand = none := by cases es <;> rfl
set_option maxHeartbeats 4000000 in
theorem zc3 (n : Nat) (E : List (Nat × Nat)) (hn : n ≤ 12) (hE : E.length ≤ 1000) (hin : InN n E) : yc Try.prog 16 [.int .i64 n, .list 2 (E.map edf)] .sh (zjg ((zdX n E).map zp)) := by
 refine yc.of_body (c := (xB Try.prog zE zq 128)) ⟨Try.func16, rfl, Try.ntmps16, by kernel_rfl⟩ (by simp [FV.hand]) (by exact Nat.le_of_ble_eq_true rfl) (zgJ _) ?_
 change FW _ _ _ ⟨[(0, .int .i64 n), (1, .list 2 (E.map edf))], []⟩
 (repeat (first | refine FW.seq ?_ | refine FW.region ?_ | refine zd.nil ?_ | refine za rfl rfl rfl ?_ | refine zb rfl rfl rfl ?_))
 refine xc (Zp n E (by omega) (by omega) hin) (by repeat (first | exact zx.nil | refine zx.cons (by exact yI.plain rfl rfl) ?_)) rfl rfl ?_
 rw [zbi]
 (repeat (first | refine FW.seq ?_ | refine FW.region ?_ | refine FW.block ?_ | refine zd.nil ?_ | refine za rfl rfl rfl ?_ | refine zb rfl rfl rfl ?_ | refine zg rfl rfl (by exact List.length_map _) rfl rfl ?_))
 refine FW.loop (fun i : Nat => ⟨[(0, .int .i64 n), (1, .list 2 (E.map edf)), (5, .list 1 ((zS n E).map Yf)), (6, .own 100 0 0 i), (22, .list 2 (E.map edf)), (23, .int .i64 E.length), (24, .int .i64 i)], [(100, ⟨0, .own, 59, 2, ((yQ E).take i).map edf⟩)]⟩) (fun i => i ≤ E.length) (fun i => E.length - i) 0 (Nat.zero_le _)
  (FLe.cv [⟨100, none, 0, ⟨0, .own, 59, 2, []⟩⟩] (by repeat (first | exact .nil | refine .new ?_)) (by repeat (first | exact .nil | refine .cons (.plain rfl rfl rfl) ?_ | refine .cons (.nil rfl (.head _) rfl) ?_))) ?_
 intro i hi
 (repeat (first | refine FW.seq ?_ | refine FW.region ?_ | refine zd.nil ?_ | refine zN rfl rfl rfl rfl ?_))
 refine FW.cond rfl (fun h => ?_) (fun h => ?_)
 ·have hlt : i < E.length := by simpa using h
  clear h
  obtain ⟨⟨a, b⟩, he⟩ : ∃ e, nth E i = e := ⟨_, rfl⟩
  have hti : ((yQ E).take i).length = i := by rw [List.length_take, ZL]; omega
  have hts : (yQ E).take (i + 1) = (yQ E).take i ++ [(b, a)] := by
   rw [List.take_succ_eq_append_getElem (by rw [ZL]; exact hlt)]
   congr 2
   rw [nth_eq hlt] at he
   simp [yQ, he]
  obtain ⟨Z, hZ⟩ : ∃ Z, (yQ E).take i = Z := ⟨_, rfl⟩
  rw [hZ] at hti hts ⊢
  (repeat (first | refine FW.seq ?_ | refine FW.region ?_ | refine FW.block ?_ | refine FW.skip ?_ | refine zd.nil ?_ | refine za rfl rfl rfl ?_ | refine zb rfl rfl rfl ?_ | refine zh rfl rfl rfl rfl rfl rfl (by first | (simp; omega) | (simp; done)) rfl rfl ?_ | refine zfn rfl rfl rfl rfl rfl rfl rfl (by decide) (by first | (simp; omega) | (simp; done)) rfl rfl ?_ | refine zm rfl rfl rfl rfl rfl (by first | (simp; omega) | (simp; done)) (by first | exact zc (by omega) | rfl) rfl rfl rfl rfl ?_ | refine yG rfl rfl rfl (by decide) (by first | (simp; omega) | (simp; done)) (by first | exact zc (by omega) | rfl) rfl rfl rfl ?_ | refine yu rfl rfl rfl rfl rfl rfl rfl ?_ | refine zP rfl rfl rfl rfl rfl rfl rfl rfl rfl ?_ | refine zaA rfl rfl rfl rfl rfl rfl rfl rfl rfl ?_ | refine xn rfl rfl rfl rfl rfl rfl rfl rfl rfl rfl ?_ | refine xa rfl rfl (by first | rfl | (simp; done) | (simp; omega)) rfl rfl rfl (by decide) (by exact xi.own rfl rfl (by decide) (by first | exact List.length_map _ | exact (List.length_map _).symm | exact List.length_replicate | rfl | (simp; done) | omega | (simp; omega))) (by first | (simp; omega) | (simp; done)) (by first | (simp; omega) | (simp; done)) rfl rfl rfl ?_ | refine zw rfl rfl (by omega) rfl rfl ?_))
  rw [he]
  skip
  refine ⟨i + 1, by omega, by omega, ?_⟩
  rw [hts, List.map_append]
  exact (FLe.cv [⟨100, some 35, 0 + 1, ⟨0, .own, 59, 2, Z.map edf ++ [(b, a)].map edf⟩⟩] (by repeat (first | exact .nil | refine .old rfl (by decide) (by first | rfl | (simp; omega)) ?_)) (by repeat (first | exact .nil | refine .cons (.plain rfl rfl (by first | rfl | (simp; omega))) ?_ | refine .cons (.own rfl (.head _) rfl (by first | rfl | (simp; omega))) ?_)))
 ·obtain rfl : i = E.length := by simp at h; omega
  clear h hi
  rw [← ZL, List.take_length]
  (repeat (first | refine FW.seq ?_ | refine FW.region ?_ | refine FW.exit ?_ | refine zb rfl rfl rfl ?_))
  refine zd.le ?_ (FLe.share 38 rfl rfl (by simp))
  refine xc (Zp n (yQ E) (by omega) (by rw [ZL]; omega) (xI hin)) (by repeat (first | exact zx.nil | refine zx.cons (by exact yI.plain rfl rfl) ?_)) rfl rfl ?_
  rw [zbi]
  (repeat (first | refine FW.seq ?_ | refine FW.region ?_ | refine FW.block ?_ | refine zd.nil ?_ | refine za rfl rfl rfl ?_ | refine zb rfl rfl rfl ?_))
  refine FW.loop (fun i : Nat => ⟨[(0, .int .i64 n), (5, .list 1 ((zS n E).map Yf)), (9, .list 1 ((zS n (yQ E)).map Yf)), (10, Xz (zbr n E i)), (40, .int .i64 n), (41, .int .i64 i)], [(100, ⟨0, .own, 3, 1, (zbr n E i).map zp⟩)]⟩) (fun i => i ≤ n) (fun i => n - i) 0 (Nat.zero_le _) ?_ ?_
  ·show FLe _ ⟨[(0, .int .i64 n), (5, .list 1 ((zS n E).map Yf)), (9, .list 1 ((zS n (yQ E)).map Yf)), (10, .nil), (40, .int .i64 n), (41, .int .i64 0)], [(100, ⟨0, .own, 3, 1, []⟩)]⟩
   exact (FLe.cv [⟨100, none, 0, ⟨0, .own, 3, 1, []⟩⟩] (by repeat (first | exact .nil | refine .new ?_)) (by repeat (first | exact .nil | refine .cons (.plain rfl rfl rfl) ?_)))
  intro i hi
  (repeat (first | refine FW.seq ?_ | refine FW.region ?_ | refine zd.nil ?_ | refine zN rfl rfl rfl rfl ?_))
  refine FW.cond rfl (fun h => ?_) (fun h => ?_)
  ·have hlt : i < n := by simpa using h
   clear h
   (repeat (first | refine FW.seq ?_ | refine FW.region ?_ | refine FW.block ?_ | refine FW.skip ?_ | refine zd.nil ?_ | refine zb rfl rfl rfl ?_ | refine zm rfl rfl rfl rfl rfl (by simp; done) rfl rfl rfl rfl rfl ?_ | refine yu rfl rfl rfl rfl rfl rfl rfl ?_ | refine xz rfl rfl rfl rfl rfl rfl rfl rfl rfl ?_))
   refine YP (UO n i (zS n (yQ E)) hn hlt (yl n _) (xX (xI hin)) (fun r hr => by have := zg7 n (yQ E) r hr; rw [ZL] at this; omega)) (by repeat (first | exact zx.nil | refine zx.cons (by exact yI.plain rfl rfl) ?_)) ((List.length_map _).trans (Vp hin hlt)) rfl rfl rfl ?_
   rw [show dist (zS n (yQ E)) n i = zT n E i from rfl]
   have hdl := Vp hin hlt
   have hrng := fun v (hv : v < n) => zbz hin hlt hv
   have hrw : nth (zS n E) i = zy E i := Zf E hlt
   have hrn := yl n E
   refine zd.le ?_ ((FLe.share 47 rfl rfl (by rw [List.length_map]; exact hdl.symm)).trans (FLe.shareP 11 rfl rfl))
   obtain ⟨d, hd⟩ : ∃ d, zT n E i = d := ⟨_, rfl⟩
   rw [hd] at hdl hrng ⊢
   (repeat (first | refine FW.seq ?_ | refine FW.region ?_ | refine FW.block ?_ | refine zd.nil ?_ | refine za rfl rfl rfl ?_ | refine zb rfl rfl rfl ?_ | refine zg rfl rfl (by first | exact List.length_map _ | rfl | (simp; done) | (simp; omega)) rfl rfl ?_ | refine zh rfl rfl rfl rfl rfl rfl (by first | (simp; omega) | (simp; done)) rfl rfl ?_ | refine zA rfl rfl rfl (by first | (simp; omega) | (simp; done)) (by first | exact zc (by omega) | rfl) rfl rfl rfl rfl ?_ | refine yu rfl rfl rfl rfl rfl rfl rfl ?_ | refine xz rfl rfl rfl rfl rfl rfl rfl rfl rfl ?_))
   rw [hrw]
   obtain ⟨B, hB⟩ : ∃ B, zbr n E i = B := ⟨_, rfl⟩
   rw [hB]
   refine FW.le ?_ (FLe.shareP 12 rfl rfl)
   refine FW.loop (fun j : Nat => ⟨[(0, .int .i64 n), (5, .list 1 ((zS n E).map Yf)), (9, .list 1 ((zS n (yQ E)).map Yf)), (10, Xz B), (40, .int .i64 n), (41, .int .i64 i), (11, .eptr 1 [[.int .i64 i]] 0 0), (12, .eptr 1 [[.list 1 (d.map zp)]] 0 0), (13, .int .i64 (((zy E i).take j).foldl (yn d i) 0)), (51, .list 1 ((zy E i).map zp)), (52, .int .i64 (zy E i).length), (53, .int .i64 j)], [(100, ⟨0, .own, 3, 1, B.map zp⟩)]⟩) (fun j => j ≤ (zy E i).length) (fun j => (zy E i).length - j) 0 (Nat.zero_le _) ?_ ?_
   ·rcases B with _ | ⟨b, l⟩
    ·show FLe _ ⟨[(0, .int .i64 n), (5, .list 1 ((zS n E).map Yf)), (9, .list 1 ((zS n (yQ E)).map Yf)), (10, .nil), (40, .int .i64 n), (41, .int .i64 i), (11, .eptr 1 [[.int .i64 i]] 0 0), (12, .eptr 1 [[.list 1 (d.map zp)]] 0 0), (13, .int .i64 0), (51, .list 1 ((zy E i).map zp)), (52, .int .i64 (zy E i).length), (53, .int .i64 0)], [(100, ⟨0, .own, 3, 1, []⟩)]⟩
     exact (FLe.cv [⟨100, some 100, 0, ⟨0, .own, 3, 1, []⟩⟩] (by repeat (first | exact .nil | refine .old rfl (by decide) rfl ?_)) (by repeat (first | exact .nil | refine .cons (.plain rfl rfl rfl) ?_)))
    ·show FLe _ ⟨[(0, .int .i64 n), (5, .list 1 ((zS n E).map Yf)), (9, .list 1 ((zS n (yQ E)).map Yf)), (10, .own 100 0 0 (b :: l).length), (40, .int .i64 n), (41, .int .i64 i), (11, .eptr 1 [[.int .i64 i]] 0 0), (12, .eptr 1 [[.list 1 (d.map zp)]] 0 0), (13, .int .i64 0), (51, .list 1 ((zy E i).map zp)), (52, .int .i64 (zy E i).length), (53, .int .i64 0)], [(100, ⟨0, .own, 3, 1, (b :: l).map zp⟩)]⟩
     exact (FLe.cv [⟨100, some 100, 0, ⟨0, .own, 3, 1, (b :: l).map zp⟩⟩] (by repeat (first | exact .nil | refine .old rfl (by decide) rfl ?_)) (by repeat (first | exact .nil | refine .cons (.plain rfl rfl rfl) ?_ | refine .cons (.own rfl (.head _) rfl rfl) ?_)))
   have hsl := Yz E i
   intro j hj
   (repeat (first | refine FW.seq ?_ | refine FW.region ?_ | refine zd.nil ?_ | refine zN rfl rfl rfl rfl ?_))
   refine FW.cond rfl (fun h => ?_) (fun h => ?_)
   ·have hlt3 : j < (zy E i).length := by simpa using h
    clear h
    obtain ⟨v, hv⟩ : ∃ v : Nat, nth (zy E i) j = v := ⟨(nth (zy E i) j).toNat, by have := (yw hin (zI hlt3)).1; omega⟩
    have hvn : v < n := by have := (yw hin (zI hlt3)).2; omega
    have hrv := hrng v hvn
    have hst : ((zy E i).take (j + 1)).foldl (yn d i) 0 = yn d i (((zy E i).take j).foldl (yn d i) 0) v := by
     rw [List.take_succ_eq_append_getElem hlt3, List.foldl_append, ← nth_eq hlt3, hv]; rfl
    obtain ⟨L, hL⟩ : ∃ L, ((zy E i).take j).foldl (yn d i) 0 = L := ⟨_, rfl⟩
    rw [hL] at hst ⊢
    generalize hBm : B.map zp = Bm
    have hdn : nth d ((v : Int)).toNat = nth d v := rfl
    (repeat (first | refine FW.seq ?_ | refine FW.region ?_ | refine FW.block ?_ | refine FW.skip ?_ | refine zd.nil ?_ | refine za rfl rfl rfl ?_ | refine zb rfl rfl rfl ?_ | refine zh rfl rfl rfl rfl rfl rfl (by first | (simp; omega) | (simp; done)) rfl rfl ?_ | refine zA rfl rfl rfl (by first | (simp; omega) | (simp; done)) (by first | exact zc (by omega) | rfl) rfl rfl rfl rfl ?_ | refine Yu rfl rfl rfl rfl ?_))
    rw [hv]
    skip
    refine zO (fun h1 => ?_) (fun h1 => ?_)
    ·(repeat (first | refine zb rfl rfl rfl ?_ | refine zu rfl rfl rfl rfl ?_ | refine zA rfl rfl rfl (by first | (simp; omega) | (simp; done)) (by first | exact zc (by omega) | rfl) rfl rfl rfl ⟨_, _, rfl, rfl, rfl⟩ ?_ | refine zb rfl rfl ⟨_, _, rfl, rfl, rfl⟩ ?_ | refine zh rfl rfl rfl rfl rfl rfl (by first | (simp; omega) | (simp; done)) rfl ⟨_, _, rfl, rfl, rfl⟩ ?_ | refine Yu rfl rfl rfl ⟨_, _, rfl, rfl, rfl⟩ ?_))
     refine zO (fun h2 => ?_) (fun h2 => ?_)
     ·(repeat (first | refine zb rfl rfl ⟨_, _, rfl, rfl, rfl⟩ ?_ | refine zU rfl rfl rfl ⟨_, _, rfl, rfl, rfl⟩ ?_))
      refine zO (fun h3 => ?_) (fun h3 => ?_)
      ·(repeat (first | refine FW.region ?_ | refine FW.condT rfl ?_ | refine zd.nil ?_ | refine za rfl rfl rfl ?_ | refine zb rfl rfl rfl ?_ | refine zh rfl rfl rfl rfl rfl rfl (by first | omega | (simp; omega) | (simp; done)) rfl rfl ?_ | refine zA rfl rfl rfl (by first | omega | (simp; omega) | (simp; done)) (by first | exact zc (by omega) | rfl) rfl rfl rfl rfl ?_ | refine zw rfl rfl (by omega) rfl rfl ?_ | refine zu rfl rfl rfl rfl ?_ | refine zu rfl rfl rfl ⟨_, _, rfl, rfl, rfl⟩ ?_ | refine zK rfl rfl ⟨_, _, rfl, rfl, rfl⟩ ?_))
       rw [yn, if_pos ⟨⟨by simpa using h1, by simpa using h2⟩, .inl (by simpa using h3)⟩, hdn] at hst
       refine ⟨j + 1, by omega, by omega, ?_⟩
       rw [hst]
       rcases B with _ | ⟨b, l⟩ <;> dsimp only [Xz]
       ·exact (FLe.cv [⟨100, some 100, 0, ⟨0, .own, 3, 1, Bm⟩⟩] (by repeat (first | exact .nil | refine .old rfl (by decide) rfl ?_)) (by repeat (first | exact .nil | refine .cons (.plain rfl rfl rfl) ?_)))
       ·exact (FLe.cv [⟨100, some 100, 0, ⟨0, .own, 3, 1, Bm⟩⟩] (by repeat (first | exact .nil | refine .old rfl (by decide) rfl ?_)) (by repeat (first | exact .nil | refine .cons (.plain rfl rfl rfl) ?_ | refine .cons (.own rfl (.head _) rfl rfl) ?_)))
      ·(repeat (first | refine zd.nil ?_ | refine zu rfl rfl rfl rfl ?_ | refine zA rfl rfl rfl (by first | (simp; omega) | (simp; done)) (by first | exact zc (by omega) | rfl) rfl rfl rfl ⟨_, _, rfl, rfl, rfl⟩ ?_ | refine zb rfl rfl ⟨_, _, rfl, rfl, rfl⟩ ?_ | refine zh rfl rfl rfl rfl rfl rfl (by first | (simp; omega) | (simp; done)) rfl ⟨_, _, rfl, rfl, rfl⟩ ?_ | refine zw rfl rfl (by omega) rfl ⟨_, _, rfl, rfl, rfl⟩ ?_ | refine zN rfl rfl rfl ⟨_, _, rfl, rfl, rfl⟩ ?_ | refine zn rfl rfl rfl ⟨_, _, rfl, rfl, rfl⟩ ?_))
       refine FW.cond rfl (fun h4 => ?_) (fun h4 => ?_)
       ·(repeat (first | refine FW.region ?_ | refine zd.nil ?_ | refine za rfl rfl rfl ?_ | refine zb rfl rfl rfl ?_ | refine zh rfl rfl rfl rfl rfl rfl (by first | (simp; omega) | (simp; done)) rfl rfl ?_ | refine zA rfl rfl rfl (by first | (simp; omega) | (simp; done)) (by first | exact zc (by omega) | rfl) rfl rfl rfl rfl ?_ | refine zw rfl rfl (by omega) rfl rfl ?_))
        rw [yn, if_pos ⟨⟨by simpa using h1, by simpa using h2⟩, .inr (by simpa using h4)⟩, hdn] at hst
        refine ⟨j + 1, by omega, by omega, ?_⟩
        rw [hst]
        rcases B with _ | ⟨b, l⟩ <;> dsimp only [Xz]
        ·exact (FLe.cv [⟨100, some 100, 0, ⟨0, .own, 3, 1, Bm⟩⟩] (by repeat (first | exact .nil | refine .old rfl (by decide) rfl ?_)) (by repeat (first | exact .nil | refine .cons (.plain rfl rfl rfl) ?_)))
        ·exact (FLe.cv [⟨100, some 100, 0, ⟨0, .own, 3, 1, Bm⟩⟩] (by repeat (first | exact .nil | refine .old rfl (by decide) rfl ?_)) (by repeat (first | exact .nil | refine .cons (.plain rfl rfl rfl) ?_ | refine .cons (.own rfl (.head _) rfl rfl) ?_)))
       ·(repeat (first | refine FW.region ?_ | refine FW.skip ?_ | refine zd.nil ?_ | refine zb rfl rfl rfl ?_ | refine zw rfl rfl (by omega) rfl rfl ?_))
        rw [yn, if_neg (fun q => by simp at h3 h4; rcases q.2 with q | q; exact h3 q; rw [hdn] at q; omega)] at hst
        refine ⟨j + 1, by omega, by omega, ?_⟩
        rw [hst]
        rcases B with _ | ⟨b, l⟩ <;> dsimp only [Xz]
        ·exact (FLe.cv [⟨100, some 100, 0, ⟨0, .own, 3, 1, Bm⟩⟩] (by repeat (first | exact .nil | refine .old rfl (by decide) rfl ?_)) (by repeat (first | exact .nil | refine .cons (.plain rfl rfl rfl) ?_)))
        ·exact (FLe.cv [⟨100, some 100, 0, ⟨0, .own, 3, 1, Bm⟩⟩] (by repeat (first | exact .nil | refine .old rfl (by decide) rfl ?_)) (by repeat (first | exact .nil | refine .cons (.plain rfl rfl rfl) ?_ | refine .cons (.own rfl (.head _) rfl rfl) ?_)))
     ·(repeat (first | refine FW.region ?_ | refine FW.skip ?_ | refine FW.condF rfl ?_ | refine zd.nil ?_ | refine zb rfl rfl rfl ?_ | refine zw rfl rfl (by omega) rfl rfl ?_ | refine zn rfl rfl rfl rfl ?_ | refine zK rfl rfl ⟨_, _, rfl, rfl, rfl⟩ ?_))
      rw [yn, if_neg (fun q => by simp at h2; have q2 := q.1.2; rw [hdn] at q2; omega)] at hst
      refine ⟨j + 1, by omega, by omega, ?_⟩
      rw [hst]
      rcases B with _ | ⟨b, l⟩ <;> dsimp only [Xz]
      ·exact (FLe.cv [⟨100, some 100, 0, ⟨0, .own, 3, 1, Bm⟩⟩] (by repeat (first | exact .nil | refine .old rfl (by decide) rfl ?_)) (by repeat (first | exact .nil | refine .cons (.plain rfl rfl rfl) ?_)))
      ·exact (FLe.cv [⟨100, some 100, 0, ⟨0, .own, 3, 1, Bm⟩⟩] (by repeat (first | exact .nil | refine .old rfl (by decide) rfl ?_)) (by repeat (first | exact .nil | refine .cons (.plain rfl rfl rfl) ?_ | refine .cons (.own rfl (.head _) rfl rfl) ?_)))
    ·(repeat (first | refine FW.region ?_ | refine FW.skip ?_ | refine FW.condF rfl ?_ | refine zd.nil ?_ | refine zb rfl rfl rfl ?_ | refine zw rfl rfl (by omega) rfl rfl ?_ | refine zn rfl rfl rfl rfl ?_ | refine zK rfl rfl ⟨_, _, rfl, rfl, rfl⟩ ?_))
     rw [yn, if_neg (fun q => by simp at h1; omega)] at hst
     refine ⟨j + 1, by omega, by omega, ?_⟩
     rw [hst]
     rcases B with _ | ⟨b, l⟩ <;> dsimp only [Xz]
     ·exact (FLe.cv [⟨100, some 100, 0, ⟨0, .own, 3, 1, Bm⟩⟩] (by repeat (first | exact .nil | refine .old rfl (by decide) rfl ?_)) (by repeat (first | exact .nil | refine .cons (.plain rfl rfl rfl) ?_)))
     ·exact (FLe.cv [⟨100, some 100, 0, ⟨0, .own, 3, 1, Bm⟩⟩] (by repeat (first | exact .nil | refine .old rfl (by decide) rfl ?_)) (by repeat (first | exact .nil | refine .cons (.plain rfl rfl rfl) ?_ | refine .cons (.own rfl (.head _) rfl rfl) ?_)))
   ·obtain rfl : j = (zy E i).length := by simp at h; omega
    clear h hj
    rw [List.take_length]
    obtain ⟨L, hL⟩ : ∃ L, (zy E i).foldl (yn d i) 0 = L := ⟨_, rfl⟩
    rw [hL]
    have hLL : yX (zT n E i) i (zy E i) = L := by rw [hd]; exact hL
    have hcs := Vr n E i
    rw [hB] at hcs
    unfold Xk at hcs
    dsimp only at hcs
    rw [hLL] at hcs
    have hBl : B.length ≤ n := hB ▸ Va hin (by omega)
    refine FW.exit ?_
    refine FW.seq ?_
    refine FW.seq ?_
    refine FW.join (fun _ : Unit => ⟨[(0, .int .i64 n), (5, .list 1 ((zS n E).map Yf)), (9, .list 1 ((zS n (yQ E)).map Yf)), (10, Xz B), (40, .int .i64 n), (41, .int .i64 i), (11, .eptr 1 [[.int .i64 i]] 0 0), (12, .eptr 1 [[.list 1 (d.map zp)]] 0 0), (13, .int .i64 L), (97, .bool (decide (L = 0 ∨ (B ≠ [] ∧ (B.length : Int) ≤ L))))], [(100, ⟨0, .own, 3, 1, B.map zp⟩)]⟩) (fun _ => True) ?_ (fun _ _ => ?_)
    ·rcases B with _ | ⟨b, l⟩
     ·dsimp only [Xz]
      (repeat (first | refine FW.region ?_ | refine zb rfl rfl rfl ?_ | refine zU rfl rfl rfl rfl ?_))
      refine zO (fun h1 => ?_) (fun h1 => ?_)
      ·(repeat (first | refine zd.nil ?_ | refine zu rfl rfl rfl rfl ?_ | refine zK rfl rfl ⟨_, _, rfl, rfl, rfl⟩ ?_))
       refine ⟨rfl, (), trivial, ?_⟩
       rw [show decide (L = 0 ∨ (([] : List Int) ≠ [] ∧ ((([] : List Int).length : Nat) : Int) ≤ L)) = true by simpa using h1]
       exact (FLe.cv [⟨100, some 100, 0, ⟨0, .own, 3, 1, []⟩⟩] (by repeat (first | exact .nil | refine .old rfl (by decide) rfl ?_)) (by repeat (first | exact .nil | refine .cons (.plain rfl rfl rfl) ?_)))
      ·(repeat (first | refine zd.nil ?_ | refine zn rfl rfl rfl rfl ?_ | refine zb rfl rfl ⟨_, _, rfl, rfl, rfl⟩ ?_ | refine zn rfl rfl rfl ⟨_, _, rfl, rfl, rfl⟩ ?_ | refine zcz rfl rfl rfl rfl ⟨_, _, rfl, rfl, rfl⟩ ?_ | refine zK rfl rfl ⟨_, _, rfl, rfl, rfl⟩ ?_))
       refine ⟨rfl, (), trivial, ?_⟩
       rw [show decide (L = 0 ∨ (([] : List Int) ≠ [] ∧ ((([] : List Int).length : Nat) : Int) ≤ L)) = false by simpa using h1]
       exact (FLe.cv [⟨100, some 100, 0, ⟨0, .own, 3, 1, []⟩⟩] (by repeat (first | exact .nil | refine .old rfl (by decide) rfl ?_)) (by repeat (first | exact .nil | refine .cons (.plain rfl rfl rfl) ?_)))
     ·dsimp only [Xz]
      (repeat (first | refine FW.region ?_ | refine zb rfl rfl rfl ?_ | refine zU rfl rfl rfl rfl ?_))
      refine zO (fun h1 => ?_) (fun h1 => ?_)
      ·(repeat (first | refine zd.nil ?_ | refine zu rfl rfl rfl rfl ?_ | refine zK rfl rfl ⟨_, _, rfl, rfl, rfl⟩ ?_))
       refine ⟨rfl, (), trivial, ?_⟩
       rw [show decide (L = 0 ∨ ((b :: l : List Int) ≠ [] ∧ (((b :: l : List Int).length : Nat) : Int) ≤ L)) = true by simp at h1 ⊢; exact .inl h1]
       exact (FLe.cv [⟨100, some 100, 0, ⟨0, .own, 3, 1, (b :: l).map zp⟩⟩] (by repeat (first | exact .nil | refine .old rfl (by decide) rfl ?_)) (by repeat (first | exact .nil | refine .cons (.plain rfl rfl rfl) ?_ | refine .cons (.own rfl (.head _) rfl rfl) ?_)))
      ·(repeat (first | refine zd.nil ?_ | refine zn rfl rfl rfl rfl ?_ | refine zb rfl rfl ⟨_, _, rfl, rfl, rfl⟩ ?_ | refine Yu rfl rfl rfl ⟨_, _, rfl, rfl, rfl⟩ ?_ | refine zu rfl rfl rfl ⟨_, _, rfl, rfl, rfl⟩ ?_ | refine zg4 rfl rfl rfl rfl (by decide) (by simp; done) rfl ⟨_, _, rfl, rfl, rfl⟩ ?_ | refine yp rfl rfl rfl (by decide) rfl ⟨_, _, rfl, rfl, rfl⟩ ?_))
       refine ⟨rfl, (), trivial, ?_⟩
       rw [show decide (L = 0 ∨ ((b :: l : List Int) ≠ [] ∧ (((b :: l : List Int).length : Nat) : Int) ≤ L)) = decide (L ≥ (((b :: l).length : Nat) : Int)) by simp at h1 ⊢; intro q; exact absurd q h1]
       exact (FLe.cv [⟨100, some 100, 0, ⟨0, .own, 3, 1, (b :: l).map zp⟩⟩] (by repeat (first | exact .nil | refine .old rfl (by decide) rfl ?_)) (by repeat (first | exact .nil | refine .cons (.plain rfl rfl rfl) ?_ | refine .cons (.own rfl (.head _) rfl rfl) ?_)))
    ·refine FW.cond rfl (fun h => ?_) (fun h => ?_)
     ·rw [if_pos (by simpa using h)] at hcs
      (repeat (first | refine FW.region ?_ | refine FW.exit ?_ | refine zd.nil ?_ | refine zb rfl rfl rfl ?_ | refine zw rfl rfl (by omega) rfl rfl ?_))
      refine ⟨i + 1, by omega, by omega, ?_⟩
      rw [hcs]
      generalize hBm : B.map zp = Bm
      rcases B with _ | ⟨b, l⟩ <;> dsimp only [Xz]
      ·exact (FLe.cv [⟨100, some 100, 0, ⟨0, .own, 3, 1, Bm⟩⟩] (by repeat (first | exact .nil | refine .old rfl (by decide) rfl ?_)) (by repeat (first | exact .nil | refine .cons (.plain rfl rfl rfl) ?_)))
      ·exact (FLe.cv [⟨100, some 100, 0, ⟨0, .own, 3, 1, Bm⟩⟩] (by repeat (first | exact .nil | refine .old rfl (by decide) rfl ?_)) (by repeat (first | exact .nil | refine .cons (.plain rfl rfl rfl) ?_ | refine .cons (.own rfl (.head _) rfl rfl) ?_)))
     ·have hno : ¬ (L = 0 ∨ (B ≠ [] ∧ (B.length : Int) ≤ L)) := by simpa using h
      rw [if_neg hno] at hcs
      obtain ⟨K, hK, hKn, hway⟩ := ZV hin hlt (by rw [hLL]; exact fun e => hno (.inl e))
      rw [hLL] at hK
      subst hK
      rw [show ((K + 1 : Nat) : Int).toNat - 1 = K by omega] at hcs
      clear h hno hL hLL hB hBl hrn
      rw [hd] at hcs
      refine FW.le (s' := ⟨[(0, .int .i64 n), (5, .list 1 ((zS n E).map Yf)), (9, .list 1 ((zS n (yQ E)).map Yf)), (40, .int .i64 n), (41, .int .i64 i), (11, .eptr 1 [[.int .i64 i]] 0 0), (12, .eptr 1 [[.list 1 (d.map zp)]] 0 0), (13, .int .i64 (K + 1 : Nat))], []⟩) ?_ (FLe.cv [] (by repeat (first | exact .nil)) (by repeat (first | exact .nil | refine .cons (.plain rfl rfl rfl) ?_)))
      (repeat (first | refine FW.seq ?_ | refine FW.region ?_ | refine FW.block ?_ | refine FW.skip ?_ | refine zd.nil ?_ | refine za rfl rfl rfl ?_ | refine zA rfl rfl rfl (by simp; done) rfl rfl rfl rfl rfl ?_ | refine yg rfl rfl rfl rfl rfl rfl rfl rfl ?_))
      refine FW.loop (fun x : List Int × Nat => ⟨[(0, .int .i64 n), (5, .list 1 ((zS n E).map Yf)), (9, .list 1 ((zS n (yQ E)).map Yf)), (40, .int .i64 n), (41, .int .i64 i), (11, .eptr 1 [[.int .i64 i]] 0 0), (12, .eptr 1 [[.list 1 (d.map zp)]] 0 0), (13, .int .i64 (K + 1 : Nat)), (10, .own 100 0 0 x.1.length), (16, .int .i64 x.2)], [(100, ⟨0, .own, 3, 1, x.1.map zp⟩)]⟩) (fun x => ∃ k, x.1.length + k = K + 1 ∧ x.2 < n ∧ Way E (zT n E i) i k x.2 ∧ x.1 ++ Zt E d i k x.2 = (i : Int) :: Zt E d i K i) (fun x => K + 1 - x.1.length) ([(i : Int)], i) ⟨K, by simp; omega, hlt, hway, rfl⟩ ?_ ?_
      ·show FLe _ ⟨[(0, .int .i64 n), (5, .list 1 ((zS n E).map Yf)), (9, .list 1 ((zS n (yQ E)).map Yf)), (40, .int .i64 n), (41, .int .i64 i), (11, .eptr 1 [[.int .i64 i]] 0 0), (12, .eptr 1 [[.list 1 (d.map zp)]] 0 0), (13, .int .i64 (K + 1 : Nat)), (10, .own 100 0 0 1), (16, .int .i64 i)], [(100, ⟨0, .own, 3, 1, [[.int .i64 i]]⟩)]⟩
       exact (FLe.cv [⟨100, some 99, 0 + 1, ⟨0, .own, 3, 1, [[.int .i64 i]]⟩⟩] (by repeat (first | exact .nil | refine .old rfl (by decide) rfl ?_)) (by repeat (first | exact .nil | refine .cons (.plain rfl rfl rfl) ?_ | refine .cons (.own rfl (.head _) rfl rfl) ?_)))
      ·rintro ⟨P, v⟩ ⟨k, hPk, hvn, hw, hP⟩
       dsimp only at hPk hvn hw hP ⊢
       (repeat (first | refine FW.seq ?_ | refine FW.region ?_ | refine zd.nil ?_ | refine zb rfl rfl rfl ?_ | refine yp rfl rfl rfl (by decide) rfl rfl ?_ | refine zN rfl rfl rfl rfl ?_))
       refine FW.cond rfl (fun h => ?_) (fun h => ?_)
       ·obtain ⟨k, rfl⟩ : ∃ k', k = k' + 1 := ⟨k - 1, by simp at h; omega⟩
        clear h
        obtain ⟨j, hj, hfx, hnx, hsn, hway'⟩ := hw.step hin hlt
        rw [hd] at hfx hnx hsn hway'
        have hwo : Zt E d i (k + 1) v = (xD E d i (k + 1 : Nat) v : Int) :: Zt E d i k (xD E d i (k + 1 : Nat) v) := rfl
        rw [hwo] at hP
        obtain ⟨u, hu⟩ : ∃ u, xD E d i (k + 1 : Nat) v = u := ⟨_, rfl⟩
        rw [hu] at hnx hsn hway' hP
        have hvr : nth (zS n E) v = zy E v := Zf E hvn
        have hvl := Yz E v
        have hrn := yl n E
        have hlft : ((K + 1 : Nat) : Int) - (P.length : Int) = (k + 1 : Nat) := by omega
        (repeat (first | refine FW.seq ?_ | refine FW.region ?_ | refine FW.block ?_ | refine FW.skip ?_ | refine zd.nil ?_ | refine zb rfl rfl rfl ?_ | refine yp rfl rfl rfl (by decide) rfl rfl ?_ | refine zh rfl rfl rfl rfl rfl rfl (by simp; omega) rfl rfl ?_ | refine zA rfl rfl rfl (by simp; omega) (by first | exact zc (by omega) | rfl) rfl rfl rfl rfl ?_ | refine yu rfl rfl rfl rfl rfl rfl rfl ?_ | refine xz rfl rfl rfl rfl rfl rfl rfl rfl rfl ?_ | refine Yv rfl rfl (by omega) rfl rfl ?_))
        rw [hlft, hvr]
        refine zd.le ?_ (FLe.shareP 17 rfl rfl)
        (repeat (first | refine zfo rfl rfl rfl rfl rfl rfl rfl rfl ?_))
        refine zX (Xb (zy E v) _ _ (Xq d i (k + 1 : Nat)) (by omega) (fun x hx => ?_)) (by repeat (first | exact zx.nil | refine zx.cons (by exact yI.plain rfl rfl) ?_)) rfl rfl ?_
        ·have hx2 := yw hin hx
         obtain ⟨x, rfl⟩ : ∃ x' : Nat, x = x' := ⟨x.toNat, by omega⟩
         exact zc2 d i (k + 1 : Nat) x (by omega)
        rw [hfx]
        have hj' : j < (nth (zS n E) v).length := by rw [hvr]; exact hj
        (repeat (first | refine FW.seq ?_ | refine FW.region ?_ | refine zd.nil ?_ | refine za rfl rfl rfl ?_ | refine zb rfl rfl rfl ?_ | refine zh rfl rfl rfl rfl rfl rfl (by first | (simp; omega) | (simp; done)) rfl rfl ?_ | refine zA rfl rfl rfl (by first | (simp; omega) | (simp; done)) (by first | exact zc (by omega) | rfl) rfl rfl rfl rfl ?_ | refine yg rfl rfl rfl rfl rfl rfl rfl rfl ?_ | refine xa rfl rfl (by first | exact (List.length_map _).symm | rfl | (simp; done) | (simp; omega)) rfl rfl rfl (by decide) (by exact xi.own rfl rfl (by decide) (by first | exact List.length_map _ | exact (List.length_map _).symm | exact List.length_replicate | rfl | (simp; done) | omega | (simp; omega))) (by first | (simp; omega) | (simp; done)) (by first | (simp; omega) | (simp; done)) rfl rfl rfl ?_))
        rw [hvr]
        skip
        rw [hnx]
        skip
        refine ⟨(P ++ [(u : Int)], u), ⟨k, by simp; omega, hsn, by rw [hd]; exact hway', by rw [List.append_assoc]; exact hP⟩, by simp; omega, ?_⟩
        dsimp only
        rw [List.length_append, List.map_append]
        exact (FLe.cv [⟨100, some 125, 0 + 1, ⟨0, .own, 3, 1, P.map zp ++ [(u : Int)].map zp⟩⟩] (by repeat (first | exact .nil | refine .old rfl (by decide) (by first | rfl | (simp; done)) ?_)) (by repeat (first | exact .nil | refine .cons (.plain rfl rfl (by first | rfl | (simp; done))) ?_ | refine .cons (.own rfl (.head _) rfl (by first | rfl | (simp; done))) ?_)))
       ·obtain rfl : k = 0 := by simp at h; omega
        rw [show Zt E d i 0 v = [] from rfl, List.append_nil] at hP
        (repeat (first | refine FW.region ?_ | refine FW.exit ?_ | refine zd.nil ?_ | refine zb rfl rfl rfl ?_ | refine zw rfl rfl (by omega) rfl rfl ?_))
        refine ⟨i + 1, by omega, by omega, ?_⟩
        rw [hcs, ← hP]
        subst hP
        dsimp only [Xz]
        exact (FLe.cv [⟨100, some 100, 0, ⟨0, .own, 3, 1, ((i : Int) :: Zt E d i K i).map zp⟩⟩] (by repeat (first | exact .nil | refine .old rfl (by decide) rfl ?_)) (by repeat (first | exact .nil | refine .cons (.plain rfl rfl rfl) ?_ | refine .cons (.own rfl (.head _) rfl rfl) ?_)))
  ·obtain rfl : i = n := by simp at h; omega
   rw [show zbr i E i = zdX i E from rfl]
   generalize zdX i E = B
   cases B with
   | nil =>
    dsimp only [Xz]
    refine FW.le (s' := ⟨[(10, .nil)], []⟩) ?_ (FLe.cv [] (by repeat (first | exact .nil)) (by repeat (first | exact .nil | refine .cons (.plain rfl rfl rfl) ?_)))
    (repeat (first | refine FW.seq ?_ | refine FW.region ?_ | refine FW.exit ?_ | refine zd.nil ?_ | refine za rfl rfl rfl ?_ | refine zb rfl rfl rfl ?_))
    exact FW.ret ⟨.inl rfl, .sh (.cons (.tmp 4 rfl rfl) .nil) rfl rfl⟩
   | cons b l =>
    dsimp only [Xz]
    refine FW.le (s' := ⟨[(10, .list 1 ((b :: l).map zp))], []⟩) ?_ ((FLe.share 10 rfl rfl (by simp)).trans (FLe.cv [] (by repeat (first | exact .nil)) (by repeat (first | exact .nil | refine .cons (.plain rfl rfl rfl) ?_))))
    (repeat (first | refine FW.seq ?_ | refine FW.region ?_ | refine FW.exit ?_ | refine zd.nil ?_ | refine za rfl rfl rfl ?_ | refine zb rfl rfl rfl ?_))
    exact FW.ret ⟨.inl rfl, .sh (.cons (.tmp 4 rfl rfl) .nil) rfl rfl⟩
end Go.Proofs.Ytokmanfcndelfaa
