/-
  The contract of graph.Reach.
-/
import Derived.Test.YthjplkjpehdpfaaZFmCyc2
import Derived.Test.YthjplkjpehdpfaaZL
import Derived.Test.YthjplkjpehdpfaaZReachPlain
namespace Go.Proofs.Ythjplkjpehdpfaa
set_option linter.unusedVariables false
open Go.RowKit

def yn (b : Bool) : List FV := [.bool b]
def zcu (n : Nat) (E : List (Nat × Nat)) (q p : Nat) : List FV := [.eptr 1 [[.int .i64 n]] 0 0, .ptr 5000 q 0 0, .eptr 1 [[.list 1 ((zq n E).map yK)]] 0 0, .ptr 5002 p 0 0]
def Xo (q v n : Nat) : zm := ⟨q, .hrow, 44, 1, [[.own 5001 v 0 n]]⟩
def zcC (v : Nat) (s : List Bool) : zm := ⟨v, .own, 4, 1, s.map yn⟩
def Yb (n : Nat) (E : List (Nat × Nat)) (q p : Nat) : zm := ⟨p, .hrow, 45, 1, [[.wrap (.fn 37) (zcu n E q p)]]⟩
theorem zc7 {n q v p : Nat} {E : List (Nat × Nat)} {res : FV} {o : Nat → zm} {s s' : List Bool} (hr : res.cl [5000, 5001, 5002] = true) (h0 : o 5000 = Xo q v n) (h1 : o 5001 = zcC v s') (h2 : o 5002 = Yb n E q p) : Zb [(5000, Xo q v n), (5001, zcC v s), (5002, Yb n E q p)] [] res o where
 old k hk hl := by
  simp at hk
  rcases hk with rfl | rfl | rfl
  ·rw [h0]; exact ⟨rfl, rfl, rfl⟩
  ·rw [h1]; exact ⟨rfl, rfl, rfl⟩
  ·rw [h2]; exact ⟨rfl, rfl, rfl⟩
 new k hk := by cases hk
 cl k hk := by
  simp at hk
  rcases hk with rfl | rfl | rfl
  ·rw [h0]; rfl
  ·rw [h1]; rfl
  ·rw [h2]; rfl
 res := hr
theorem VC {E : List (Nat × Nat)} {k : Nat} {s : List Bool} {x : Int} (h : x < 0 ∨ (s.length : Int) ≤ x ∨ nth s x.toNat = true) : xL E k s x = s := by
 cases k with
 | zero => rfl
 | succ k => exact if_pos h
set_option maxHeartbeats 4000000 in
theorem Vx (n : Nat) (E : List (Nat × Nat)) (q v p : Nat) (hn : n ≤ 1000) (hE : E.length ≤ 100000) (hin : InN n E) (k : Nat) (ih : ∀ k', k' + 1 = k → ∀ (s : List Bool) (x : Int), s.length = n → unseen s ≤ k' → zZ Try.prog 37 ([.int .i64 x] ++ zcu n E q p) [(5000, Xo q v n), (5001, zcC v s), (5002, Yb n E q p)] [] (fun res o => res = .tup [] ∧ o 5000 = Xo q v n ∧ o 5001 = zcC v (xL E k' s x) ∧ o 5002 = Yb n E q p)) (s : List Bool) (x : Int) (hl : s.length = n) (hu : unseen s ≤ k) :
  zZ Try.prog 37 ([.int .i64 x] ++ zcu n E q p) [(5000, Xo q v n), (5001, zcC v s), (5002, Yb n E q p)] [] (fun res o => res = .tup [] ∧ o 5000 = Xo q v n ∧ o 5001 = zcC v (xL E k s x) ∧ o 5002 = Yb n E q p) := by
 refine zZ.of_body (c := (Zi Try.prog zE zw 37)) ⟨Try.func37, rfl, Try.ntmps37, by kernel_rfl⟩ (by exact Nat.le_of_ble_eq_true rfl) ?_ ?_
 ·rintro res o ⟨rfl, h0, h1, h2⟩; exact zc7 rfl h0 h1 h2
 change FW _ _ _ ⟨[(0, .int .i64 x), (1, .eptr 1 [[.int .i64 n]] 0 0), (2, .ptr 5000 q 0 0), (3, .eptr 1 [[.list 1 ((zq n E).map yK)]] 0 0), (4, .ptr 5002 p 0 0)], [(5000, Xo q v n), (5001, zcC v s), (5002, Yb n E q p)]⟩
 (repeat (first | refine FW.seq ?_ | refine FW.region ?_ | refine zd rfl rfl rfl ?_ | refine zI rfl rfl rfl rfl ?_))
 refine yo (fun h1 => ?_) (fun h1 => ?_)
 ·rw [VC (.inl (by simpa using h1))]
  (repeat (first | refine FW.condT rfl ?_ | refine zg.nil ?_ | refine zd rfl rfl rfl ?_ | refine zN rfl rfl rfl rfl ?_ | refine yj rfl rfl ⟨_, _, rfl, rfl, rfl⟩ ?_))
  exact FW.ret ⟨.inl rfl, _, .plain .nil rfl rfl, rfl, rfl, rfl, rfl⟩
 ·(repeat (first | refine zd rfl rfl rfl ?_ | refine zU rfl rfl rfl rfl ?_ | refine zd rfl rfl ⟨_, _, rfl, rfl, rfl⟩ ?_ | refine zD rfl rfl rfl (by first | omega | (simp; omega) | (simp; done)) (by first | exact zh (by omega) | rfl) rfl rfl rfl ⟨_, _, rfl, rfl, rfl⟩ ?_ | refine UR rfl rfl rfl ⟨_, _, rfl, rfl, rfl⟩ ?_))
  refine yo (fun h2 => ?_) (fun h2 => ?_)
  ·rw [VC (.inr (.inl (by simp at h2; omega)))]
   (repeat (first | refine FW.condT rfl ?_ | refine zg.nil ?_ | refine zN rfl rfl rfl rfl ?_ | refine yj rfl rfl ⟨_, _, rfl, rfl, rfl⟩ ?_))
   exact FW.ret ⟨.inl rfl, _, .plain .nil rfl rfl, rfl, rfl, rfl, rfl⟩
  ·obtain ⟨u, rfl⟩ : ∃ u : Nat, x = u := ⟨x.toNat, by simp at h1; omega⟩
   have hun : u < n := by simp at h2; omega
   clear h1 h2
   have hrn := yL E hun
   have hrl := zL n E
   have hsl := xz E u
   unfold Xo zcC
   (repeat (first | refine zg.nil ?_ | refine zU rfl rfl rfl rfl ?_ | refine zd rfl rfl ⟨_, _, rfl, rfl, rfl⟩ ?_ | refine zT rfl rfl rfl rfl rfl (by first | omega | (simp; omega) | (simp; done)) (by first | exact zh (by omega) | rfl) rfl rfl rfl ⟨_, _, rfl, rfl, rfl⟩ ?_ | refine zM rfl rfl rfl rfl rfl rfl ⟨_, _, rfl, rfl, rfl⟩ ?_ | refine zG rfl rfl (by first | rfl | exact (Int.toNat_of_nonneg (by omega)).symm) rfl rfl rfl (by decide) rfl (by first | omega | (simp; omega) | (simp; done)) rfl ⟨_, _, rfl, rfl, rfl⟩ ?_))
   refine FW.cond rfl (fun h3 => ?_) (fun h3 => ?_)
   ·rw [VC (.inr (.inr (by rw [Int.toNat_natCast]; exact h3)))]
    skip
    exact FW.ret ⟨.inl rfl, _, .plain .nil rfl rfl, rfl, rfl, rfl, rfl⟩
   ·have hus := Vw (by omega) h3
    obtain ⟨k', rfl⟩ : ∃ k', k' + 1 = k := ⟨k - 1, by omega⟩
    have hd : xL E (k' + 1) s u = (zj E u).foldl (xL E k') (s.set u true) := by
     show (if _ then _ else _) = _
     rw [if_neg (by rintro (e | e | e); omega; omega; rw [Int.toNat_natCast, h3] at e; cases e), Int.toNat_natCast]
    rw [hd]
    have ih := ih k' rfl
    obtain ⟨S, hS⟩ : ∃ S, s.set u true = S := ⟨_, rfl⟩
    have hSl : S.length = n := by rw [← hS, List.length_set]; exact hl
    rw [hS] at hus ⊢
    refine FW.skip ?_
    (repeat (first | refine FW.seq ?_ | refine FW.region ?_ | refine FW.block ?_ | refine zg.nil ?_ | refine zd rfl rfl rfl ?_ | refine zD rfl rfl rfl (by first | omega | (simp; omega) | (simp; done)) (by first | exact zh (by omega) | rfl) rfl rfl rfl rfl ?_ | refine zM rfl rfl rfl rfl rfl rfl rfl ?_ | refine zy rfl rfl (by first | rfl | exact (Int.toNat_of_nonneg (by omega)).symm) rfl rfl rfl (by first | omega | (simp; omega) | (simp; done)) rfl rfl ?_ | refine zG rfl rfl (by first | rfl | exact (Int.toNat_of_nonneg (by omega)).symm) rfl rfl rfl (by decide) rfl (by first | omega | (simp; omega) | (simp; done)) rfl rfl ?_ | refine xc rfl rfl rfl rfl rfl rfl (by first | omega | (simp; omega) | (simp; done)) (by first | exact zh (by omega) | rfl) rfl rfl rfl ?_ | refine zA rfl rfl (by first | exact List.length_map _ | exact (List.length_map _).symm | exact List.length_replicate | rfl | (simp; done) | omega | (simp; omega)) rfl rfl ?_))
    rw [show (yn (nth s u)).set 0 (.bool true) = yn true from rfl, ← List.map_set, hS]
    skip
    rw [hrn]
    skip
    refine FW.loop (fun j : Nat => ⟨[(4, .ptr 5002 p 0 0), (27, .list 1 ((zj E u).map zp)), (28, .int .i64 (zj E u).length), (29, .int .i64 j)], [(5000, ⟨q, .hrow, 44, 1, [[.own 5001 v 0 n]]⟩), (5001, ⟨v, .own, 4, 1, (((zj E u).take j).foldl (xL E k') S).map yn⟩), (5002, Yb n E q p)]⟩) (fun j => j ≤ (zj E u).length) (fun j => (zj E u).length - j) 0 (Nat.zero_le _) ?_ ?_
    ·show FLe _ ⟨[(4, .ptr 5002 p 0 0), (27, .list 1 ((zj E u).map zp)), (28, .int .i64 (zj E u).length), (29, .int .i64 0)], [(5000, ⟨q, .hrow, 44, 1, [[.own 5001 v 0 n]]⟩), (5001, ⟨v, .own, 4, 1, S.map yn⟩), (5002, Yb n E q p)]⟩
     unfold Yb zcu
     exact (FLe.conv [⟨5000, some 5000, q, ⟨q, .hrow, 44, 1, [[.own 5001 v 0 n]]⟩⟩, ⟨5001, some 5001, v, ⟨v, .own, 4, 1, S.map yn⟩⟩, ⟨5002, some 5002, p, ⟨p, .hrow, 45, 1, [[.wrap (.fn 37) [.eptr 1 [[.int .i64 n]] 0 0, .ptr 5000 q 0 0, .eptr 1 [[.list 1 ((zq n E).map yK)]] 0 0, .ptr 5002 p 0 0]]]⟩⟩] (by simp) (by simp) rfl (by repeat (first | exact .nil | refine .low rfl ?_ | refine .same rfl ?_ | refine .bump (Nat.lt_succ_self _) ?_)) (by repeat (first | exact .nil | refine .old rfl (by decide) (by first | rfl | (simp; done) | (congr 1; omega) | (simp; omega) | (simp [List.take_of_length_le]; done) | (refine congrArg (FV.int .i64) ?_; omega)) ?_ | refine .oldH rfl (by repeat (first | exact .nil | refine .cons (.own (.tail _ (.head _)) rfl (by first | rfl | (simp; done) | (congr 1; omega) | (simp; omega) | (simp [List.take_of_length_le]; done) | (refine congrArg (FV.int .i64) ?_; omega)) (by first | rfl | (simp; done) | (congr 1; omega) | (simp; omega) | (simp [List.take_of_length_le]; done) | (refine congrArg (FV.int .i64) ?_; omega))) ?_ | refine .cons (.wrap (by repeat (first | exact zc.nil | refine zc.cons (.plain rfl rfl) ?_ | refine zc.cons (.ptr (.head _) rfl) ?_ | refine zc.cons (.own (.head _) rfl rfl rfl) ?_ | refine zc.cons (.omap (.head _) rfl) ?_ | refine zc.cons (.ptr (.tail _ (.head _)) rfl) ?_ | refine zc.cons (.own (.tail _ (.head _)) rfl rfl rfl) ?_ | refine zc.cons (.omap (.tail _ (.head _)) rfl) ?_ | refine zc.cons (.ptr (.tail _ (.tail _ (.head _))) rfl) ?_ | refine zc.cons (.own (.tail _ (.tail _ (.head _))) rfl rfl rfl) ?_ | refine zc.cons (.omap (.tail _ (.tail _ (.head _))) rfl) ?_))) ?_)) ?_)) (by repeat (first | exact .nil | refine .cons (.plain rfl rfl (by first | rfl | (simp; done) | (congr 1; omega) | (simp; omega) | (simp [List.take_of_length_le]; done) | (refine congrArg (FV.int .i64) ?_; omega))) ?_ | refine .cons (.ptr rfl (.tail _ (.tail _ (.head _))) rfl) ?_)))
    intro j hj
    have hst : ∀ hlt : j < (zj E u).length, ((zj E u).take (j + 1)).foldl (xL E k') S = xL E k' (((zj E u).take j).foldl (xL E k') S) (nth (zj E u) j) := fun hlt => by
     rw [List.take_succ_eq_append_getElem hlt, List.foldl_append, ← nth_eq hlt]; rfl
    have hend : j = (zj E u).length → (zj E u).foldl (xL E k') S = ((zj E u).take j).foldl (xL E k') S := fun e => by rw [e, List.take_length]
    have hZl : (((zj E u).take j).foldl (xL E k') S).length = n ∧ unseen (((zj E u).take j).foldl (xL E k') S) ≤ k' := by
     have : ∀ (r : List Int) (a : List Bool), a.length = n → unseen a ≤ k' → (r.foldl (xL E k') a).length = n ∧ unseen (r.foldl (xL E k') a) ≤ k' := by
      intro r
      induction r with
      | nil => intro a h1 h2; exact ⟨h1, h2⟩
      | cons y r ihr =>
       intro a h1 h2
       exact ihr _ (by rw [VB]; exact h1) (Nat.le_trans (zcL hin k' a y h1 h2).1.ext.unseen h2)
     exact this _ S hSl (by omega)
    generalize ((zj E u).take j).foldl (xL E k') S = Z at hst hend hZl
    (repeat (first | refine FW.seq ?_ | refine FW.region ?_ | refine zg.nil ?_ | refine zI rfl rfl rfl rfl ?_))
    refine FW.cond rfl (fun h4 => ?_) (fun h4 => ?_)
    ·have hlt : j < (zj E u).length := by simpa using h4
     clear h4 hend
     have hst := hst hlt
     obtain ⟨w, hw⟩ : ∃ w, nth (zj E u) j = w := ⟨_, rfl⟩
     rw [hw] at hst
     unfold Yb
     (repeat (first | refine FW.seq ?_ | refine FW.region ?_ | refine FW.block ?_ | refine FW.skip ?_ | refine zg.nil ?_ | refine zd rfl rfl rfl ?_ | refine zD rfl rfl rfl (by first | omega | (simp; omega) | (simp; done)) (by first | exact zh (by omega) | rfl) rfl rfl rfl rfl ?_ | refine zM rfl rfl rfl rfl rfl rfl rfl ?_ | refine zy rfl rfl (by first | rfl | exact (Int.toNat_of_nonneg (by omega)).symm) rfl rfl rfl (by first | omega | (simp; omega) | (simp; done)) rfl rfl ?_ | refine zf rfl rfl rfl ?_))
     rw [hw]
     refine xS rfl (ih Z w hZl.1 hZl.2) [(5000, 5000), (5001, 5001), (5002, 5002)] rfl (zi.cons rfl rfl rfl (zi.cons rfl rfl rfl (zi.cons rfl rfl rfl zi.nil))) rfl rfl rfl rfl rfl rfl ?_
     rintro _ ob' ⟨rfl, h0, h1, h2⟩
     refine yd.one [(5000, Xo q v n), (5001, zcC v (xL E k' Z w)), (5002, Yb n E q p)] (.tup []) rfl (by show [(5000, zm.ren _ (look {} ob' 5000)), (5001, zm.ren _ (look {} ob' 5001)), (5002, zm.ren _ (look {} ob' 5002))] = _; rw [h0, h1, h2]; rfl) ?_
     clear h0 h1 h2 ob'
     (repeat (first | refine FW.region ?_ | refine zg.nil ?_ | refine zd rfl rfl rfl ?_ | refine zC rfl rfl (by omega) rfl rfl ?_))
     refine ⟨j + 1, by omega, by omega, ?_⟩
     rw [hst]
     generalize xL E k' Z w = Y
     unfold Xo zcC Yb zcu
     exact (FLe.conv [⟨5000, some 5000, q, ⟨q, .hrow, 44, 1, [[.own 5001 v 0 n]]⟩⟩, ⟨5001, some 5001, v, ⟨v, .own, 4, 1, Y.map yn⟩⟩, ⟨5002, some 5002, p, ⟨p, .hrow, 45, 1, [[.wrap (.fn 37) [.eptr 1 [[.int .i64 n]] 0 0, .ptr 5000 q 0 0, .eptr 1 [[.list 1 ((zq n E).map yK)]] 0 0, .ptr 5002 p 0 0]]]⟩⟩] (by simp) (by simp) rfl (by repeat (first | exact .nil | refine .low rfl ?_ | refine .same rfl ?_ | refine .bump (Nat.lt_succ_self _) ?_)) (by repeat (first | exact .nil | refine .old rfl (by decide) (by first | rfl | (simp; done) | (congr 1; omega) | (simp; omega) | (simp [List.take_of_length_le]; done) | (refine congrArg (FV.int .i64) ?_; omega)) ?_ | refine .oldH rfl (by repeat (first | exact .nil | refine .cons (.own (.tail _ (.head _)) rfl (by first | rfl | (simp; done) | (congr 1; omega) | (simp; omega) | (simp [List.take_of_length_le]; done) | (refine congrArg (FV.int .i64) ?_; omega)) (by first | rfl | (simp; done) | (congr 1; omega) | (simp; omega) | (simp [List.take_of_length_le]; done) | (refine congrArg (FV.int .i64) ?_; omega))) ?_ | refine .cons (.wrap (by repeat (first | exact zc.nil | refine zc.cons (.plain rfl rfl) ?_ | refine zc.cons (.ptr (.head _) rfl) ?_ | refine zc.cons (.own (.head _) rfl rfl rfl) ?_ | refine zc.cons (.omap (.head _) rfl) ?_ | refine zc.cons (.ptr (.tail _ (.head _)) rfl) ?_ | refine zc.cons (.own (.tail _ (.head _)) rfl rfl rfl) ?_ | refine zc.cons (.omap (.tail _ (.head _)) rfl) ?_ | refine zc.cons (.ptr (.tail _ (.tail _ (.head _))) rfl) ?_ | refine zc.cons (.own (.tail _ (.tail _ (.head _))) rfl rfl rfl) ?_ | refine zc.cons (.omap (.tail _ (.tail _ (.head _))) rfl) ?_))) ?_)) ?_)) (by repeat (first | exact .nil | refine .cons (.plain rfl rfl (by first | rfl | (simp; done) | (congr 1; omega) | (simp; omega) | (simp [List.take_of_length_le]; done) | (refine congrArg (FV.int .i64) ?_; omega))) ?_ | refine .cons (.ptr rfl (.tail _ (.tail _ (.head _))) rfl) ?_)))
    ·have hje : j = (zj E u).length := by simp at h4; omega
     rw [hend hje]
     (repeat (first | refine FW.exit ?_))
     exact ⟨.inr rfl, _, .plain .nil rfl rfl, rfl, rfl, rfl, rfl⟩
theorem WG (n : Nat) (E : List (Nat × Nat)) (q v p : Nat) (hn : n ≤ 1000) (hE : E.length ≤ 100000) (hin : InN n E) : ∀ (k : Nat) (s : List Bool) (x : Int), s.length = n → unseen s ≤ k → zZ Try.prog 37 ([.int .i64 x] ++ zcu n E q p) [(5000, Xo q v n), (5001, zcC v s), (5002, Yb n E q p)] [] (fun res o => res = .tup [] ∧ o 5000 = Xo q v n ∧ o 5001 = zcC v (xL E k s x) ∧ o 5002 = Yb n E q p)
 | 0 => Vx n E q v p hn hE hin 0 fun k' e => by omega
 | k + 1 => Vx n E q v p hn hE hin (k + 1) fun k' e => by
  have e2 : k' = k := by omega
  subst e2
  exact WG n E q v p hn hE hin k'
def ZM (s : List Bool) (k : Nat) : List Int := ((List.range k).filter fun v => nth s v).map fun v : Nat => (v : Int)
theorem YP (s : List Bool) (k : Nat) : ZM s (k + 1) = ZM s k ++ if nth s k = true then [(k : Int)] else [] := by
 unfold ZM
 rw [List.range_succ, List.filter_append, List.map_append]
 congr 1
 by_cases e : nth s k = true
 ·simp [e]
 ·simp [e]
theorem UH (s : List Bool) (k : Nat) : (ZM s k).length ≤ k := by
 unfold ZM
 rw [List.length_map]
 exact Nat.le_trans (List.length_filter_le _ _) (by simp)
def ye (n : Nat) (E : List (Nat × Nat)) (from_ : List Int) : List Int := ZM (yG n E from_ from_.length) n
set_option maxHeartbeats 4000000 in
theorem xj (n : Nat) (E : List (Nat × Nat)) (fr : List Int) (hn : n ≤ 1000) (hE : E.length ≤ 100000) (hin : InN n E) (hf : fr.length ≤ 9223372036854775807) : yr Try.prog 18 [.int .i64 n, .list 2 (E.map edf), .list 1 (fr.map zp)] .sh (.list 1 ((ye n E fr).map zp)) := by
 refine yr.of_body (c := (Zi Try.prog zE zw 45)) ⟨Try.func18, rfl, Try.ntmps18, by kernel_rfl⟩ (by simp [FV.hand]) (by exact Nat.le_of_ble_eq_true rfl) rfl ?_
 change FW _ _ _ ⟨[(0, .int .i64 n), (1, .list 2 (E.map edf)), (2, .list 1 (fr.map zp))], []⟩
 (repeat (first | refine FW.seq ?_ | refine FW.region ?_ | refine zg.nil ?_ | refine ze1 rfl rfl rfl rfl rfl ?_ | refine zf rfl rfl rfl ?_ | refine zT rfl rfl rfl rfl rfl (by first | omega | (simp; omega) | (simp; done)) (by first | exact zh (by omega) | rfl) rfl rfl rfl rfl ?_ | refine zd rfl rfl rfl ?_))
 refine yp (yu n E (by omega) (by omega) hin) (by repeat (first | exact zx.nil | refine zx.cons (by first | exact yT.plain rfl rfl) ?_)) rfl rfl ?_
 rw [Yx]
 (repeat (first | refine FW.seq ?_ | refine FW.region ?_ | refine zg.nil ?_ | refine zT rfl rfl rfl rfl rfl (by first | omega | (simp; omega) | (simp; done)) (by first | exact zh (by omega) | rfl) rfl rfl rfl rfl ?_ | refine xg rfl rfl rfl rfl rfl rfl rfl ?_ | refine xy rfl rfl rfl rfl rfl rfl rfl rfl rfl ?_ | refine Wp rfl (by first | rfl | exact (Int.toNat_of_nonneg (by omega)).symm) rfl (by first | rfl | exact (Int.toNat_of_nonneg (by omega)).symm) rfl rfl rfl rfl (by first | omega | (simp; omega) | (simp; done)) (by first | omega | (simp; omega) | (simp; done)) rfl rfl rfl ?_))
 rw [show List.replicate n [FV.bool false] = (List.replicate n false).map yn by rw [List.map_replicate]; rfl]
 refine zg.le ?_ (FLe.toH (i := 8) rfl)
 (repeat (first | refine FW.seq ?_ | refine FW.region ?_ | refine zg.nil ?_ | refine xk rfl rfl rfl rfl rfl rfl (by decide) (by first | omega | (simp; omega) | (simp; done)) rfl ?_))
 refine Wl rfl rfl rfl rfl rfl ?_
 refine zg.le ?_ ((FLe.shareP 3 rfl rfl).trans (FLe.shareP 7 rfl rfl))
 (repeat (first | refine FW.seq ?_ | refine FW.region ?_ | refine FW.block ?_ | refine zg.nil ?_ | refine zd rfl rfl rfl ?_ | refine Vn rfl rfl rfl rfl rfl (by first | omega | (simp; omega) | (simp; done)) rfl ?_ | refine YW rfl rfl rfl rfl ?_ | refine zA rfl rfl (by first | exact List.length_map _ | exact (List.length_map _).symm | exact List.length_replicate | rfl | (simp; done) | omega | (simp; omega)) rfl rfl ?_))
 refine FW.loop (fun j : Nat => ⟨[(8, .ptr 110 0 0 0), (9, .ptr 112 0 0 0), (21, .list 1 (fr.map zp)), (22, .int .i64 fr.length), (23, .int .i64 j)], [(110, ⟨0, .hrow, 44, 1, [[.own 111 0 0 n]]⟩), (111, ⟨0, .own, 4, 1, (yG n E fr j).map yn⟩), (112, ⟨0, .hrow, 45, 1, [[.wrap (.fn 37) [.eptr 1 [[.int .i64 n]] 0 0, .ptr 110 0 0 0, .eptr 1 [[.list 1 ((zq n E).map yK)]] 0 0, .ptr 112 0 0 0]]]⟩)]⟩) (fun j => j ≤ fr.length) (fun j => fr.length - j) 0 (Nat.zero_le _) ?_ ?_
 ·show FLe _ ⟨[(8, .ptr 110 0 0 0), (9, .ptr 112 0 0 0), (21, .list 1 (fr.map zp)), (22, .int .i64 fr.length), (23, .int .i64 0)], [(110, ⟨0, .hrow, 44, 1, [[.own 111 0 0 n]]⟩), (111, ⟨0, .own, 4, 1, (List.replicate n false).map yn⟩), (112, ⟨0, .hrow, 45, 1, [[.wrap (.fn 37) [.eptr 1 [[.int .i64 n]] 0 0, .ptr 110 0 0 0, .eptr 1 [[.list 1 ((zq n E).map yK)]] 0 0, .ptr 112 0 0 0]]]⟩)]⟩
  obtain ⟨Z, hZ⟩ : ∃ Z, (List.replicate n false).map yn = Z := ⟨_, rfl⟩
  rw [hZ]
  exact (FLe.conv [⟨110, some 8, 0 + 1, ⟨0, .hrow, 44, 1, [[.own 111 0 0 n]]⟩⟩, ⟨111, some 19, 0 + 1, ⟨0, .own, 4, 1, Z⟩⟩, ⟨112, some 9, 0 + 1, ⟨0, .hrow, 45, 1, [[.wrap (.fn 37) [.eptr 1 [[.int .i64 n]] 0 0, .ptr 110 0 0 0, .eptr 1 [[.list 1 ((zq n E).map yK)]] 0 0, .ptr 112 0 0 0]]]⟩⟩] (by simp) (by simp) rfl (by repeat (first | exact .nil | refine .low rfl ?_ | refine .same rfl ?_ | refine .bump (Nat.lt_succ_self _) ?_)) (by repeat (first | exact .nil | refine .old rfl (by decide) (by first | rfl | (simp; done) | (congr 1; omega) | (simp; omega) | (simp [List.take_of_length_le]; done) | (refine congrArg (FV.int .i64) ?_; omega)) ?_ | refine .oldH rfl (by repeat (first | exact .nil | refine .cons (.own (.tail _ (.head _)) rfl (by first | rfl | (simp; done) | (congr 1; omega) | (simp; omega) | (simp [List.take_of_length_le]; done) | (refine congrArg (FV.int .i64) ?_; omega)) (by first | rfl | (simp; done) | (congr 1; omega) | (simp; omega) | (simp [List.take_of_length_le]; done) | (refine congrArg (FV.int .i64) ?_; omega))) ?_ | refine .cons (.wrap (by repeat (first | exact zc.nil | refine zc.cons (.plain rfl rfl) ?_ | refine zc.cons (.ptr (.head _) rfl) ?_ | refine zc.cons (.own (.head _) rfl rfl rfl) ?_ | refine zc.cons (.omap (.head _) rfl) ?_ | refine zc.cons (.ptr (.tail _ (.head _)) rfl) ?_ | refine zc.cons (.own (.tail _ (.head _)) rfl rfl rfl) ?_ | refine zc.cons (.omap (.tail _ (.head _)) rfl) ?_ | refine zc.cons (.ptr (.tail _ (.tail _ (.head _))) rfl) ?_ | refine zc.cons (.own (.tail _ (.tail _ (.head _))) rfl rfl rfl) ?_ | refine zc.cons (.omap (.tail _ (.tail _ (.head _))) rfl) ?_))) ?_)) ?_)) (by repeat (first | exact .nil | refine .cons (.plain rfl rfl (by first | rfl | (simp; done) | (congr 1; omega) | (simp; omega) | (simp [List.take_of_length_le]; done) | (refine congrArg (FV.int .i64) ?_; omega))) ?_ | refine .cons (.ptr rfl (.head _) rfl) ?_ | refine .cons (.ptr rfl (.tail _ (.tail _ (.head _))) rfl) ?_)))
 intro j hj
 have hSl : (yG n E fr j).length = n := by
  unfold yG
  have : ∀ (r : List Int) (b : List Bool), (r.foldl (xL E n) b).length = b.length := by
   intro r
   induction r with
   | nil => intro b; rfl
   | cons y r ihr => intro b; rw [List.foldl_cons, ihr, VB]
  rw [this]; simp
 have hst : ∀ h : j < fr.length, yG n E fr (j + 1) = xL E n (yG n E fr j) (nth fr j) := fun h => by
  unfold yG
  rw [List.take_succ_eq_append_getElem h, List.foldl_append, ← nth_eq h]; rfl
 have hgr : j = fr.length → ye n E fr = ZM (yG n E fr j) n := fun e => by rw [e]; rfl
 generalize yG n E fr j = S at hSl hst hgr
 have hun := zac S
 (repeat (first | refine FW.seq ?_ | refine FW.region ?_ | refine zg.nil ?_ | refine zI rfl rfl rfl rfl ?_))
 refine FW.cond rfl (fun h => ?_) (fun h => ?_)
 ·have hlt : j < fr.length := by simpa using h
  clear h hgr
  have hst := hst hlt
  obtain ⟨x, hx⟩ : ∃ x, nth fr j = x := ⟨_, rfl⟩
  rw [hx] at hst
  (repeat (first | refine FW.seq ?_ | refine FW.region ?_ | refine FW.block ?_ | refine FW.skip ?_ | refine zg.nil ?_ | refine zf rfl rfl rfl ?_ | refine zD rfl rfl rfl (by first | omega | (simp; omega) | (simp; done)) (by first | exact zh (by omega) | rfl) rfl rfl rfl rfl ?_ | refine zM rfl rfl rfl rfl rfl rfl rfl ?_ | refine zd rfl rfl rfl ?_ | refine zy rfl rfl (by first | rfl | exact (Int.toNat_of_nonneg (by omega)).symm) rfl rfl rfl (by first | omega | (simp; omega) | (simp; done)) rfl rfl ?_))
  rw [hx]
  refine xS rfl (WG n E 0 0 0 hn hE hin n S x hSl (by omega)) [(5000, 110), (5001, 111), (5002, 112)] rfl (zi.cons rfl rfl rfl (zi.cons rfl rfl rfl (zi.cons rfl rfl rfl zi.nil))) rfl rfl rfl rfl rfl rfl ?_
  rintro _ ob' ⟨rfl, h0, h1, h2⟩
  refine yd.one [(110, ⟨0, .hrow, 44, 1, [[.own 111 0 0 n]]⟩), (111, ⟨0, .own, 4, 1, (xL E n S x).map yn⟩), (112, ⟨0, .hrow, 45, 1, [[.wrap (.fn 37) [.eptr 1 [[.int .i64 n]] 0 0, .ptr 110 0 0 0, .eptr 1 [[.list 1 ((zq n E).map yK)]] 0 0, .ptr 112 0 0 0]]]⟩)] (.tup []) rfl (by show [(110, zm.ren _ (look {} ob' 5000)), (111, zm.ren _ (look {} ob' 5001)), (112, zm.ren _ (look {} ob' 5002))] = _; rw [h0, h1, h2]; rfl) ?_
  clear h0 h1 h2 ob'
  (repeat (first | refine FW.region ?_ | refine zg.nil ?_ | refine zd rfl rfl rfl ?_ | refine zC rfl rfl (by omega) rfl rfl ?_))
  refine ⟨j + 1, by omega, by omega, ?_⟩
  rw [hst]
  generalize xL E n S x = Y
  exact (FLe.conv [⟨110, some 110, 0, ⟨0, .hrow, 44, 1, [[.own 111 0 0 n]]⟩⟩, ⟨111, some 111, 0, ⟨0, .own, 4, 1, Y.map yn⟩⟩, ⟨112, some 112, 0, ⟨0, .hrow, 45, 1, [[.wrap (.fn 37) [.eptr 1 [[.int .i64 n]] 0 0, .ptr 110 0 0 0, .eptr 1 [[.list 1 ((zq n E).map yK)]] 0 0, .ptr 112 0 0 0]]]⟩⟩] (by simp) (by simp) rfl (by repeat (first | exact .nil | refine .low rfl ?_ | refine .same rfl ?_ | refine .bump (Nat.lt_succ_self _) ?_)) (by repeat (first | exact .nil | refine .old rfl (by decide) (by first | rfl | (simp; done) | (congr 1; omega) | (simp; omega) | (simp [List.take_of_length_le]; done) | (refine congrArg (FV.int .i64) ?_; omega)) ?_ | refine .oldH rfl (by repeat (first | exact .nil | refine .cons (.own (.tail _ (.head _)) rfl (by first | rfl | (simp; done) | (congr 1; omega) | (simp; omega) | (simp [List.take_of_length_le]; done) | (refine congrArg (FV.int .i64) ?_; omega)) (by first | rfl | (simp; done) | (congr 1; omega) | (simp; omega) | (simp [List.take_of_length_le]; done) | (refine congrArg (FV.int .i64) ?_; omega))) ?_ | refine .cons (.wrap (by repeat (first | exact zc.nil | refine zc.cons (.plain rfl rfl) ?_ | refine zc.cons (.ptr (.head _) rfl) ?_ | refine zc.cons (.own (.head _) rfl rfl rfl) ?_ | refine zc.cons (.omap (.head _) rfl) ?_ | refine zc.cons (.ptr (.tail _ (.head _)) rfl) ?_ | refine zc.cons (.own (.tail _ (.head _)) rfl rfl rfl) ?_ | refine zc.cons (.omap (.tail _ (.head _)) rfl) ?_ | refine zc.cons (.ptr (.tail _ (.tail _ (.head _))) rfl) ?_ | refine zc.cons (.own (.tail _ (.tail _ (.head _))) rfl rfl rfl) ?_ | refine zc.cons (.omap (.tail _ (.tail _ (.head _))) rfl) ?_))) ?_)) ?_)) (by repeat (first | exact .nil | refine .cons (.plain rfl rfl (by first | rfl | (simp; done) | (congr 1; omega) | (simp; omega) | (simp [List.take_of_length_le]; done) | (refine congrArg (FV.int .i64) ?_; omega))) ?_ | refine .cons (.ptr rfl (.head _) rfl) ?_ | refine .cons (.ptr rfl (.tail _ (.tail _ (.head _))) rfl) ?_)))
 ·have hje : j = fr.length := by simp at h; omega
  rw [hgr hje]
  clear h hgr hst hun
  (repeat (first | refine FW.seq ?_ | refine FW.region ?_ | refine FW.block ?_ | refine FW.exit ?_ | refine zg.nil ?_ | refine zf rfl rfl rfl ?_ | refine zM rfl rfl rfl rfl rfl rfl rfl ?_ | refine zd rfl rfl rfl ?_ | refine yl rfl rfl rfl (by decide) rfl rfl ?_))
  refine FW.loop (fun i : Nat => ⟨[(12, .own 101 0 0 (ZM S i).length), (31, .own 111 0 0 n), (32, .int .i64 n), (33, .int .i64 i)], [(101, ⟨0, .own, 3, 1, (ZM S i).map zp⟩), (111, ⟨0, .own, 4, 1, S.map yn⟩)]⟩) (fun i => i ≤ n) (fun i => n - i) 0 (Nat.zero_le _) ?_ ?_
  ·show FLe _ ⟨[(12, .own 101 0 0 0), (31, .own 111 0 0 n), (32, .int .i64 n), (33, .int .i64 0)], [(101, ⟨0, .own, 3, 1, []⟩), (111, ⟨0, .own, 4, 1, S.map yn⟩)]⟩
   exact (FLe.conv [⟨101, none, 0, ⟨0, .own, 3, 1, []⟩⟩, ⟨111, some 111, 0, ⟨0, .own, 4, 1, S.map yn⟩⟩] (by simp) (by simp) rfl (by repeat (first | exact .nil | refine .low rfl ?_ | refine .same rfl ?_ | refine .bump (Nat.lt_succ_self _) ?_)) (by repeat (first | exact .nil | refine .old rfl (by decide) (by first | rfl | (simp; done) | (congr 1; omega) | (simp; omega) | (simp [List.take_of_length_le]; done) | (refine congrArg (FV.int .i64) ?_; omega)) ?_ | refine .new ?_)) (by repeat (first | exact .nil | refine .cons (.plain rfl rfl (by first | rfl | (simp; done) | (congr 1; omega) | (simp; omega) | (simp [List.take_of_length_le]; done) | (refine congrArg (FV.int .i64) ?_; omega))) ?_ | refine .cons (.nil rfl (.head _) rfl) ?_ | refine .cons (.own rfl (.tail _ (.head _)) rfl (by first | rfl | (simp; done) | (congr 1; omega) | (simp; omega) | (simp [List.take_of_length_le]; done) | (refine congrArg (FV.int .i64) ?_; omega))) ?_)))
  intro i hi
  have hos := YP S i
  have hol := UH S i
  have hlast : i = n → ZM S n = ZM S i := fun e => by rw [e]
  generalize ZM S i = O at hos hol hlast
  (repeat (first | refine FW.seq ?_ | refine FW.region ?_ | refine zg.nil ?_ | refine zI rfl rfl rfl rfl ?_))
  refine FW.cond rfl (fun h => ?_) (fun h => ?_)
  ·have hlt : i < n := by simpa using h
   clear h hlast
   (repeat (first | refine FW.seq ?_ | refine FW.region ?_ | refine FW.block ?_ | refine FW.skip ?_ | refine zg.nil ?_ | refine zf rfl rfl rfl ?_ | refine zT rfl rfl rfl rfl rfl (by first | omega | (simp; omega) | (simp; done)) (by first | exact zh (by omega) | rfl) rfl rfl rfl rfl ?_ | refine zd rfl rfl rfl ?_ | refine zG rfl rfl (by first | rfl | exact (Int.toNat_of_nonneg (by omega)).symm) rfl rfl rfl (by decide) rfl (by first | omega | (simp; omega) | (simp; done)) rfl rfl ?_))
   refine FW.cond rfl (fun h => ?_) (fun h => ?_)
   ·rw [if_pos h] at hos
    (repeat (first | refine FW.region ?_ | refine zg.nil ?_ | refine zf rfl rfl rfl ?_ | refine zd rfl rfl rfl ?_ | refine zC rfl rfl (by omega) rfl rfl ?_ | refine zP rfl rfl rfl rfl rfl rfl rfl rfl ?_ | refine xJ rfl rfl (by first | exact List.length_map _ | exact (List.length_map _).symm | exact List.length_replicate | rfl | (simp; done) | omega | (simp; omega)) rfl rfl rfl (by decide) (by first | exact xB.own rfl rfl (by decide) (by first | exact List.length_map _ | exact (List.length_map _).symm | exact List.length_replicate | rfl | (simp; done) | omega | (simp; omega)) | exact xB.list rfl | exact xB.nil rfl | exact xB.part rfl rfl (by decide)) (by first | omega | (simp; omega) | (simp; done)) (by first | omega | (simp; omega) | (simp; done)) rfl rfl rfl ?_))
    refine ⟨i + 1, by omega, by omega, ?_⟩
    rw [hos, List.length_append, List.map_append]
    exact (FLe.conv [⟨101, some 42, 0 + 1, ⟨0, .own, 3, 1, O.map zp ++ [(i : Int)].map zp⟩⟩, ⟨111, some 111, 0, ⟨0, .own, 4, 1, S.map yn⟩⟩] (by simp) (by simp) rfl (by repeat (first | exact .nil | refine .low rfl ?_ | refine .same rfl ?_ | refine .bump (Nat.lt_succ_self _) ?_)) (by repeat (first | exact .nil | refine .old rfl (by decide) (by first | rfl | (simp; done) | (congr 1; omega) | (simp; omega) | (simp [List.take_of_length_le]; done) | (refine congrArg (FV.int .i64) ?_; omega)) ?_)) (by repeat (first | exact .nil | refine .cons (.plain rfl rfl (by first | rfl | (simp; done) | (congr 1; omega) | (simp; omega) | (simp [List.take_of_length_le]; done) | (refine congrArg (FV.int .i64) ?_; omega))) ?_ | refine .cons (.own rfl (.head _) rfl (by first | rfl | (simp; done) | (congr 1; omega) | (simp; omega) | (simp [List.take_of_length_le]; done) | (refine congrArg (FV.int .i64) ?_; omega))) ?_ | refine .cons (.own rfl (.tail _ (.head _)) rfl (by first | rfl | (simp; done) | (congr 1; omega) | (simp; omega) | (simp [List.take_of_length_le]; done) | (refine congrArg (FV.int .i64) ?_; omega))) ?_)))
   ·rw [if_neg (by rw [h]; decide), List.append_nil] at hos
    (repeat (first | refine FW.region ?_ | refine FW.skip ?_ | refine zg.nil ?_ | refine zd rfl rfl rfl ?_ | refine zC rfl rfl (by omega) rfl rfl ?_))
    refine ⟨i + 1, by omega, by omega, ?_⟩
    rw [hos]
    exact (FLe.conv [⟨101, some 101, 0, ⟨0, .own, 3, 1, O.map zp⟩⟩, ⟨111, some 111, 0, ⟨0, .own, 4, 1, S.map yn⟩⟩] (by simp) (by simp) rfl (by repeat (first | exact .nil | refine .low rfl ?_ | refine .same rfl ?_ | refine .bump (Nat.lt_succ_self _) ?_)) (by repeat (first | exact .nil | refine .old rfl (by decide) (by first | rfl | (simp; done) | (congr 1; omega) | (simp; omega) | (simp [List.take_of_length_le]; done) | (refine congrArg (FV.int .i64) ?_; omega)) ?_)) (by repeat (first | exact .nil | refine .cons (.plain rfl rfl (by first | rfl | (simp; done) | (congr 1; omega) | (simp; omega) | (simp [List.take_of_length_le]; done) | (refine congrArg (FV.int .i64) ?_; omega))) ?_ | refine .cons (.own rfl (.head _) rfl (by first | rfl | (simp; done) | (congr 1; omega) | (simp; omega) | (simp [List.take_of_length_le]; done) | (refine congrArg (FV.int .i64) ?_; omega))) ?_ | refine .cons (.own rfl (.tail _ (.head _)) rfl (by first | rfl | (simp; done) | (congr 1; omega) | (simp; omega) | (simp [List.take_of_length_le]; done) | (refine congrArg (FV.int .i64) ?_; omega))) ?_)))
  ·have hin' : i = n := by simp at h; omega
   rw [hlast hin']
   (repeat (first | refine FW.seq ?_ | refine FW.region ?_ | refine FW.exit ?_ | refine zg.nil ?_ | refine zf rfl rfl rfl ?_ | refine zd rfl rfl rfl ?_))
   refine FW.le ?_ (FLe.share 6 rfl rfl (by simp))
   exact FW.ret ⟨.inl rfl, .sh (.cons (.tmp 6 rfl rfl) .nil) rfl rfl⟩
end Go.Proofs.Ythjplkjpehdpfaa
