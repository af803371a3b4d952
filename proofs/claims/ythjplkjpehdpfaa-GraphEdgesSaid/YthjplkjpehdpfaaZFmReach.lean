/-
  The contract of graph.Reach.
-/
import Derived.Test.YthjplkjpehdpfaaZFmCyc2
import Derived.Test.YthjplkjpehdpfaaZL
import Derived.Test.YthjplkjpehdpfaaZReachPlain
namespace Go.Proofs.Ythjplkjpehdpfaa
set_option linter.unusedVariables false
open Go.RowKit

def yn (b : Bool) : List FV := [.bool b]
def zdd (n : Nat) (E : List (Nat × Nat)) (q p : Nat) : List FV := [.eptr 1 [[.int .i64 n]] 0 0, .ptr 5000 q 0 0, .eptr 1 [[.list 1 ((zp n E).map yK)]] 0 0, .ptr 5002 p 0 0]
def XG (q v n : Nat) : zg := ⟨q, .hrow, 44, 1, [[.own 5001 v 0 n]]⟩
def zdn (v : Nat) (s : List Bool) : zg := ⟨v, .own, 4, 1, s.map yn⟩
def Yq (n : Nat) (E : List (Nat × Nat)) (q p : Nat) : zg := ⟨p, .hrow, 45, 1, [[.wrap (.fn 37) (zdd n E q p)]]⟩
theorem zdQ {n q v p : Nat} {E : List (Nat × Nat)} {res : FV} {o : Nat → zg} {s s' : List Bool} (hr : res.cl [5000, 5001, 5002] = true) (h0 : o 5000 = XG q v n) (h1 : o 5001 = zdn v s') (h2 : o 5002 = Yq n E q p) : Zh [(5000, XG q v n), (5001, zdn v s), (5002, Yq n E q p)] [] res o where
 old k hk hl := by
  simp at hk
  rcases hk with rfl | rfl | rfl
  ·rw [h0]; exact ⟨rfl, rfl, rfl⟩
  ·rw [h1]; exact ⟨rfl, rfl, rfl⟩
  ·rw [h2]; exact ⟨rfl, rfl, rfl⟩
 new k hk := by cases hk
 cl k hk := by
  simp at hk
  rcases hk with rfl | rfl | rfl
  ·rw [h0]; rfl
  ·rw [h1]; rfl
  ·rw [h2]; rfl
 res := hr
theorem Un {E : List (Nat × Nat)} {k : Nat} {s : List Bool} {x : Int} (h : x < 0 ∨ (s.length : Int) ≤ x ∨ nth s x.toNat = true) : xS E k s x = s := by
 cases k with
 | zero => rfl
 | succ k => exact if_pos h
set_option maxHeartbeats 4000000 in
theorem Uf (n : Nat) (E : List (Nat × Nat)) (q v p : Nat) (hn : n ≤ 1000) (hE : E.length ≤ 100000) (hin : InN n E) (k : Nat) (ih : ∀ k', k' + 1 = k → ∀ (s : List Bool) (x : Int), s.length = n → unseen s ≤ k' → zY Try.prog 37 ([.int .i64 x] ++ zdd n E q p) [(5000, XG q v n), (5001, zdn v s), (5002, Yq n E q p)] [] (fun res o => res = .tup [] ∧ o 5000 = XG q v n ∧ o 5001 = zdn v (xS E k' s x) ∧ o 5002 = Yq n E q p)) (s : List Bool) (x : Int) (hl : s.length = n) (hu : unseen s ≤ k) :
  zY Try.prog 37 ([.int .i64 x] ++ zdd n E q p) [(5000, XG q v n), (5001, zdn v s), (5002, Yq n E q p)] [] (fun res o => res = .tup [] ∧ o 5000 = XG q v n ∧ o 5001 = zdn v (xS E k s x) ∧ o 5002 = Yq n E q p) := by
 refine zY.of_body (c := (xm Try.prog zw zn 37)) ⟨Try.func37, rfl, Try.ntmps37, by kernel_rfl⟩ (by exact Nat.le_of_ble_eq_true rfl) ?_ ?_
 ·rintro res o ⟨rfl, h0, h1, h2⟩; exact zdQ rfl h0 h1 h2
 change FW _ _ _ ⟨[(0, .int .i64 x), (1, .eptr 1 [[.int .i64 n]] 0 0), (2, .ptr 5000 q 0 0), (3, .eptr 1 [[.list 1 ((zp n E).map yK)]] 0 0), (4, .ptr 5002 p 0 0)], [(5000, XG q v n), (5001, zdn v s), (5002, Yq n E q p)]⟩
 (repeat (first | refine FW.seq ?_ | refine FW.region ?_ | refine zb rfl rfl rfl ?_ | refine zP rfl rfl rfl rfl ?_))
 refine yP (fun h1 => ?_) (fun h1 => ?_)
 ·rw [Un (.inl (by simpa using h1))]
  (repeat (first | refine FW.condT rfl ?_ | refine zd.nil ?_ | refine zb rfl rfl rfl ?_ | refine yb rfl rfl rfl rfl ?_ | refine yQ rfl rfl ⟨_, _, rfl, rfl, rfl⟩ ?_))
  exact FW.ret ⟨.inl rfl, _, .plain .nil rfl rfl, rfl, rfl, rfl, rfl⟩
 ·(repeat (first | refine zb rfl rfl rfl ?_ | refine zX rfl rfl rfl rfl ?_ | refine zb rfl rfl ⟨_, _, rfl, rfl, rfl⟩ ?_ | refine zC rfl rfl rfl (by first | omega | (simp; omega) | (simp; done)) (by first | exact zf (by omega) | rfl) rfl rfl rfl ⟨_, _, rfl, rfl, rfl⟩ ?_ | refine VS rfl rfl rfl ⟨_, _, rfl, rfl, rfl⟩ ?_))
  refine yP (fun h2 => ?_) (fun h2 => ?_)
  ·rw [Un (.inr (.inl (by simp at h2; omega)))]
   (repeat (first | refine FW.condT rfl ?_ | refine zd.nil ?_ | refine yb rfl rfl rfl rfl ?_ | refine yQ rfl rfl ⟨_, _, rfl, rfl, rfl⟩ ?_))
   exact FW.ret ⟨.inl rfl, _, .plain .nil rfl rfl, rfl, rfl, rfl, rfl⟩
  ·obtain ⟨u, rfl⟩ : ∃ u : Nat, x = u := ⟨x.toNat, by simp at h1; omega⟩
   have hun : u < n := by simp at h2; omega
   clear h1 h2
   have hrn := yL E hun
   have hrl := zI n E
   have hsl := xE E u
   unfold XG zdn
   (repeat (first | refine zd.nil ?_ | refine zX rfl rfl rfl rfl ?_ | refine zb rfl rfl ⟨_, _, rfl, rfl, rfl⟩ ?_ | refine zG rfl rfl rfl rfl rfl (by first | omega | (simp; omega) | (simp; done)) (by first | exact zf (by omega) | rfl) rfl rfl rfl ⟨_, _, rfl, rfl, rfl⟩ ?_ | refine zJ rfl rfl rfl rfl rfl rfl ⟨_, _, rfl, rfl, rfl⟩ ?_ | refine zE rfl rfl (by first | rfl | exact (Int.toNat_of_nonneg (by omega)).symm) rfl rfl rfl (by decide) rfl (by first | omega | (simp; omega) | (simp; done)) rfl ⟨_, _, rfl, rfl, rfl⟩ ?_))
   refine FW.cond rfl (fun h3 => ?_) (fun h3 => ?_)
   ·rw [Un (.inr (.inr (by rw [Int.toNat_natCast]; exact h3)))]
    skip
    exact FW.ret ⟨.inl rfl, _, .plain .nil rfl rfl, rfl, rfl, rfl, rfl⟩
   ·have hus := Ue (by omega) h3
    obtain ⟨k', rfl⟩ : ∃ k', k' + 1 = k := ⟨k - 1, by omega⟩
    have hd : xS E (k' + 1) s u = (zi E u).foldl (xS E k') (s.set u true) := by
     show (if _ then _ else _) = _
     rw [if_neg (by rintro (e | e | e); omega; omega; rw [Int.toNat_natCast, h3] at e; cases e), Int.toNat_natCast]
    rw [hd]
    have ih := ih k' rfl
    obtain ⟨S, hS⟩ : ∃ S, s.set u true = S := ⟨_, rfl⟩
    have hSl : S.length = n := by rw [← hS, List.length_set]; exact hl
    rw [hS] at hus ⊢
    refine FW.skip ?_
    (repeat (first | refine FW.seq ?_ | refine FW.region ?_ | refine FW.block ?_ | refine zd.nil ?_ | refine zb rfl rfl rfl ?_ | refine zC rfl rfl rfl (by first | omega | (simp; omega) | (simp; done)) (by first | exact zf (by omega) | rfl) rfl rfl rfl rfl ?_ | refine zJ rfl rfl rfl rfl rfl rfl rfl ?_ | refine zy rfl rfl (by first | rfl | exact (Int.toNat_of_nonneg (by omega)).symm) rfl rfl rfl (by first | omega | (simp; omega) | (simp; done)) rfl rfl ?_ | refine zE rfl rfl (by first | rfl | exact (Int.toNat_of_nonneg (by omega)).symm) rfl rfl rfl (by decide) rfl (by first | omega | (simp; omega) | (simp; done)) rfl rfl ?_ | refine xf rfl rfl rfl rfl rfl rfl (by first | omega | (simp; omega) | (simp; done)) (by first | exact zf (by omega) | rfl) rfl rfl rfl ?_ | refine zA rfl rfl (by first | exact List.length_map _ | exact (List.length_map _).symm | exact List.length_replicate | rfl | (simp; done) | omega | (simp; omega)) rfl rfl ?_))
    rw [show (yn (nth s u)).set 0 (.bool true) = yn true from rfl, ← List.map_set, hS]
    skip
    rw [hrn]
    skip
    refine FW.loop (fun j : Nat => ⟨[(4, .ptr 5002 p 0 0), (27, .list 1 ((zi E u).map zt)), (28, .int .i64 (zi E u).length), (29, .int .i64 j)], [(5000, ⟨q, .hrow, 44, 1, [[.own 5001 v 0 n]]⟩), (5001, ⟨v, .own, 4, 1, (((zi E u).take j).foldl (xS E k') S).map yn⟩), (5002, Yq n E q p)]⟩) (fun j => j ≤ (zi E u).length) (fun j => (zi E u).length - j) 0 (Nat.zero_le _) ?_ ?_
    ·show FLe _ ⟨[(4, .ptr 5002 p 0 0), (27, .list 1 ((zi E u).map zt)), (28, .int .i64 (zi E u).length), (29, .int .i64 0)], [(5000, ⟨q, .hrow, 44, 1, [[.own 5001 v 0 n]]⟩), (5001, ⟨v, .own, 4, 1, S.map yn⟩), (5002, Yq n E q p)]⟩
     unfold Yq zdd
     exact (FLe.cv [⟨5000, some 5000, q, ⟨q, .hrow, 44, 1, [[.own 5001 v 0 n]]⟩⟩, ⟨5001, some 5001, v, ⟨v, .own, 4, 1, S.map yn⟩⟩, ⟨5002, some 5002, p, ⟨p, .hrow, 45, 1, [[.wrap (.fn 37) [.eptr 1 [[.int .i64 n]] 0 0, .ptr 5000 q 0 0, .eptr 1 [[.list 1 ((zp n E).map yK)]] 0 0, .ptr 5002 p 0 0]]]⟩⟩] (by repeat (first | exact .nil | refine .old rfl (by decide) (by first | rfl | (simp; done) | (congr 1; omega) | (simp; omega) | (simp [List.take_of_length_le]; done) | (refine congrArg (FV.int .i64) ?_; omega)) ?_ | refine .oldH rfl (by repeat (first | exact .nil | refine .cons (.own (.tail _ (.head _)) rfl (by first | rfl | (simp; done) | (congr 1; omega) | (simp; omega) | (simp [List.take_of_length_le]; done) | (refine congrArg (FV.int .i64) ?_; omega)) (by first | rfl | (simp; done) | (congr 1; omega) | (simp; omega) | (simp [List.take_of_length_le]; done) | (refine congrArg (FV.int .i64) ?_; omega))) ?_ | refine .cons (.wrap (by repeat (first | exact za.nil | refine za.cons (.plain rfl rfl) ?_ | refine za.cons (.ptr (.head _) rfl) ?_ | refine za.cons (.own (.head _) rfl rfl rfl) ?_ | refine za.cons (.omap (.head _) rfl) ?_ | refine za.cons (.ptr (.tail _ (.head _)) rfl) ?_ | refine za.cons (.own (.tail _ (.head _)) rfl rfl rfl) ?_ | refine za.cons (.omap (.tail _ (.head _)) rfl) ?_ | refine za.cons (.ptr (.tail _ (.tail _ (.head _))) rfl) ?_ | refine za.cons (.own (.tail _ (.tail _ (.head _))) rfl rfl rfl) ?_ | refine za.cons (.omap (.tail _ (.tail _ (.head _))) rfl) ?_))) ?_)) ?_)) (by repeat (first | exact .nil | refine .cons (.plain rfl rfl (by first | rfl | (simp; done) | (congr 1; omega) | (simp; omega) | (simp [List.take_of_length_le]; done) | (refine congrArg (FV.int .i64) ?_; omega))) ?_ | refine .cons (.ptr rfl (.tail _ (.tail _ (.head _))) rfl) ?_)))
    intro j hj
    have hst : ∀ hlt : j < (zi E u).length, ((zi E u).take (j + 1)).foldl (xS E k') S = xS E k' (((zi E u).take j).foldl (xS E k') S) (nth (zi E u) j) := fun hlt => by
     rw [List.take_succ_eq_append_getElem hlt, List.foldl_append, ← nth_eq hlt]; rfl
    have hend : j = (zi E u).length → (zi E u).foldl (xS E k') S = ((zi E u).take j).foldl (xS E k') S := fun e => by rw [e, List.take_length]
    have hZl : (((zi E u).take j).foldl (xS E k') S).length = n ∧ unseen (((zi E u).take j).foldl (xS E k') S) ≤ k' := by
     have : ∀ (r : List Int) (a : List Bool), a.length = n → unseen a ≤ k' → (r.foldl (xS E k') a).length = n ∧ unseen (r.foldl (xS E k') a) ≤ k' := by
      intro r
      induction r with
      | nil => intro a h1 h2; exact ⟨h1, h2⟩
      | cons y r ihr =>
       intro a h1 h2
       exact ihr _ (by rw [Um]; exact h1) (Nat.le_trans (zdv hin k' a y h1 h2).1.ext.unseen h2)
     exact this _ S hSl (by omega)
    generalize ((zi E u).take j).foldl (xS E k') S = Z at hst hend hZl
    (repeat (first | refine FW.seq ?_ | refine FW.region ?_ | refine zd.nil ?_ | refine zP rfl rfl rfl rfl ?_))
    refine FW.cond rfl (fun h4 => ?_) (fun h4 => ?_)
    ·have hlt : j < (zi E u).length := by simpa using h4
     clear h4 hend
     have hst := hst hlt
     obtain ⟨w, hw⟩ : ∃ w, nth (zi E u) j = w := ⟨_, rfl⟩
     rw [hw] at hst
     unfold Yq
     (repeat (first | refine FW.seq ?_ | refine FW.region ?_ | refine FW.block ?_ | refine FW.skip ?_ | refine zd.nil ?_ | refine zb rfl rfl rfl ?_ | refine zC rfl rfl rfl (by first | omega | (simp; omega) | (simp; done)) (by first | exact zf (by omega) | rfl) rfl rfl rfl rfl ?_ | refine zJ rfl rfl rfl rfl rfl rfl rfl ?_ | refine zy rfl rfl (by first | rfl | exact (Int.toNat_of_nonneg (by omega)).symm) rfl rfl rfl (by first | omega | (simp; omega) | (simp; done)) rfl rfl ?_ | refine zc rfl rfl rfl ?_))
     rw [hw]
     refine xY rfl (ih Z w hZl.1 hZl.2) [(5000, 5000), (5001, 5001), (5002, 5002)] rfl (zh.cons rfl rfl rfl (zh.cons rfl rfl rfl (zh.cons rfl rfl rfl zh.nil))) rfl rfl rfl rfl rfl rfl ?_
     rintro _ ob' ⟨rfl, h0, h1, h2⟩
     refine yd.one [(5000, XG q v n), (5001, zdn v (xS E k' Z w)), (5002, Yq n E q p)] (.tup []) rfl (by show [(5000, zg.ren _ (look {} ob' 5000)), (5001, zg.ren _ (look {} ob' 5001)), (5002, zg.ren _ (look {} ob' 5002))] = _; rw [h0, h1, h2]; rfl) ?_
     clear h0 h1 h2 ob'
     (repeat (first | refine FW.region ?_ | refine zd.nil ?_ | refine zb rfl rfl rfl ?_ | refine zB rfl rfl (by omega) rfl rfl ?_))
     refine ⟨j + 1, by omega, by omega, ?_⟩
     rw [hst]
     generalize xS E k' Z w = Y
     unfold XG zdn Yq zdd
     exact (FLe.cv [⟨5000, some 5000, q, ⟨q, .hrow, 44, 1, [[.own 5001 v 0 n]]⟩⟩, ⟨5001, some 5001, v, ⟨v, .own, 4, 1, Y.map yn⟩⟩, ⟨5002, some 5002, p, ⟨p, .hrow, 45, 1, [[.wrap (.fn 37) [.eptr 1 [[.int .i64 n]] 0 0, .ptr 5000 q 0 0, .eptr 1 [[.list 1 ((zp n E).map yK)]] 0 0, .ptr 5002 p 0 0]]]⟩⟩] (by repeat (first | exact .nil | refine .old rfl (by decide) (by first | rfl | (simp; done) | (congr 1; omega) | (simp; omega) | (simp [List.take_of_length_le]; done) | (refine congrArg (FV.int .i64) ?_; omega)) ?_ | refine .oldH rfl (by repeat (first | exact .nil | refine .cons (.own (.tail _ (.head _)) rfl (by first | rfl | (simp; done) | (congr 1; omega) | (simp; omega) | (simp [List.take_of_length_le]; done) | (refine congrArg (FV.int .i64) ?_; omega)) (by first | rfl | (simp; done) | (congr 1; omega) | (simp; omega) | (simp [List.take_of_length_le]; done) | (refine congrArg (FV.int .i64) ?_; omega))) ?_ | refine .cons (.wrap (by repeat (first | exact za.nil | refine za.cons (.plain rfl rfl) ?_ | refine za.cons (.ptr (.head _) rfl) ?_ | refine za.cons (.own (.head _) rfl rfl rfl) ?_ | refine za.cons (.omap (.head _) rfl) ?_ | refine za.cons (.ptr (.tail _ (.head _)) rfl) ?_ | refine za.cons (.own (.tail _ (.head _)) rfl rfl rfl) ?_ | refine za.cons (.omap (.tail _ (.head _)) rfl) ?_ | refine za.cons (.ptr (.tail _ (.tail _ (.head _))) rfl) ?_ | refine za.cons (.own (.tail _ (.tail _ (.head _))) rfl rfl rfl) ?_ | refine za.cons (.omap (.tail _ (.tail _ (.head _))) rfl) ?_))) ?_)) ?_)) (by repeat (first | exact .nil | refine .cons (.plain rfl rfl (by first | rfl | (simp; done) | (congr 1; omega) | (simp; omega) | (simp [List.take_of_length_le]; done) | (refine congrArg (FV.int .i64) ?_; omega))) ?_ | refine .cons (.ptr rfl (.tail _ (.tail _ (.head _))) rfl) ?_)))
    ·have hje : j = (zi E u).length := by simp at h4; omega
     rw [hend hje]
     (repeat (first | refine FW.exit ?_))
     exact ⟨.inr rfl, _, .plain .nil rfl rfl, rfl, rfl, rfl, rfl⟩
theorem WZ (n : Nat) (E : List (Nat × Nat)) (q v p : Nat) (hn : n ≤ 1000) (hE : E.length ≤ 100000) (hin : InN n E) : ∀ (k : Nat) (s : List Bool) (x : Int), s.length = n → unseen s ≤ k → zY Try.prog 37 ([.int .i64 x] ++ zdd n E q p) [(5000, XG q v n), (5001, zdn v s), (5002, Yq n E q p)] [] (fun res o => res = .tup [] ∧ o 5000 = XG q v n ∧ o 5001 = zdn v (xS E k s x) ∧ o 5002 = Yq n E q p)
 | 0 => Uf n E q v p hn hE hin 0 fun k' e => by omega
 | k + 1 => Uf n E q v p hn hE hin (k + 1) fun k' e => by
  have e2 : k' = k := by omega
  subst e2
  exact WZ n E q v p hn hE hin k'
def YJ (s : List Bool) (k : Nat) : List Int := ((List.range k).filter fun v => nth s v).map fun v : Nat => (v : Int)
theorem Xe (s : List Bool) (k : Nat) : YJ s (k + 1) = YJ s k ++ if nth s k = true then [(k : Int)] else [] := by
 unfold YJ
 rw [List.range_succ, List.filter_append, List.map_append]
 congr 1
 by_cases e : nth s k = true
 ·simp [e]
 ·simp [e]
theorem zav (s : List Bool) (k : Nat) : (YJ s k).length ≤ k := by
 unfold YJ
 rw [List.length_map]
 exact Nat.le_trans (List.length_filter_le _ _) (by simp)
def Wf (n : Nat) (E : List (Nat × Nat)) (from_ : List Int) : List Int := YJ (yG n E from_ from_.length) n
set_option maxHeartbeats 4000000 in
theorem VN (n : Nat) (E : List (Nat × Nat)) (fr : List Int) (hn : n ≤ 1000) (hE : E.length ≤ 100000) (hin : InN n E) (hf : fr.length ≤ 9223372036854775807) : yj Try.prog 18 [.int .i64 n, .list 2 (E.map edf), .list 1 (fr.map zt)] .sh (.list 1 ((Wf n E fr).map zt)) := by
 refine yj.of_body (c := (xm Try.prog zw zn 45)) ⟨Try.func18, rfl, Try.ntmps18, by kernel_rfl⟩ (by simp [FV.hand]) (by exact Nat.le_of_ble_eq_true rfl) rfl ?_
 change FW _ _ _ ⟨[(0, .int .i64 n), (1, .list 2 (E.map edf)), (2, .list 1 (fr.map zt))], []⟩
 (repeat (first | refine FW.seq ?_ | refine FW.region ?_ | refine zd.nil ?_ | refine zea rfl rfl rfl rfl rfl ?_ | refine zc rfl rfl rfl ?_ | refine zG rfl rfl rfl rfl rfl (by first | omega | (simp; omega) | (simp; done)) (by first | exact zf (by omega) | rfl) rfl rfl rfl rfl ?_ | refine zb rfl rfl rfl ?_))
 refine yc (yu n E (by omega) (by omega) hin) (by repeat (first | exact zu.nil | refine zu.cons (by first | exact yU.plain rfl rfl) ?_)) rfl rfl ?_
 rw [YN]
 (repeat (first | refine FW.seq ?_ | refine FW.region ?_ | refine zd.nil ?_ | refine zG rfl rfl rfl rfl rfl (by first | omega | (simp; omega) | (simp; done)) (by first | exact zf (by omega) | rfl) rfl rfl rfl rfl ?_ | refine xa rfl rfl rfl rfl rfl rfl rfl ?_ | refine yr rfl rfl rfl rfl rfl rfl rfl rfl rfl ?_ | refine WL rfl (by first | rfl | exact (Int.toNat_of_nonneg (by omega)).symm) rfl (by first | rfl | exact (Int.toNat_of_nonneg (by omega)).symm) rfl rfl rfl rfl (by first | omega | (simp; omega) | (simp; done)) (by first | omega | (simp; omega) | (simp; done)) rfl rfl rfl ?_))
 rw [show List.replicate n [FV.bool false] = (List.replicate n false).map yn by rw [List.map_replicate]; rfl]
 refine zd.le ?_ (FLe.toH (i := 8) rfl)
 (repeat (first | refine FW.seq ?_ | refine FW.region ?_ | refine zd.nil ?_ | refine xp rfl rfl rfl rfl rfl rfl (by decide) (by first | omega | (simp; omega) | (simp; done)) rfl ?_))
 refine WH rfl rfl rfl rfl rfl ?_
 refine zd.le ?_ ((FLe.shareP 3 rfl rfl).trans (FLe.shareP 7 rfl rfl))
 (repeat (first | refine FW.seq ?_ | refine FW.region ?_ | refine FW.block ?_ | refine zd.nil ?_ | refine zb rfl rfl rfl ?_ | refine VV rfl rfl rfl rfl rfl (by first | omega | (simp; omega) | (simp; done)) rfl ?_ | refine Xj rfl rfl rfl rfl ?_ | refine zA rfl rfl (by first | exact List.length_map _ | exact (List.length_map _).symm | exact List.length_replicate | rfl | (simp; done) | omega | (simp; omega)) rfl rfl ?_))
 refine FW.loop (fun j : Nat => ⟨[(8, .ptr 110 0 0 0), (9, .ptr 112 0 0 0), (21, .list 1 (fr.map zt)), (22, .int .i64 fr.length), (23, .int .i64 j)], [(110, ⟨0, .hrow, 44, 1, [[.own 111 0 0 n]]⟩), (111, ⟨0, .own, 4, 1, (yG n E fr j).map yn⟩), (112, ⟨0, .hrow, 45, 1, [[.wrap (.fn 37) [.eptr 1 [[.int .i64 n]] 0 0, .ptr 110 0 0 0, .eptr 1 [[.list 1 ((zp n E).map yK)]] 0 0, .ptr 112 0 0 0]]]⟩)]⟩) (fun j => j ≤ fr.length) (fun j => fr.length - j) 0 (Nat.zero_le _) ?_ ?_
 ·show FLe _ ⟨[(8, .ptr 110 0 0 0), (9, .ptr 112 0 0 0), (21, .list 1 (fr.map zt)), (22, .int .i64 fr.length), (23, .int .i64 0)], [(110, ⟨0, .hrow, 44, 1, [[.own 111 0 0 n]]⟩), (111, ⟨0, .own, 4, 1, (List.replicate n false).map yn⟩), (112, ⟨0, .hrow, 45, 1, [[.wrap (.fn 37) [.eptr 1 [[.int .i64 n]] 0 0, .ptr 110 0 0 0, .eptr 1 [[.list 1 ((zp n E).map yK)]] 0 0, .ptr 112 0 0 0]]]⟩)]⟩
  obtain ⟨Z, hZ⟩ : ∃ Z, (List.replicate n false).map yn = Z := ⟨_, rfl⟩
  rw [hZ]
  exact (FLe.cv [⟨110, some 8, 0 + 1, ⟨0, .hrow, 44, 1, [[.own 111 0 0 n]]⟩⟩, ⟨111, some 19, 0 + 1, ⟨0, .own, 4, 1, Z⟩⟩, ⟨112, some 9, 0 + 1, ⟨0, .hrow, 45, 1, [[.wrap (.fn 37) [.eptr 1 [[.int .i64 n]] 0 0, .ptr 110 0 0 0, .eptr 1 [[.list 1 ((zp n E).map yK)]] 0 0, .ptr 112 0 0 0]]]⟩⟩] (by repeat (first | exact .nil | refine .old rfl (by decide) (by first | rfl | (simp; done) | (congr 1; omega) | (simp; omega) | (simp [List.take_of_length_le]; done) | (refine congrArg (FV.int .i64) ?_; omega)) ?_ | refine .oldH rfl (by repeat (first | exact .nil | refine .cons (.own (.tail _ (.head _)) rfl (by first | rfl | (simp; done) | (congr 1; omega) | (simp; omega) | (simp [List.take_of_length_le]; done) | (refine congrArg (FV.int .i64) ?_; omega)) (by first | rfl | (simp; done) | (congr 1; omega) | (simp; omega) | (simp [List.take_of_length_le]; done) | (refine congrArg (FV.int .i64) ?_; omega))) ?_ | refine .cons (.wrap (by repeat (first | exact za.nil | refine za.cons (.plain rfl rfl) ?_ | refine za.cons (.ptr (.head _) rfl) ?_ | refine za.cons (.own (.head _) rfl rfl rfl) ?_ | refine za.cons (.omap (.head _) rfl) ?_ | refine za.cons (.ptr (.tail _ (.head _)) rfl) ?_ | refine za.cons (.own (.tail _ (.head _)) rfl rfl rfl) ?_ | refine za.cons (.omap (.tail _ (.head _)) rfl) ?_ | refine za.cons (.ptr (.tail _ (.tail _ (.head _))) rfl) ?_ | refine za.cons (.own (.tail _ (.tail _ (.head _))) rfl rfl rfl) ?_ | refine za.cons (.omap (.tail _ (.tail _ (.head _))) rfl) ?_))) ?_)) ?_)) (by repeat (first | exact .nil | refine .cons (.plain rfl rfl (by first | rfl | (simp; done) | (congr 1; omega) | (simp; omega) | (simp [List.take_of_length_le]; done) | (refine congrArg (FV.int .i64) ?_; omega))) ?_ | refine .cons (.ptr rfl (.head _) rfl) ?_ | refine .cons (.ptr rfl (.tail _ (.tail _ (.head _))) rfl) ?_)))
 intro j hj
 have hSl : (yG n E fr j).length = n := by
  unfold yG
  have : ∀ (r : List Int) (b : List Bool), (r.foldl (xS E n) b).length = b.length := by
   intro r
   induction r with
   | nil => intro b; rfl
   | cons y r ihr => intro b; rw [List.foldl_cons, ihr, Um]
  rw [this]; simp
 have hst : ∀ h : j < fr.length, yG n E fr (j + 1) = xS E n (yG n E fr j) (nth fr j) := fun h => by
  unfold yG
  rw [List.take_succ_eq_append_getElem h, List.foldl_append, ← nth_eq h]; rfl
 have hgr : j = fr.length → Wf n E fr = YJ (yG n E fr j) n := fun e => by rw [e]; rfl
 generalize yG n E fr j = S at hSl hst hgr
 have hun := zaN S
 (repeat (first | refine FW.seq ?_ | refine FW.region ?_ | refine zd.nil ?_ | refine zP rfl rfl rfl rfl ?_))
 refine FW.cond rfl (fun h => ?_) (fun h => ?_)
 ·have hlt : j < fr.length := by simpa using h
  clear h hgr
  have hst := hst hlt
  obtain ⟨x, hx⟩ : ∃ x, nth fr j = x := ⟨_, rfl⟩
  rw [hx] at hst
  (repeat (first | refine FW.seq ?_ | refine FW.region ?_ | refine FW.block ?_ | refine FW.skip ?_ | refine zd.nil ?_ | refine zc rfl rfl rfl ?_ | refine zC rfl rfl rfl (by first | omega | (simp; omega) | (simp; done)) (by first | exact zf (by omega) | rfl) rfl rfl rfl rfl ?_ | refine zJ rfl rfl rfl rfl rfl rfl rfl ?_ | refine zb rfl rfl rfl ?_ | refine zy rfl rfl (by first | rfl | exact (Int.toNat_of_nonneg (by omega)).symm) rfl rfl rfl (by first | omega | (simp; omega) | (simp; done)) rfl rfl ?_))
  rw [hx]
  refine xY rfl (WZ n E 0 0 0 hn hE hin n S x hSl (by omega)) [(5000, 110), (5001, 111), (5002, 112)] rfl (zh.cons rfl rfl rfl (zh.cons rfl rfl rfl (zh.cons rfl rfl rfl zh.nil))) rfl rfl rfl rfl rfl rfl ?_
  rintro _ ob' ⟨rfl, h0, h1, h2⟩
  refine yd.one [(110, ⟨0, .hrow, 44, 1, [[.own 111 0 0 n]]⟩), (111, ⟨0, .own, 4, 1, (xS E n S x).map yn⟩), (112, ⟨0, .hrow, 45, 1, [[.wrap (.fn 37) [.eptr 1 [[.int .i64 n]] 0 0, .ptr 110 0 0 0, .eptr 1 [[.list 1 ((zp n E).map yK)]] 0 0, .ptr 112 0 0 0]]]⟩)] (.tup []) rfl (by show [(110, zg.ren _ (look {} ob' 5000)), (111, zg.ren _ (look {} ob' 5001)), (112, zg.ren _ (look {} ob' 5002))] = _; rw [h0, h1, h2]; rfl) ?_
  clear h0 h1 h2 ob'
  (repeat (first | refine FW.region ?_ | refine zd.nil ?_ | refine zb rfl rfl rfl ?_ | refine zB rfl rfl (by omega) rfl rfl ?_))
  refine ⟨j + 1, by omega, by omega, ?_⟩
  rw [hst]
  generalize xS E n S x = Y
  exact (FLe.cv [⟨110, some 110, 0, ⟨0, .hrow, 44, 1, [[.own 111 0 0 n]]⟩⟩, ⟨111, some 111, 0, ⟨0, .own, 4, 1, Y.map yn⟩⟩, ⟨112, some 112, 0, ⟨0, .hrow, 45, 1, [[.wrap (.fn 37) [.eptr 1 [[.int .i64 n]] 0 0, .ptr 110 0 0 0, .eptr 1 [[.list 1 ((zp n E).map yK)]] 0 0, .ptr 112 0 0 0]]]⟩⟩] (by repeat (first | exact .nil | refine .old rfl (by decide) (by first | rfl | (simp; done) | (congr 1; omega) | (simp; omega) | (simp [List.take_of_length_le]; done) | (refine congrArg (FV.int .i64) ?_; omega)) ?_ | refine .oldH rfl (by repeat (first | exact .nil | refine .cons (.own (.tail _ (.head _)) rfl (by first | rfl | (simp; done) | (congr 1; omega) | (simp; omega) | (simp [List.take_of_length_le]; done) | (refine congrArg (FV.int .i64) ?_; omega)) (by first | rfl | (simp; done) | (congr 1; omega) | (simp; omega) | (simp [List.take_of_length_le]; done) | (refine congrArg (FV.int .i64) ?_; omega))) ?_ | refine .cons (.wrap (by repeat (first | exact za.nil | refine za.cons (.plain rfl rfl) ?_ | refine za.cons (.ptr (.head _) rfl) ?_ | refine za.cons (.own (.head _) rfl rfl rfl) ?_ | refine za.cons (.omap (.head _) rfl) ?_ | refine za.cons (.ptr (.tail _ (.head _)) rfl) ?_ | refine za.cons (.own (.tail _ (.head _)) rfl rfl rfl) ?_ | refine za.cons (.omap (.tail _ (.head _)) rfl) ?_ | refine za.cons (.ptr (.tail _ (.tail _ (.head _))) rfl) ?_ | refine za.cons (.own (.tail _ (.tail _ (.head _))) rfl rfl rfl) ?_ | refine za.cons (.omap (.tail _ (.tail _ (.head _))) rfl) ?_))) ?_)) ?_)) (by repeat (first | exact .nil | refine .cons (.plain rfl rfl (by first | rfl | (simp; done) | (congr 1; omega) | (simp; omega) | (simp [List.take_of_length_le]; done) | (refine congrArg (FV.int .i64) ?_; omega))) ?_ | refine .cons (.ptr rfl (.head _) rfl) ?_ | refine .cons (.ptr rfl (.tail _ (.tail _ (.head _))) rfl) ?_)))
 ·have hje : j = fr.length := by simp at h; omega
  rw [hgr hje]
  clear h hgr hst hun
  (repeat (first | refine FW.seq ?_ | refine FW.region ?_ | refine FW.block ?_ | refine FW.exit ?_ | refine zd.nil ?_ | refine zc rfl rfl rfl ?_ | refine zJ rfl rfl rfl rfl rfl rfl rfl ?_ | refine zb rfl rfl rfl ?_ | refine yl rfl rfl rfl (by decide) rfl rfl ?_))
  refine FW.loop (fun i : Nat => ⟨[(12, .own 101 0 0 (YJ S i).length), (31, .own 111 0 0 n), (32, .int .i64 n), (33, .int .i64 i)], [(101, ⟨0, .own, 3, 1, (YJ S i).map zt⟩), (111, ⟨0, .own, 4, 1, S.map yn⟩)]⟩) (fun i => i ≤ n) (fun i => n - i) 0 (Nat.zero_le _) ?_ ?_
  ·show FLe _ ⟨[(12, .own 101 0 0 0), (31, .own 111 0 0 n), (32, .int .i64 n), (33, .int .i64 0)], [(101, ⟨0, .own, 3, 1, []⟩), (111, ⟨0, .own, 4, 1, S.map yn⟩)]⟩
   exact (FLe.cv [⟨101, none, 0, ⟨0, .own, 3, 1, []⟩⟩, ⟨111, some 111, 0, ⟨0, .own, 4, 1, S.map yn⟩⟩] (by repeat (first | exact .nil | refine .old rfl (by decide) (by first | rfl | (simp; done) | (congr 1; omega) | (simp; omega) | (simp [List.take_of_length_le]; done) | (refine congrArg (FV.int .i64) ?_; omega)) ?_ | refine .new ?_)) (by repeat (first | exact .nil | refine .cons (.plain rfl rfl (by first | rfl | (simp; done) | (congr 1; omega) | (simp; omega) | (simp [List.take_of_length_le]; done) | (refine congrArg (FV.int .i64) ?_; omega))) ?_ | refine .cons (.nil rfl (.head _) rfl) ?_ | refine .cons (.own rfl (.tail _ (.head _)) rfl (by first | rfl | (simp; done) | (congr 1; omega) | (simp; omega) | (simp [List.take_of_length_le]; done) | (refine congrArg (FV.int .i64) ?_; omega))) ?_)))
  intro i hi
  have hos := Xe S i
  have hol := zav S i
  have hlast : i = n → YJ S n = YJ S i := fun e => by rw [e]
  generalize YJ S i = O at hos hol hlast
  (repeat (first | refine FW.seq ?_ | refine FW.region ?_ | refine zd.nil ?_ | refine zP rfl rfl rfl rfl ?_))
  refine FW.cond rfl (fun h => ?_) (fun h => ?_)
  ·have hlt : i < n := by simpa using h
   clear h hlast
   (repeat (first | refine FW.seq ?_ | refine FW.region ?_ | refine FW.block ?_ | refine FW.skip ?_ | refine zd.nil ?_ | refine zc rfl rfl rfl ?_ | refine zG rfl rfl rfl rfl rfl (by first | omega | (simp; omega) | (simp; done)) (by first | exact zf (by omega) | rfl) rfl rfl rfl rfl ?_ | refine zb rfl rfl rfl ?_ | refine zE rfl rfl (by first | rfl | exact (Int.toNat_of_nonneg (by omega)).symm) rfl rfl rfl (by decide) rfl (by first | omega | (simp; omega) | (simp; done)) rfl rfl ?_))
   refine FW.cond rfl (fun h => ?_) (fun h => ?_)
   ·rw [if_pos h] at hos
    (repeat (first | refine FW.region ?_ | refine zd.nil ?_ | refine zc rfl rfl rfl ?_ | refine zb rfl rfl rfl ?_ | refine zB rfl rfl (by omega) rfl rfl ?_ | refine yg rfl rfl rfl rfl rfl rfl rfl rfl ?_ | refine Zm rfl rfl (by first | exact List.length_map _ | exact (List.length_map _).symm | exact List.length_replicate | rfl | (simp; done) | omega | (simp; omega)) rfl rfl rfl (by decide) (by first | exact xJ.own rfl rfl (by decide) (by first | exact List.length_map _ | exact (List.length_map _).symm | exact List.length_replicate | rfl | (simp; done) | omega | (simp; omega)) | exact xJ.list rfl | exact xJ.nil rfl | exact xJ.part rfl rfl (by decide)) (by first | omega | (simp; omega) | (simp; done)) (by first | omega | (simp; omega) | (simp; done)) rfl rfl rfl ?_))
    refine ⟨i + 1, by omega, by omega, ?_⟩
    rw [hos, List.length_append, List.map_append]
    exact (FLe.cv [⟨101, some 42, 0 + 1, ⟨0, .own, 3, 1, O.map zt ++ [(i : Int)].map zt⟩⟩, ⟨111, some 111, 0, ⟨0, .own, 4, 1, S.map yn⟩⟩] (by repeat (first | exact .nil | refine .old rfl (by decide) (by first | rfl | (simp; done) | (congr 1; omega) | (simp; omega) | (simp [List.take_of_length_le]; done) | (refine congrArg (FV.int .i64) ?_; omega)) ?_)) (by repeat (first | exact .nil | refine .cons (.plain rfl rfl (by first | rfl | (simp; done) | (congr 1; omega) | (simp; omega) | (simp [List.take_of_length_le]; done) | (refine congrArg (FV.int .i64) ?_; omega))) ?_ | refine .cons (.own rfl (.head _) rfl (by first | rfl | (simp; done) | (congr 1; omega) | (simp; omega) | (simp [List.take_of_length_le]; done) | (refine congrArg (FV.int .i64) ?_; omega))) ?_ | refine .cons (.own rfl (.tail _ (.head _)) rfl (by first | rfl | (simp; done) | (congr 1; omega) | (simp; omega) | (simp [List.take_of_length_le]; done) | (refine congrArg (FV.int .i64) ?_; omega))) ?_)))
   ·rw [if_neg (by rw [h]; decide), List.append_nil] at hos
    (repeat (first | refine FW.region ?_ | refine FW.skip ?_ | refine zd.nil ?_ | refine zb rfl rfl rfl ?_ | refine zB rfl rfl (by omega) rfl rfl ?_))
    refine ⟨i + 1, by omega, by omega, ?_⟩
    rw [hos]
    exact (FLe.cv [⟨101, some 101, 0, ⟨0, .own, 3, 1, O.map zt⟩⟩, ⟨111, some 111, 0, ⟨0, .own, 4, 1, S.map yn⟩⟩] (by repeat (first | exact .nil | refine .old rfl (by decide) (by first | rfl | (simp; done) | (congr 1; omega) | (simp; omega) | (simp [List.take_of_length_le]; done) | (refine congrArg (FV.int .i64) ?_; omega)) ?_)) (by repeat (first | exact .nil | refine .cons (.plain rfl rfl (by first | rfl | (simp; done) | (congr 1; omega) | (simp; omega) | (simp [List.take_of_length_le]; done) | (refine congrArg (FV.int .i64) ?_; omega))) ?_ | refine .cons (.own rfl (.head _) rfl (by first | rfl | (simp; done) | (congr 1; omega) | (simp; omega) | (simp [List.take_of_length_le]; done) | (refine congrArg (FV.int .i64) ?_; omega))) ?_ | refine .cons (.own rfl (.tail _ (.head _)) rfl (by first | rfl | (simp; done) | (congr 1; omega) | (simp; omega) | (simp [List.take_of_length_le]; done) | (refine congrArg (FV.int .i64) ?_; omega))) ?_)))
  ·have hin' : i = n := by simp at h; omega
   rw [hlast hin']
   (repeat (first | refine FW.seq ?_ | refine FW.region ?_ | refine FW.exit ?_ | refine zd.nil ?_ | refine zc rfl rfl rfl ?_ | refine zb rfl rfl rfl ?_))
   refine FW.le ?_ (FLe.share 6 rfl rfl (by simp))
   exact FW.ret ⟨.inl rfl, .sh (.cons (.tmp 6 rfl rfl) .nil) rfl rfl⟩
end Go.Proofs.Ythjplkjpehdpfaa
