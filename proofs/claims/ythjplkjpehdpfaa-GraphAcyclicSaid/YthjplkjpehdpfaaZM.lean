/-
  Some texts as one: FmRef03, TopoRef, FmWalks.
-/
import Derived.Test.YthjplkjpehdpfaaZG
import Derived.Test.YthjplkjpehdpfaaZK
import Derived.Test.YthjplkjpehdpfaaZL
import Derived.Test.YthjplkjpehdpfaaZJ
/-
 The graphs of layer 3 and what its reference asks of them.
-/
namespace Go.Proofs.Ythjplkjpehdpfaa
set_option linter.unusedVariables false
open Go.RowKit

def mkE (n : Nat) (x : Int) : Nat × Nat := ((xe x 1000000).toNat % n, (xe x 1000000).toNat / 97 % n)
def Zh (n : Nat) (l : List Int) : List (Nat × Nat) := if n = 0 then [] else (l.take 18).map (mkE n)
theorem zdm (n : Nat) (l : List Int) : InN n (Zh n l) := fun e he => by
 unfold Zh at he
 split at he
 ·cases he
 ·obtain ⟨x, _, rfl⟩ := List.mem_map.1 he
  exact ⟨Nat.mod_lt _ (by omega), Nat.mod_lt _ (by omega)⟩
theorem Vb (n : Nat) (l : List Int) : (Zh n l).length ≤ 18 := by
 unfold Zh
 split
 ·simp
 ·rw [List.length_map, List.length_take]; omega
theorem Yh (E : List (Nat × Nat)) : ∀ e ∈ E.map edf, FV.flat.flats e = true := fun e he => by
 obtain ⟨q, _, rfl⟩ := List.mem_map.1 he; rfl
set_option maxHeartbeats 4000000 in
theorem zaS (n : Nat) (l : List Int) (hn : n ≤ 1000) (hl : l.length ≤ 9223372036854775807) (hI : ∀ x ∈ l, I64 x) : yq Try.prog 8 [.int .i64 n, .list 1 (l.map zm)] (.ow 34 2) (.list 2 ((Zh n l).map edf)) := by
 refine yq.of_body (c := (Zf Try.prog zC zt 39)) ⟨Try.func8, rfl, Try.ntmps8, by kernel_rfl⟩ (by simp [FV.hand]) (by exact Nat.le_of_ble_eq_true rfl) rfl ?_
 change FW _ _ _ ⟨[(0, .int .i64 n), (1, .list 1 (l.map zm))], []⟩
 (repeat (first | refine FW.seq ?_ | refine FW.region ?_ | refine FW.block ?_ | refine zd.nil ?_ | refine zc rfl rfl rfl ?_))
 refine FW.loop (fun i : Nat => ⟨[(0, .int .i64 n), (1, .list 1 (l.map zm)), (5, .own 100 0 0 i), (6, .int .i64 i)], [(100, ⟨0, .own, 34, 2, ((l.take i).map (mkE n)).map edf⟩)]⟩) (fun i => i ≤ l.length ∧ i ≤ 18 ∧ (0 < i → 0 < n)) (fun i => 18 - i) 0 ⟨by omega, by omega, by omega⟩ (FLe.conv [⟨100, none, 0, ⟨0, .own, 34, 2, []⟩⟩] (by simp) (by simp) rfl (by repeat (first | exact .nil | refine .low rfl ?_ | refine .same rfl ?_ | refine .bump (Nat.lt_succ_self _) ?_)) (by repeat (first | exact .nil | refine .new ?_)) (by repeat (first | exact .nil | refine .cons (.plain rfl rfl (by first | rfl | (simp; done) | (congr 1; omega) | (simp; omega) | (simp [List.take_of_length_le]; done) | (refine congrArg (FV.int .i64) ?_; omega))) ?_ | refine .cons (.nil rfl (.head _) rfl) ?_))) ?_
 rintro i ⟨hi, hi18, hin⟩
 have hend : (i < l.length → i < 18 → ¬ 0 < n) → (l.take i).map (mkE n) = Zh n l := fun hc => by
  unfold Zh
  by_cases h0 : n = 0
  ·rw [if_pos h0]
   have : i = 0 := by
    rcases Nat.eq_zero_or_pos i with h | h
    ·exact h
    ·have := hin h; omega
   subst this; rfl
  ·rw [if_neg h0]
   congr 1
   rcases Nat.lt_or_ge i l.length with h1 | h1
   ·rcases Nat.lt_or_ge i 18 with h2 | h2
    ·exact absurd (by omega) (hc h1 h2)
    ·rw [show i = 18 by omega]
   ·rw [List.take_of_length_le h1, List.take_of_length_le (by omega)]
 (repeat (first | refine FW.seq ?_ | refine FW.region ?_ | refine zb rfl rfl rfl ?_ | refine zu rfl rfl (by first | exact List.length_map _ | exact (List.length_map _).symm | exact List.length_replicate | rfl | (simp; done) | omega | (simp; omega)) rfl rfl ?_ | refine zQ rfl rfl rfl rfl ?_))
 refine xb (fun h1 => ?_) (fun h1 => ?_)
 ·(repeat (first | refine zb rfl rfl rfl ?_ | refine yb rfl rfl rfl rfl ?_ | refine zb rfl rfl ⟨_, _, rfl, rfl, rfl⟩ ?_ | refine zQ rfl rfl rfl ⟨_, _, rfl, rfl, rfl⟩ ?_))
  refine xb (fun h2 => ?_) (fun h2 => ?_)
  ·(repeat (first | refine zd.nil ?_ | refine yb rfl rfl rfl rfl ?_ | refine zb rfl rfl ⟨_, _, rfl, rfl, rfl⟩ ?_ | refine ZO rfl rfl rfl ⟨_, _, rfl, rfl, rfl⟩ ?_))
   refine FW.cond rfl (fun h3 => ?_) (fun h3 => ?_)
   ·have hlt : i < l.length := by simpa using h1
    have hlt2 : i < 18 := by simp at h2; omega
    have hn0 : 0 < n := by simpa using h3
    clear h1 h2 h3 hend
    have hst : (l.take (i + 1)).map (mkE n) = (l.take i).map (mkE n) ++ [mkE n (nth l i)] := by
     rw [List.take_succ_eq_append_getElem hlt, List.map_append, nth_eq hlt]; rfl
    have hxi := hI _ (zF hlt)
    have ha1 := Xo (n := nth l i) (most := 1000000) (by omega)
    have ha2 := Ug (n := nth l i) (most := 1000000) (by omega)
    (repeat (first | refine FW.seq ?_ | refine FW.region ?_ | refine FW.block ?_ | refine FW.skip ?_ | refine zb rfl rfl rfl ?_ | refine zD rfl rfl (by first | rfl | exact (Int.toNat_of_nonneg (by omega)).symm) rfl rfl rfl (by first | omega | (simp; omega) | (simp; done)) rfl rfl ?_ | refine zJ rfl rfl rfl (by first | omega | (simp; omega) | (simp; done)) (by first | exact zf (by omega) | rfl) rfl rfl rfl rfl ?_))
    refine yB (Xp (nth l i) 1000000 hxi (by omega) (by omega)) (by repeat (first | exact zA.nil | refine zA.cons (by exact xz.plain rfl rfl) ?_)) rfl rfl ?_
    obtain ⟨k, hk⟩ : ∃ k : Nat, xe (nth l i) 1000000 = k := ⟨(xe (nth l i) 1000000).toNat, by omega⟩
    have e1 : ([FV.int .i64 ((k : Int) % n), FV.int .i64 ((k : Int) / 97 % n)] : List FV) = edf (mkE n (nth l i)) := by simp [mkE, edf, hk]
    rw [hk] at ha1 ha2 ⊢
    (repeat (first | refine zd.nil ?_ | refine zc rfl rfl rfl ?_ | refine FW.draw ?_ | refine zx.nil ?_ | refine yv rfl rfl rfl ?_ | refine zE rfl rfl rfl ?_ | refine zaU rfl rfl (by first | exact List.length_map _ | exact (List.length_map _).symm | exact List.length_replicate | rfl | (simp; done) | omega | (simp; omega)) rfl rfl rfl (by decide) (by first | exact Ze.own rfl rfl (by decide) (by first | exact List.length_map _ | exact (List.length_map _).symm | exact List.length_replicate | rfl | (simp; done) | omega | (simp; omega)) | exact Ze.list rfl | exact Ze.nil rfl | exact Ze.part rfl rfl (by decide)) (by first | omega | (simp; omega) | (simp; done)) (by first | omega | (simp; omega) | (simp; done)) rfl rfl rfl ?_ | refine zfK rfl rfl (by omega) rfl rfl ?_ | refine zfJ rfl rfl (by omega) rfl rfl ?_ | refine YN rfl rfl rfl rfl rfl rfl rfl rfl rfl ?_ | refine zaV rfl rfl rfl rfl rfl rfl rfl rfl rfl rfl ?_))
    rw [e1]
    refine ⟨by kernel_rfl, ?_⟩
    have hst2 : ((l.take i).map (mkE n)).map edf ++ [edf (mkE n (nth l i))] = ((l.take (i + 1)).map (mkE n)).map edf := by rw [hst, List.map_append]; rfl
    have hsl : (((l.take (i + 1)).map (mkE n)).map edf).length = i + 1 := by simp; omega
    rw [hst2, hsl]
    (repeat (first | refine FW.region ?_ | refine zd.nil ?_ | refine zc rfl rfl rfl ?_ | refine zb rfl rfl rfl ?_ | refine zB rfl rfl (by omega) rfl rfl ?_))
    refine ⟨i + 1, ⟨by omega, by omega, fun _ => hn0⟩, by omega, ?_⟩
    exact (FLe.conv [⟨100, some 37, 0 + 1, ⟨0, .own, 34, 2, ((l.take (i + 1)).map (mkE n)).map edf⟩⟩] (by simp) (by simp) rfl (by repeat (first | exact .nil | refine .low rfl ?_ | refine .same rfl ?_ | refine .bump (Nat.lt_succ_self _) ?_)) (by repeat (first | exact .nil | refine .old rfl (by decide) (by first | rfl | (simp; done) | (congr 1; omega) | (simp; omega) | (simp [List.take_of_length_le]; done) | (refine congrArg (FV.int .i64) ?_; omega)) ?_)) (by repeat (first | exact .nil | refine .cons (.plain rfl rfl (by first | rfl | (simp; done) | (congr 1; omega) | (simp; omega) | (simp [List.take_of_length_le]; done) | (refine congrArg (FV.int .i64) ?_; omega))) ?_ | refine .cons (.own rfl (.head _) rfl (by first | rfl | (simp; done) | (congr 1; omega) | (simp; omega) | (simp [List.take_of_length_le]; done) | (refine congrArg (FV.int .i64) ?_; omega))) ?_)))
   ·have h3' : ¬ 0 < n := by simpa using h3
    (repeat (first | refine FW.seq ?_ | refine FW.region ?_ | refine FW.exit ?_ | refine zd.nil ?_ | refine zc rfl rfl rfl ?_ | refine zb rfl rfl rfl ?_))
    exact FW.ret ⟨.inl rfl, Wc rfl rfl rfl (by simp; omega) (by decide) (by rw [hend (fun q1 q2 q3 => h3' q3)]) (Yh _)⟩
  ·have h2' : ¬ i < 18 := by simp at h2; omega
   (repeat (first | refine FW.seq ?_ | refine FW.region ?_ | refine FW.exit ?_ | refine FW.condF rfl ?_ | refine zd.nil ?_ | refine zc rfl rfl rfl ?_ | refine zb rfl rfl rfl ?_ | refine yj rfl rfl rfl rfl ?_ | refine xc rfl rfl ⟨_, _, rfl, rfl, rfl⟩ ?_))
   exact FW.ret ⟨.inl rfl, Wc rfl rfl rfl (by simp; omega) (by decide) (by rw [hend (fun q1 q2 q3 => h2' q2)]) (Yh _)⟩
 ·have h1' : ¬ i < l.length := by simpa using h1
  (repeat (first | refine FW.seq ?_ | refine FW.region ?_ | refine FW.exit ?_ | refine FW.condF rfl ?_ | refine zd.nil ?_ | refine zc rfl rfl rfl ?_ | refine zb rfl rfl rfl ?_ | refine yj rfl rfl rfl rfl ?_ | refine xc rfl rfl ⟨_, _, rfl, rfl, rfl⟩ ?_))
  exact FW.ret ⟨.inl rfl, Wc rfl rfl rfl (by simp; omega) (by decide) (by rw [hend (fun q1 q2 q3 => h1' q1)]) (Yh _)⟩
def zbp (E : List (Nat × Nat)) (a b : Int) : Bool := E.any fun e => decide ((e.1 : Int) = a) && decide ((e.2 : Int) = b)
def zfE (e : Nat × Nat) : Nat × Nat := (min e.1 e.2, max e.1 e.2)
def ZI (E : List (Nat × Nat)) : Nat → List (Nat × Nat)
 | 0 => E
 | k + 1 => if k % 7 = 6 then ZI E k else (ZI E k).set k (zfE (nth (ZI E k) k))
theorem Yl (E : List (Nat × Nat)) : ∀ k, (ZI E k).length = E.length
 | 0 => rfl
 | k + 1 => by
  unfold ZI
  split
  ·exact Yl E k
  ·rw [List.length_set]; exact Yl E k
def ZD (n : Nat) (l : List Int) : List (Nat × Nat) := ZI (Zh n l) (Zh n l).length
theorem zbk {n : Nat} {E : List (Nat × Nat)} (h : InN n E) : ∀ k, InN n (ZI E k)
 | 0 => h
 | k + 1 => by
  have ih := zbk h k
  unfold ZI
  split
  ·exact ih
  ·intro e he
   rcases List.mem_or_eq_of_mem_set he with h1 | h1
   ·exact ih e h1
   ·subst h1
    rcases Nat.lt_or_ge k (ZI E k).length with hk | hk
    ·have := ih _ (zF hk)
     unfold zfE
     dsimp only
     omega
    ·rw [List.set_eq_of_length_le hk] at he
     exact ih _ he
set_option maxHeartbeats 4000000 in
theorem VM (n : Nat) (l : List Int) (hn : n ≤ 1000) (hl : l.length ≤ 9223372036854775807) (hI : ∀ x ∈ l, I64 x) : yq Try.prog 9 [.int .i64 n, .list 1 (l.map zm)] (.ow 34 2) (.list 2 ((ZD n l).map edf)) := by
 refine yq.of_body (c := (Zf Try.prog zC zt 46)) ⟨Try.func9, rfl, Try.ntmps9, by kernel_rfl⟩ (by simp [FV.hand]) (by exact Nat.le_of_ble_eq_true rfl) rfl ?_
 change FW _ _ _ ⟨[(0, .int .i64 n), (1, .list 1 (l.map zm))], []⟩
 (repeat (first | refine FW.seq ?_ | refine FW.region ?_ | refine zd.nil ?_ | refine zc rfl rfl rfl ?_ | refine zb rfl rfl rfl ?_))
 refine Yv (zaS n l hn hl hI) (by repeat (first | exact zA.nil | refine zA.cons (by exact xz.plain rfl rfl) ?_)) (List.length_map _) rfl rfl rfl ?_
 have hEl := Vb n l
 have hR : ZD n l = ZI (Zh n l) (Zh n l).length := rfl
 generalize Zh n l = E at hEl hR
 rw [hR]
 (repeat (first | refine FW.seq ?_ | refine FW.region ?_ | refine FW.block ?_ | refine zd.nil ?_ | refine zc rfl rfl rfl ?_))
 refine FW.loop (fun i : Nat => ⟨[(5, .own 100 0 0 E.length), (6, .int .i64 i)], [(100, ⟨0, .own, 34, 2, (ZI E i).map edf⟩)]⟩) (fun i => i ≤ E.length) (fun i => E.length - i) 0 (Nat.zero_le _) ?_ ?_
 ·show FLe _ ⟨[(5, .own 100 0 0 E.length), (6, .int .i64 0)], [(100, ⟨0, .own, 34, 2, E.map edf⟩)]⟩
  exact (FLe.conv [⟨100, some 9, 0 + 1, ⟨0, .own, 34, 2, E.map edf⟩⟩] (by simp) (by simp) rfl (by repeat (first | exact .nil | refine .low rfl ?_ | refine .same rfl ?_ | refine .bump (Nat.lt_succ_self _) ?_)) (by repeat (first | exact .nil | refine .old rfl (by decide) (by first | rfl | (simp; done) | (congr 1; omega) | (simp; omega) | (simp [List.take_of_length_le]; done) | (refine congrArg (FV.int .i64) ?_; omega)) ?_)) (by repeat (first | exact .nil | refine .cons (.plain rfl rfl (by first | rfl | (simp; done) | (congr 1; omega) | (simp; omega) | (simp [List.take_of_length_le]; done) | (refine congrArg (FV.int .i64) ?_; omega))) ?_ | refine .cons (.own rfl (.head _) rfl (by first | rfl | (simp; done) | (congr 1; omega) | (simp; omega) | (simp [List.take_of_length_le]; done) | (refine congrArg (FV.int .i64) ?_; omega))) ?_)))
 intro i hi
 have hfl := Yl E i
 have hst : ZI E (i + 1) = if i % 7 = 6 then ZI E i else (ZI E i).set i (zfE (nth (ZI E i) i)) := rfl
 obtain ⟨Z, hZ⟩ : ∃ Z, ZI E i = Z := ⟨_, rfl⟩
 rw [hZ] at hst hfl ⊢
 (repeat (first | refine FW.seq ?_ | refine FW.region ?_ | refine zd.nil ?_ | refine zb rfl rfl rfl ?_ | refine yn rfl rfl rfl (by decide) rfl rfl ?_ | refine zQ rfl rfl rfl rfl ?_))
 refine FW.cond rfl (fun h => ?_) (fun h => ?_)
 ·have hlt : i < E.length := by simpa using h
  clear h
  (repeat (first | refine FW.seq ?_ | refine FW.region ?_ | refine FW.block ?_ | refine FW.skip ?_ | refine zd.nil ?_ | refine zb rfl rfl rfl ?_ | refine zeV rfl rfl (by omega) rfl rfl ?_ | refine zdE rfl rfl rfl rfl ?_))
  refine FW.cond rfl (fun h => ?_) (fun h => ?_)
  ·rw [if_neg (by simp at h; omega)] at hst
   (repeat (first | refine FW.draw ?_ | refine zx.nil ?_ | refine zE rfl rfl rfl ?_ | refine zdt rfl rfl rfl rfl ?_ | refine zfH rfl rfl rfl rfl ?_ | refine ye rfl rfl (by first | rfl | exact (Int.toNat_of_nonneg (by omega)).symm) rfl rfl rfl (by decide) rfl (by first | omega | (simp; omega) | (simp; done)) rfl rfl ?_ | refine ZE rfl rfl (by first | rfl | exact (Int.toNat_of_nonneg (by omega)).symm) rfl rfl rfl rfl (by decide) (by first | omega | (simp; omega) | (simp; done)) rfl rfl ?_ | refine yr rfl rfl rfl rfl rfl (by first | omega | (simp; omega) | (simp; done)) (by first | exact zf (by omega) | rfl) rfl rfl rfl rfl ?_ | refine YN rfl rfl rfl rfl rfl rfl rfl rfl rfl ?_ | refine zck rfl rfl rfl rfl rfl rfl (by first | omega | (simp; omega) | (simp; done)) (by first | exact zf (by omega) | rfl) rfl rfl rfl ?_))
   refine ⟨by kernel_rfl, ?_⟩
   (repeat (first | refine FW.region ?_ | refine zd.nil ?_ | refine zc rfl rfl rfl ?_ | refine zb rfl rfl rfl ?_ | refine zB rfl rfl (by omega) rfl rfl ?_))
   refine ⟨i + 1, by omega, by omega, ?_⟩
   rw [hst, List.map_set]
   have e : ([FV.int .i64 (min ((nth Z i).1 : Int) (nth Z i).2), FV.int .i64 (max ((nth Z i).1 : Int) (nth Z i).2)] : List FV) = edf (zfE (nth Z i)) := by
    show _ = [FV.int .i64 ((min (nth Z i).1 (nth Z i).2 : Nat) : Int), FV.int .i64 ((max (nth Z i).1 (nth Z i).2 : Nat) : Int)]
    rw [show ((min (nth Z i).1 (nth Z i).2 : Nat) : Int) = min ((nth Z i).1 : Int) (nth Z i).2 by omega, show ((max (nth Z i).1 (nth Z i).2 : Nat) : Int) = max ((nth Z i).1 : Int) (nth Z i).2 by omega]
   rw [e]
   obtain ⟨Y, hY⟩ : ∃ Y, (Z.map edf).set i (edf (zfE (nth Z i))) = Y := ⟨_, rfl⟩
   rw [hY]
   exact (FLe.conv [⟨100, some 100, 0, ⟨0, .own, 34, 2, Y⟩⟩] (by simp) (by simp) rfl (by repeat (first | exact .nil | refine .low rfl ?_ | refine .same rfl ?_ | refine .bump (Nat.lt_succ_self _) ?_)) (by repeat (first | exact .nil | refine .old rfl (by decide) (by first | rfl | (simp; done) | (congr 1; omega) | (simp; omega) | (simp [List.take_of_length_le]; done) | (refine congrArg (FV.int .i64) ?_; omega)) ?_)) (by repeat (first | exact .nil | refine .cons (.plain rfl rfl (by first | rfl | (simp; done) | (congr 1; omega) | (simp; omega) | (simp [List.take_of_length_le]; done) | (refine congrArg (FV.int .i64) ?_; omega))) ?_ | refine .cons (.own rfl (.head _) rfl (by first | rfl | (simp; done) | (congr 1; omega) | (simp; omega) | (simp [List.take_of_length_le]; done) | (refine congrArg (FV.int .i64) ?_; omega))) ?_)))
  ·rw [if_pos (by simp at h; omega)] at hst
   (repeat (first | refine FW.region ?_ | refine FW.skip ?_ | refine zd.nil ?_ | refine zc rfl rfl rfl ?_ | refine zb rfl rfl rfl ?_ | refine zB rfl rfl (by omega) rfl rfl ?_))
   refine ⟨i + 1, by omega, by omega, ?_⟩
   rw [hst]
   exact (FLe.conv [⟨100, some 100, 0, ⟨0, .own, 34, 2, Z.map edf⟩⟩] (by simp) (by simp) rfl (by repeat (first | exact .nil | refine .low rfl ?_ | refine .same rfl ?_ | refine .bump (Nat.lt_succ_self _) ?_)) (by repeat (first | exact .nil | refine .old rfl (by decide) (by first | rfl | (simp; done) | (congr 1; omega) | (simp; omega) | (simp [List.take_of_length_le]; done) | (refine congrArg (FV.int .i64) ?_; omega)) ?_)) (by repeat (first | exact .nil | refine .cons (.plain rfl rfl (by first | rfl | (simp; done) | (congr 1; omega) | (simp; omega) | (simp [List.take_of_length_le]; done) | (refine congrArg (FV.int .i64) ?_; omega))) ?_ | refine .cons (.own rfl (.head _) rfl (by first | rfl | (simp; done) | (congr 1; omega) | (simp; omega) | (simp [List.take_of_length_le]; done) | (refine congrArg (FV.int .i64) ?_; omega))) ?_)))
 ·have hi : i = E.length := by simp at h; omega
  subst hi
  (repeat (first | refine FW.seq ?_ | refine FW.region ?_ | refine FW.exit ?_ | refine zd.nil ?_ | refine zc rfl rfl rfl ?_ | refine zb rfl rfl rfl ?_))
  exact FW.ret ⟨.inl rfl, Wc rfl rfl rfl (by simp; omega) (by decide) (by rw [hZ]) (Yh _)⟩
def zdw (E : List (Nat × Nat)) (v : Int) (out : List Int) : Bool := E.all fun e => !decide ((e.2 : Int) = v) || zbl out e.1
def ze8 (p : Nat → Bool) (n : Nat) : Nat → Int
 | 0 => -1
 | k + 1 => if p (n - (k + 1)) = true then ((n - (k + 1) : Nat) : Int) else ze8 p n k
def zcf (E : List (Nat × Nat)) (out : List Int) (v : Nat) : Bool := !zbl out v && zdw E v out
def rtK (E : List (Nat × Nat)) (n : Nat) : Nat → List Int → Option (List Int)
 | 0, out => some out
 | k + 1, out => if ze8 (zcf E out) n n < 0 then none else rtK E n k (out ++ [ze8 (zcf E out) n n])
def zf5 : Option (List Int) → FV
 | none => .tup [.list 1 [], .bool false]
 | some l => .tup [.list 1 (l.map zm), .bool true]
end Go.Proofs.Ythjplkjpehdpfaa
/-
 graph.Topo and the reference take the same vertices in the same order.
-/
namespace Go.Proofs.Ythjplkjpehdpfaa
set_option linter.unusedVariables false

theorem UK (p : Nat → Bool) (n : Nat) : ∀ k, k ≤ n → (ze8 p n k = -1 ∧ ∀ v, n - k ≤ v → v < n → p v = false) ∨ ∃ v, ze8 p n k = (v : Nat) ∧ n - k ≤ v ∧ v < n ∧ p v = true ∧ ∀ u, n - k ≤ u → u < v → p u = false
 | 0, _ => .inl ⟨rfl, fun v h1 h2 => by omega⟩
 | k + 1, hk => by
  have ih := UK p n k (by omega)
  unfold ze8
  by_cases hp : p (n - (k + 1)) = true
  ·rw [if_pos hp]
   exact .inr ⟨_, rfl, Nat.le_refl _, by omega, hp, fun u h1 h2 => by omega⟩
  ·rw [if_neg hp]
   have hp' : p (n - (k + 1)) = false := by simpa using hp
   rcases ih with ⟨e, h⟩ | ⟨v, e, h1, h2, h3, h4⟩
   ·refine .inl ⟨e, fun v q1 q2 => ?_⟩
    by_cases hv : v = n - (k + 1)
    ·subst hv; exact hp'
    ·exact h v (by omega) q2
   ·refine .inr ⟨v, e, by omega, h2, h3, fun u q1 q2 => ?_⟩
    by_cases hv : u = n - (k + 1)
    ·subst hv; exact hp'
    ·exact h4 u (by omega) q2
theorem zdx {n : Nat} {E : List (Nat × Nat)} (h : InN n E) (out : List Int) (v : Nat) : zdw E v out = true ↔ zal n E out v = 0 := by
 unfold zdw zal
 rw [List.all_eq_true, List.countP_eq_zero]
 constructor
 ·intro hr u hu hc
  simp only [Bool.and_eq_true, decide_eq_true_eq] at hc
  obtain ⟨e, he, h1, h2⟩ := zM.1 hc.2
  have := hr e he
  subst h1
  have h3 : ((e.2 : Nat) : Int) = (v : Int) := h2
  rw [h3] at this
  unfold zbl at this
  simp at this
  exact hc.1 this
 ·intro hc e he
  have hin := h e he
  by_cases hv : ((e.2 : Nat) : Int) = v
  ·have := hc e.1 (List.mem_range.2 hin.1)
   simp only [Bool.and_eq_true, decide_eq_true_eq, not_and] at this
   unfold zbl
   by_cases hm : ((e.1 : Nat) : Int) ∈ out
   ·simp [hm]
   ·exact absurd (zM.2 ⟨e, he, rfl, hv⟩) (this hm)
  ·simp [hv]
theorem TI.next {n : Nat} {E : List (Nat × Nat)} (hE : InN n E) {s : VZ} (h : TI n E s) (v : Nat) (hv : v < n) : zcf E s.out v = true ↔ (v : Int) ∈ s.h := by
 rw [h.hM, Int.toNat_natCast, h.cnt v hv]
 unfold zcf zbl
 rw [Bool.and_eq_true, zdx hE]
 constructor
 ·rintro ⟨h1, h2⟩
  exact ⟨by omega, by simpa using h1, by omega⟩
 ·rintro ⟨_, h1, h2⟩
  exact ⟨by simpa using h1, by omega⟩
theorem zbD {n : Nat} {E : List (Nat × Nat)} (hE : InN n E) : ∀ (k f : Nat) (s : VZ), TI n E s → s.out.length + k = n → n < s.out.length + f → rtK E n k s.out = if (zH E f s).out.length < n then none else some (zH E f s).out
 | k, 0, s, h, _, hf => by have := h.le; omega
 | k, f + 1, s, h, hk, hf => by
  have hl := UK (zcf E s.out) n n (Nat.le_refl _)
  by_cases h0 : s.h = []
  ·rw [YB E (f + 1) s h0]
   cases k with
   | zero =>
    rw [if_neg (by omega)]; rfl
   | succ k =>
    rw [if_pos (by omega)]
    unfold rtK
    rcases hl with ⟨e, _⟩ | ⟨v, e, _, h2, h3, _⟩
    ·rw [if_pos (by omega)]
    ·have := (h.next hE v h2).1 h3
     rw [h0] at this; cases this
  ·obtain ⟨q, hq⟩ : ∃ q, s.h.length = q + 1 := ⟨s.h.length - 1, by have := List.length_pos_iff.2 h0; omega⟩
   obtain ⟨v, hv, hvn, hvo, hm0, hmin, hD, hN, hR⟩ := h.first hq
   have hvh : (v : Int) ∈ s.h := by
    rw [h.hM]; exact ⟨by omega, hvo, by rw [Int.toNat_natCast]; exact hm0⟩
   have hso : (yl E s).out = s.out ++ [(v : Int)] := by
    unfold yl
    dsimp only
    rw [show s.h.length - 1 = q by omega, hv]
   have e1 : zH E (f + 1) s = zH E f (yl E s) := if_neg h0
   cases k with
   | zero =>
    have := xr hN hR
    simp at this
    omega
   | succ k =>
    have hlv : ze8 (zcf E s.out) n n = v := by
     rcases hl with ⟨_, hno⟩ | ⟨u, e, _, h2, h3, h4⟩
     ·have := hno v (by omega) hvn
      rw [(h.next hE v hvn).2 hvh] at this; cases this
     ·have hu := (h.next hE u h2).1 h3
      have hle := hmin _ hu
      rcases Nat.lt_or_ge v u with hlt | hge
      ·have := h4 v (by omega) hlt
       rw [(h.next hE v hvn).2 hvh] at this; cases this
      ·rw [e]; omega
    unfold rtK
    rw [hlv, if_neg (by omega), ← hso, e1]
    exact zbD hE k f (yl E s) (h.step hE h0) (by rw [Zs]; omega) (by rw [Zs]; omega)
theorem za7 {n : Nat} {E : List (Nat × Nat)} (hE : InN n E) : rtK E n n [] = if (yf n E).length < n then none else some (yf n E) :=
 zbD hE n (n + 1) (zR n E) (TI.start hE) (Nat.zero_add n) (by show n < 0 + (n + 1); omega)
end Go.Proofs.Ythjplkjpehdpfaa
/-
 The reference's walks and its Cycle.
-/
namespace Go.Proofs.Ythjplkjpehdpfaa
set_option linter.unusedVariables false
open Go.RowKit

def zej : List Int → List Int → Bool
 | x :: a, y :: b => if x = y then zej a b else decide (x < y)
 | [], b => decide (0 < b.length)
 | _ :: _, [] => false
def Zt (out : List (List Int)) (tg ab k v w : Nat) : List Int := if k = 1 then (if w = tg then [(v : Int)] else []) else if ab < w ∧ nth out w ≠ [] then (v : Int) :: nth out w else []
def zeA (E : List (Nat × Nat)) (out : List (List Int)) (tg ab k v : Nat) (cur : List Int) (w : Nat) : List Int :=
 if zbp E v w = true ∧ Zt out tg ab k v w ≠ [] ∧ (cur = [] ∨ zej (Zt out tg ab k v w) cur = true) then Zt out tg ab k v w else cur
def zd5 (E : List (Nat × Nat)) (out : List (List Int)) (tg ab k v j : Nat) : List Int := (List.range j).foldl (zeA E out tg ab k v) []
def zdg (E : List (Nat × Nat)) (out : List (List Int)) (tg ab k n i : Nat) : List (List Int) := (List.range n).map fun v => if v < i then zd5 E out tg ab k v n else []
def zW (E : List (Nat × Nat)) (tg ab n : Nat) : Nat → List (List Int)
 | 0 => List.replicate n []
 | k + 1 => zdg E (zW E tg ab n k) tg ab (k + 1) n n
theorem zcg (E : List (Nat × Nat)) (out : List (List Int)) (tg ab k n i : Nat) : (zdg E out tg ab k n i).length = n := by simp [zdg]
theorem za8 (E : List (Nat × Nat)) (tg ab n : Nat) : ∀ k, (zW E tg ab n k).length = n
 | 0 => by simp [zW]
 | k + 1 => zcg _ _ _ _ _ _ _
theorem zcQ (E : List (Nat × Nat)) (out : List (List Int)) (tg ab k v j : Nat) : zd5 E out tg ab k v (j + 1) = zeA E out tg ab k v (zd5 E out tg ab k v j) j := by
 unfold zd5
 rw [List.range_succ, List.foldl_append]; rfl
def YE (E : List (Nat × Nat)) (n len s : Nat) : List Int := nth (zW E s s n len) s
def Zg (E : List (Nat × Nat)) (n len : Nat) : Nat → Nat → List Int
 | 0, _ => []
 | k + 1, s => if YE E n len s = [] then Zg E n len k (s + 1) else YE E n len s
def YF (E : List (Nat × Nat)) (n : Nat) : Nat → Nat → List Int
 | 0, _ => []
 | k + 1, len => if Zg E n len n 0 = [] then YF E n k (len + 1) else Zg E n len n 0
def ya (E : List (Nat × Nat)) (n : Nat) : List Int := YF E n n 1
end Go.Proofs.Ythjplkjpehdpfaa
