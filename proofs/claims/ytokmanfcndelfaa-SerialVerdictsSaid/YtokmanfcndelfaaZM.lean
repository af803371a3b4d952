/-
  Some texts as one: FmRef03, TopoRef, FmWalks.
-/
import Derived.Test.YtokmanfcndelfaaZG
import Derived.Test.YtokmanfcndelfaaZK
import Derived.Test.YtokmanfcndelfaaZL
import Derived.Test.YtokmanfcndelfaaZJ
/-
 The graphs of layer 3 and what its reference asks of them.
-/
namespace Go.Proofs.Ytokmanfcndelfaa
set_option linter.unusedVariables false
open Go.RowKit

def Yd (E : List (Nat × Nat)) (a b : Int) : Bool := E.any fun e => decide ((e.1 : Int) = a) && decide ((e.2 : Int) = b)
set_option maxHeartbeats 4000000 in
theorem zeW (E : List (Nat × Nat)) (a b : Int) (hE : E.length ≤ 1000000) : yc Try.prog 59 [.list 2 (E.map edf), .int .i64 a, .int .i64 b] .fr (.bool (Yd E a b)) := by
 refine yc.of_body (c := (xB Try.prog zE zq 30)) ⟨Try.func59, rfl, Try.ntmps59, by kernel_rfl⟩ (by simp [FV.hand]) (by exact Nat.le_of_ble_eq_true rfl) rfl ?_
 change FW _ _ _ ⟨[(0, .list 2 (E.map edf)), (1, .int .i64 a), (2, .int .i64 b)], []⟩
 (repeat (first | refine FW.seq ?_ | refine FW.region ?_ | refine FW.block ?_ | refine zd.nil ?_ | refine za rfl rfl rfl ?_))
 refine FW.loop (fun i : Nat => ⟨[(0, .list 2 (E.map edf)), (1, .int .i64 a), (2, .int .i64 b), (7, .int .i64 i)], []⟩) (fun i => i ≤ E.length ∧ Yd (E.take i) a b = false) (fun i => E.length - i) 0 ⟨Nat.zero_le _, rfl⟩ (FLe.cv [] (by repeat (first | exact .nil)) (by repeat (first | exact .nil | refine .cons (.plain rfl rfl rfl) ?_))) ?_
 rintro i ⟨hi, hno⟩
 (repeat (first | refine FW.seq ?_ | refine FW.region ?_ | refine zd.nil ?_ | refine zb rfl rfl rfl ?_ | refine zg rfl rfl (by exact List.length_map _) rfl rfl ?_ | refine zN rfl rfl rfl rfl ?_))
 refine FW.cond rfl (fun h => ?_) (fun h => ?_)
 ·have hlt : i < E.length := by simpa using h
  clear h
  have hst : Yd (E.take (i + 1)) a b = (decide (((nth E i).1 : Int) = a) && decide (((nth E i).2 : Int) = b)) := by
   unfold Yd at hno ⊢
   rw [List.take_succ_eq_append_getElem hlt, List.any_append, hno, ← nth_eq hlt]
   simp
  obtain ⟨⟨x, y⟩, he⟩ : ∃ e, nth E i = e := ⟨_, rfl⟩
  rw [he] at hst
  (repeat (first | refine FW.seq ?_ | refine FW.region ?_ | refine FW.block ?_ | refine FW.skip ?_ | refine zb rfl rfl rfl ?_ | refine zh rfl rfl rfl rfl rfl rfl (by first | (simp; omega) | (simp; done)) rfl rfl ?_ | refine YQ rfl rfl rfl rfl rfl rfl (by first | (simp; omega) | (simp; done)) rfl rfl ?_ | refine zA rfl rfl rfl (by first | (simp; omega) | (simp; done)) (by first | exact zc (by omega) | rfl) rfl rfl rfl rfl ?_ | refine zU rfl rfl rfl rfl ?_))
  rw [he]
  skip
  refine zO (fun h1 => ?_) (fun h1 => ?_)
  ·(repeat (first | refine zd.nil ?_ | refine zu rfl rfl rfl rfl ?_ | refine zb rfl rfl ⟨_, _, rfl, rfl, rfl⟩ ?_ | refine zh rfl rfl rfl rfl rfl rfl (by first | (simp; omega) | (simp; done)) rfl ⟨_, _, rfl, rfl, rfl⟩ ?_ | refine YQ rfl rfl rfl rfl rfl rfl (by first | (simp; omega) | (simp; done)) rfl ⟨_, _, rfl, rfl, rfl⟩ ?_ | refine zA rfl rfl rfl (by first | (simp; omega) | (simp; done)) (by first | exact zc (by omega) | rfl) rfl rfl rfl ⟨_, _, rfl, rfl, rfl⟩ ?_ | refine zU rfl rfl rfl ⟨_, _, rfl, rfl, rfl⟩ ?_))
   rw [he]
   skip
   refine FW.cond rfl (fun h2 => ?_) (fun h2 => ?_)
   ·(repeat (first | refine FW.seq ?_ | refine FW.region ?_ | refine zd.nil ?_ | refine za rfl rfl rfl ?_))
    have : Yd E a b = true := by
     unfold Yd
     refine List.any_eq_true.2 ⟨nth E i, zI hlt, ?_⟩
     rw [he]
     simp at h1 h2
     simp [h1, h2]
    exact FW.ret ⟨.inl rfl, zj rfl rfl (by rw [this]; rfl) rfl⟩
   ·(repeat (first | refine FW.region ?_ | refine FW.skip ?_ | refine zd.nil ?_ | refine za rfl rfl rfl ?_ | refine zb rfl rfl rfl ?_ | refine zw rfl rfl (by omega) rfl rfl ?_))
    refine ⟨i + 1, ⟨by omega, ?_⟩, by omega, (FLe.cv [] (by repeat (first | exact .nil)) (by repeat (first | exact .nil | refine .cons (.plain rfl rfl rfl) ?_)))⟩
    rw [hst]
    simp at h2
    simp [h2]
  ·(repeat (first | refine FW.region ?_ | refine FW.skip ?_ | refine FW.condF rfl ?_ | refine zd.nil ?_ | refine za rfl rfl rfl ?_ | refine zb rfl rfl rfl ?_ | refine zn rfl rfl rfl rfl ?_ | refine zw rfl rfl (by omega) rfl rfl ?_ | refine zK rfl rfl ⟨_, _, rfl, rfl, rfl⟩ ?_))
   refine ⟨i + 1, ⟨by omega, ?_⟩, by omega, (FLe.cv [] (by repeat (first | exact .nil)) (by repeat (first | exact .nil | refine .cons (.plain rfl rfl rfl) ?_)))⟩
   rw [hst]
   simp at h1
   simp [h1]
 ·have hi : i = E.length := by simp at h; omega
  subst hi
  rw [List.take_length] at hno
  (repeat (first | refine FW.seq ?_ | refine FW.region ?_ | refine FW.exit ?_ | refine zd.nil ?_ | refine za rfl rfl rfl ?_))
  exact FW.ret ⟨.inl rfl, zj rfl rfl (by rw [hno]; rfl) rfl⟩
def Xe (E : List (Nat × Nat)) (v : Int) (out : List Int) : Bool := E.all fun e => !decide ((e.2 : Int) = v) || zeS out e.1
set_option maxHeartbeats 4000000 in
theorem zfg (E : List (Nat × Nat)) (v : Int) (out : List Int) (hE : E.length ≤ 1000000) (ho : out.length ≤ 1000000) : yc Try.prog 50 [.list 2 (E.map edf), .int .i64 v, .list 1 (out.map zp)] .fr (.bool (Xe E v out)) := by
 refine yc.of_body (c := (xB Try.prog zE zq 31)) ⟨Try.func50, rfl, Try.ntmps50, by kernel_rfl⟩ (by simp [FV.hand]) (by exact Nat.le_of_ble_eq_true rfl) rfl ?_
 change FW _ _ _ ⟨[(0, .list 2 (E.map edf)), (1, .int .i64 v), (2, .list 1 (out.map zp))], []⟩
 (repeat (first | refine FW.seq ?_ | refine FW.region ?_ | refine FW.block ?_ | refine zd.nil ?_ | refine za rfl rfl rfl ?_))
 refine FW.loop (fun i : Nat => ⟨[(0, .list 2 (E.map edf)), (1, .int .i64 v), (2, .list 1 (out.map zp)), (7, .int .i64 i)], []⟩) (fun i => i ≤ E.length ∧ Xe (E.take i) v out = true) (fun i => E.length - i) 0 ⟨Nat.zero_le _, rfl⟩ (FLe.cv [] (by repeat (first | exact .nil)) (by repeat (first | exact .nil | refine .cons (.plain rfl rfl rfl) ?_))) ?_
 rintro i ⟨hi, hno⟩
 (repeat (first | refine FW.seq ?_ | refine FW.region ?_ | refine zd.nil ?_ | refine zb rfl rfl rfl ?_ | refine zg rfl rfl (by exact List.length_map _) rfl rfl ?_ | refine zN rfl rfl rfl rfl ?_))
 refine FW.cond rfl (fun h => ?_) (fun h => ?_)
 ·have hlt : i < E.length := by simpa using h
  clear h
  have hst : Xe (E.take (i + 1)) v out = (!decide (((nth E i).2 : Int) = v) || zeS out (nth E i).1) := by
   unfold Xe at hno ⊢
   rw [List.take_succ_eq_append_getElem hlt, List.all_append, hno, ← nth_eq hlt]
   simp
  have hbad : (!decide (((nth E i).2 : Int) = v) || zeS out (nth E i).1) = false → Xe E v out = false := fun hb => by
   unfold Xe
   refine List.all_eq_false.2 ⟨nth E i, zI hlt, ?_⟩
   rw [hb]; decide
  (repeat (first | refine FW.seq ?_ | refine FW.region ?_ | refine FW.block ?_ | refine FW.skip ?_ | refine zb rfl rfl rfl ?_ | refine zh rfl rfl rfl rfl rfl rfl (by first | (simp; omega) | (simp; done)) rfl rfl ?_ | refine YQ rfl rfl rfl rfl rfl rfl (by first | (simp; omega) | (simp; done)) rfl rfl ?_ | refine zA rfl rfl rfl (by first | (simp; omega) | (simp; done)) (by first | exact zc (by omega) | rfl) rfl rfl rfl rfl ?_ | refine zU rfl rfl rfl rfl ?_))
  refine zO (fun h1 => ?_) (fun h1 => ?_)
  ·(repeat (first | refine zb rfl rfl ⟨_, _, rfl, rfl, rfl⟩ ?_ | refine zh rfl rfl rfl rfl rfl rfl (by first | (simp; omega) | (simp; done)) rfl ⟨_, _, rfl, rfl, rfl⟩ ?_ | refine YQ rfl rfl rfl rfl rfl rfl (by first | (simp; omega) | (simp; done)) rfl ⟨_, _, rfl, rfl, rfl⟩ ?_ | refine zA rfl rfl rfl (by first | (simp; omega) | (simp; done)) (by first | exact zc (by omega) | rfl) rfl rfl rfl ⟨_, _, rfl, rfl, rfl⟩ ?_))
   refine zX (zd0 out (nth E i).1 (by omega)) (by repeat (first | exact zx.nil | refine zx.cons (by exact yI.plain rfl rfl) ?_)) rfl ⟨_, _, rfl, rfl, rfl⟩ ?_
   (repeat (first | refine zd.nil ?_ | refine zu rfl rfl rfl rfl ?_ | refine xd rfl rfl ⟨_, _, rfl, rfl, rfl⟩ ?_))
   refine FW.cond rfl (fun h2 => ?_) (fun h2 => ?_)
   ·(repeat (first | refine FW.seq ?_ | refine FW.region ?_ | refine zd.nil ?_ | refine za rfl rfl rfl ?_))
    exact FW.ret ⟨.inl rfl, zj rfl rfl (by rw [hbad (by rw [h1]; simpa using h2)]; rfl) rfl⟩
   ·(repeat (first | refine FW.region ?_ | refine FW.skip ?_ | refine zd.nil ?_ | refine za rfl rfl rfl ?_ | refine zb rfl rfl rfl ?_ | refine zw rfl rfl (by omega) rfl rfl ?_))
    refine ⟨i + 1, ⟨by omega, ?_⟩, by omega, (FLe.cv [] (by repeat (first | exact .nil)) (by repeat (first | exact .nil | refine .cons (.plain rfl rfl rfl) ?_)))⟩
    rw [hst, h1]
    simpa using h2
  ·(repeat (first | refine FW.region ?_ | refine FW.skip ?_ | refine FW.condF rfl ?_ | refine zd.nil ?_ | refine za rfl rfl rfl ?_ | refine zb rfl rfl rfl ?_ | refine zn rfl rfl rfl rfl ?_ | refine zw rfl rfl (by omega) rfl rfl ?_ | refine zK rfl rfl ⟨_, _, rfl, rfl, rfl⟩ ?_))
   refine ⟨i + 1, ⟨by omega, ?_⟩, by omega, (FLe.cv [] (by repeat (first | exact .nil)) (by repeat (first | exact .nil | refine .cons (.plain rfl rfl rfl) ?_)))⟩
   rw [hst, h1]
   rfl
 ·have hi : i = E.length := by simp at h; omega
  subst hi
  rw [List.take_length] at hno
  (repeat (first | refine FW.seq ?_ | refine FW.region ?_ | refine FW.exit ?_ | refine zd.nil ?_ | refine za rfl rfl rfl ?_))
  exact FW.ret ⟨.inl rfl, zj rfl rfl (by rw [hno]; rfl) rfl⟩
def zcP (p : Nat → Bool) (n : Nat) : Nat → Int
 | 0 => -1
 | k + 1 => if p (n - (k + 1)) = true then ((n - (k + 1) : Nat) : Int) else zcP p n k
theorem zd9 (p : Nat → Bool) (n : Nat) : ∀ k, -1 ≤ zcP p n k ∧ zcP p n k ≤ n
 | 0 => by unfold zcP; omega
 | k + 1 => by
  have := zd9 p n k
  unfold zcP
  split <;> omega
def Wp (E : List (Nat × Nat)) (out : List Int) (v : Nat) : Bool := !zeS out v && Xe E v out
def rtK (E : List (Nat × Nat)) (n : Nat) : Nat → List Int → Option (List Int)
 | 0, out => some out
 | k + 1, out => if zcP (Wp E out) n n < 0 then none else rtK E n k (out ++ [zcP (Wp E out) n n])
def zjw : Option (List Int) → FV
 | none => .tup [.list 1 [], .bool false]
 | some l => .tup [.list 1 (l.map zp), .bool true]
set_option maxHeartbeats 4000000 in
theorem zfa (n : Nat) (E : List (Nat × Nat)) (hn : n ≤ 1000) (hE : E.length ≤ 1000000) : yc Try.prog 25 [.int .i64 n, .list 2 (E.map edf)] .sh (zjw (rtK E n n [])) := by
 obtain ⟨R, hR⟩ : ∃ R, rtK E n n [] = R := ⟨_, rfl⟩
 rw [hR]
 have hres : (zjw R).hand = none := by cases R <;> rfl
 refine yc.of_body (c := (xB Try.prog zE zq 37)) ⟨Try.func25, rfl, Try.ntmps25, by kernel_rfl⟩ (by simp [FV.hand]) (by exact Nat.le_of_ble_eq_true rfl) hres ?_
 change FW _ _ _ ⟨[(0, .int .i64 n), (1, .list 2 (E.map edf))], []⟩
 (repeat (first | refine FW.seq ?_ | refine FW.region ?_ | refine FW.block ?_ | refine zd.nil ?_ | refine za rfl rfl rfl ?_))
 refine FW.loop (fun out : List Int => ⟨[(0, .int .i64 n), (1, .list 2 (E.map edf)), (6, .own 100 0 0 out.length)], [(100, ⟨0, .own, 3, 1, out.map zp⟩)]⟩) (fun out => ∃ k, out.length + k = n ∧ rtK E n k out = R) (fun out => n - out.length) [] ⟨n, by simp, hR⟩ ?_ ?_
 ·exact (FLe.cv [⟨100, none, 0, ⟨0, .own, 3, 1, []⟩⟩] (by repeat (first | exact .nil | refine .new ?_)) (by repeat (first | exact .nil | refine .cons (.plain rfl rfl rfl) ?_ | refine .cons (.nil rfl (.head _) rfl) ?_)))
 clear hR
 rintro out ⟨k, hk, hR⟩
 (repeat (first | refine FW.seq ?_ | refine FW.region ?_ | refine zd.nil ?_ | refine zb rfl rfl rfl ?_ | refine yp rfl rfl rfl (by decide) rfl rfl ?_ | refine zN rfl rfl rfl rfl ?_))
 refine FW.cond rfl (fun h => ?_) (fun h => ?_)
 ·obtain ⟨k, rfl⟩ : ∃ k', k = k' + 1 := ⟨k - 1, by simp at h; omega⟩
  clear h
  unfold rtK at hR
  (repeat (first | refine FW.seq ?_ | refine FW.region ?_ | refine FW.block ?_ | refine FW.skip ?_ | refine zd.nil ?_ | refine za rfl rfl rfl ?_ | refine zb rfl rfl rfl ?_ | refine Yv rfl rfl (by omega) rfl rfl ?_))
  refine FW.loop (fun j : Nat => ⟨[(0, .int .i64 n), (1, .list 2 (E.map edf)), (6, .own 100 0 0 out.length), (7, .int .i64 (zcP (Wp E out) n j)), (8, .int .i64 ((n : Int) - 1 - j))], [(100, ⟨0, .own, 3, 1, out.map zp⟩)]⟩) (fun j => j ≤ n) (fun j => n - j) 0 (Nat.zero_le _) ?_ ?_
  ·exact (FLe.cv [⟨100, some 100, 0, ⟨0, .own, 3, 1, out.map zp⟩⟩] (by repeat (first | exact .nil | refine .old rfl (by decide) (by first | rfl | (refine congrArg (FV.int .i64) ?_; omega)) ?_)) (by repeat (first | exact .nil | refine .cons (.plain rfl rfl (by first | rfl | (refine congrArg (FV.int .i64) ?_; omega))) ?_ | refine .cons (.own rfl (.head _) rfl (by first | rfl | (refine congrArg (FV.int .i64) ?_; omega))) ?_)))
  intro j hj
  (repeat (first | refine FW.seq ?_ | refine FW.region ?_ | refine zd.nil ?_ | refine zb rfl rfl rfl ?_ | refine Yu rfl rfl rfl rfl ?_))
  refine FW.cond rfl (fun h => ?_) (fun h => ?_)
  ·have hlt : j < n := by simp at h; omega
   clear h
   obtain ⟨v, hv⟩ : ∃ v, n - (j + 1) = v := ⟨_, rfl⟩
   have hvi : (n : Int) - 1 - j = v := by omega
   have hst : zcP (Wp E out) n (j + 1) = if (!zeS out v && Xe E v out) = true then (v : Int) else zcP (Wp E out) n j := by
    show (if Wp E out (n - (j + 1)) = true then ((n - (j + 1) : Nat) : Int) else _) = _
    rw [hv]; rfl
   obtain ⟨L, hL⟩ : ∃ L, zcP (Wp E out) n j = L := ⟨_, rfl⟩
   rw [hL] at hst ⊢
   rw [hvi]
   (repeat (first | refine FW.seq ?_ | refine FW.region ?_ | refine FW.block ?_ | refine FW.skip ?_ | refine zb rfl rfl rfl ?_))
   refine zX (zd0 out v (by omega)) (by repeat (first | exact zx.nil | refine zx.cons (by first | exact yI.plain rfl rfl | exact yI.own rfl rfl (by decide) (by first | exact (fun _ => rfl) | (intro h; cases h)) (by first | rfl | (simp; done) | (congr 1; omega) | (simp; omega) | (simp [List.take_of_length_le]; done) | (refine congrArg (FV.int .i64) ?_; omega))) ?_)) rfl rfl ?_
   (repeat (first | refine zb rfl rfl rfl ?_ | refine xd rfl rfl rfl ?_))
   refine zO (fun h1 => ?_) (fun h1 => ?_)
   ·(repeat (first | refine zb rfl rfl ⟨_, _, rfl, rfl, rfl⟩ ?_))
    refine zX (zfg E v out hE (by omega)) (by repeat (first | exact zx.nil | refine zx.cons (by first | exact yI.plain rfl rfl | exact yI.own rfl rfl (by decide) (by first | exact (fun _ => rfl) | (intro h; cases h)) (by first | rfl | (simp; done) | (congr 1; omega) | (simp; omega) | (simp [List.take_of_length_le]; done) | (refine congrArg (FV.int .i64) ?_; omega))) ?_)) rfl ⟨_, _, rfl, rfl, rfl⟩ ?_
    (repeat (first | refine zd.nil ?_ | refine zu rfl rfl rfl rfl ?_))
    rw [h1, Bool.true_and] at hst
    refine FW.cond rfl (fun h2 => ?_) (fun h2 => ?_)
    ·rw [h2, if_pos rfl] at hst
     (repeat (first | refine FW.region ?_ | refine zd.nil ?_ | refine za rfl rfl rfl ?_ | refine zb rfl rfl rfl ?_ | refine Yv rfl rfl (by omega) rfl rfl ?_))
     refine ⟨j + 1, by omega, by omega, ?_⟩
     rw [hst]
     exact (FLe.cv [⟨100, some 100, 0, ⟨0, .own, 3, 1, out.map zp⟩⟩] (by repeat (first | exact .nil | refine .old rfl (by decide) (by first | rfl | (refine congrArg (FV.int .i64) ?_; omega)) ?_)) (by repeat (first | exact .nil | refine .cons (.plain rfl rfl (by first | rfl | (refine congrArg (FV.int .i64) ?_; omega))) ?_ | refine .cons (.own rfl (.head _) rfl (by first | rfl | (refine congrArg (FV.int .i64) ?_; omega))) ?_)))
    ·rw [h2, if_neg (by decide)] at hst
     (repeat (first | refine FW.region ?_ | refine FW.skip ?_ | refine zd.nil ?_ | refine za rfl rfl rfl ?_ | refine zb rfl rfl rfl ?_ | refine Yv rfl rfl (by omega) rfl rfl ?_))
     refine ⟨j + 1, by omega, by omega, ?_⟩
     rw [hst]
     exact (FLe.cv [⟨100, some 100, 0, ⟨0, .own, 3, 1, out.map zp⟩⟩] (by repeat (first | exact .nil | refine .old rfl (by decide) (by first | rfl | (refine congrArg (FV.int .i64) ?_; omega)) ?_)) (by repeat (first | exact .nil | refine .cons (.plain rfl rfl (by first | rfl | (refine congrArg (FV.int .i64) ?_; omega))) ?_ | refine .cons (.own rfl (.head _) rfl (by first | rfl | (refine congrArg (FV.int .i64) ?_; omega))) ?_)))
   ·rw [h1, Bool.false_and, if_neg (by decide)] at hst
    (repeat (first | refine FW.region ?_ | refine FW.skip ?_ | refine FW.condF rfl ?_ | refine zd.nil ?_ | refine za rfl rfl rfl ?_ | refine zb rfl rfl rfl ?_ | refine Yv rfl rfl (by omega) rfl rfl ?_ | refine zn rfl rfl rfl rfl ?_ | refine zK rfl rfl ⟨_, _, rfl, rfl, rfl⟩ ?_))
    refine ⟨j + 1, by omega, by omega, ?_⟩
    rw [hst]
    exact (FLe.cv [⟨100, some 100, 0, ⟨0, .own, 3, 1, out.map zp⟩⟩] (by repeat (first | exact .nil | refine .old rfl (by decide) (by first | rfl | (refine congrArg (FV.int .i64) ?_; omega)) ?_)) (by repeat (first | exact .nil | refine .cons (.plain rfl rfl (by first | rfl | (refine congrArg (FV.int .i64) ?_; omega))) ?_ | refine .cons (.own rfl (.head _) rfl (by first | rfl | (refine congrArg (FV.int .i64) ?_; omega))) ?_)))
  ·obtain rfl : j = n := by simp at h; omega
   clear h hj
   have hLr := zd9 (Wp E out) j j
   obtain ⟨L, hL⟩ : ∃ L, zcP (Wp E out) j j = L := ⟨_, rfl⟩
   rw [hL] at hR hLr ⊢
   (repeat (first | refine FW.seq ?_ | refine FW.region ?_ | refine FW.exit ?_ | refine zd.nil ?_ | refine zb rfl rfl rfl ?_ | refine zN rfl rfl rfl rfl ?_))
   refine FW.cond rfl (fun h => ?_) (fun h => ?_)
   ·rw [if_pos (by simpa using h)] at hR
    subst hR
    (repeat (first | refine FW.seq ?_ | refine FW.region ?_ | refine zd.nil ?_ | refine za rfl rfl rfl ?_))
    refine FW.le (s' := ⟨[(4, .list 1 []), (5, .bool false)], []⟩) ?_ (FLe.cv [] (by repeat (first | exact .nil)) (by repeat (first | exact .nil | refine .cons (.plain rfl rfl rfl) ?_ | refine .cons (.nilList rfl) ?_)))
    exact FW.ret ⟨.inl rfl, .sh (.cons (.tmp 4 rfl rfl) (.cons (.tmp 5 rfl rfl) .nil)) rfl rfl⟩
   ·rw [if_neg (by simpa using h)] at hR
    (repeat (first | refine FW.region ?_ | refine FW.skip ?_ | refine zd.nil ?_ | refine za rfl rfl rfl ?_ | refine zb rfl rfl rfl ?_ | refine yg rfl rfl rfl rfl rfl rfl rfl rfl ?_ | refine xa rfl rfl (by first | exact (List.length_map _).symm | (simp; done) | (simp; omega)) rfl rfl rfl (by decide) (by exact xi.own rfl rfl (by decide) (by first | exact List.length_map _ | exact (List.length_map _).symm | exact List.length_replicate | rfl | (simp; done) | omega | (simp; omega))) (by first | (simp; omega) | (simp; done)) (by first | (simp; omega) | (simp; done)) rfl rfl rfl ?_))
    refine ⟨out ++ [L], ⟨k, by simp; omega, hR⟩, by simp; omega, ?_⟩
    rw [List.length_append, List.map_append]
    exact (FLe.cv [⟨100, some 35, 0 + 1, ⟨0, .own, 3, 1, out.map zp ++ [L].map zp⟩⟩] (by repeat (first | exact .nil | refine .old rfl (by decide) (by first | rfl | (simp; done)) ?_)) (by repeat (first | exact .nil | refine .cons (.plain rfl rfl (by first | rfl | (simp; done))) ?_ | refine .cons (.own rfl (.head _) rfl (by first | rfl | (simp; done))) ?_)))
 ·obtain rfl : k = 0 := by simp at h; omega
  unfold rtK at hR
  subst hR
  (repeat (first | refine FW.seq ?_ | refine FW.region ?_ | refine FW.exit ?_ | refine zd.nil ?_ | refine za rfl rfl rfl ?_ | refine zb rfl rfl rfl ?_))
  refine FW.le ?_ (FLe.share 4 rfl rfl (by simp))
  exact FW.ret ⟨.inl rfl, .sh (.cons (.tmp 4 rfl rfl) (.cons (.tmp 5 rfl rfl) .nil)) rfl rfl⟩
end Go.Proofs.Ytokmanfcndelfaa
/-
 graph.Topo and the reference take the same vertices in the same order.
-/
namespace Go.Proofs.Ytokmanfcndelfaa
set_option linter.unusedVariables false

theorem zcd (p : Nat → Bool) (n : Nat) : ∀ k, k ≤ n → (zcP p n k = -1 ∧ ∀ v, n - k ≤ v → v < n → p v = false) ∨ ∃ v, zcP p n k = (v : Nat) ∧ n - k ≤ v ∧ v < n ∧ p v = true ∧ ∀ u, n - k ≤ u → u < v → p u = false
 | 0, _ => .inl ⟨rfl, fun v h1 h2 => by omega⟩
 | k + 1, hk => by
  have ih := zcd p n k (by omega)
  unfold zcP
  by_cases hp : p (n - (k + 1)) = true
  ·rw [if_pos hp]
   exact .inr ⟨_, rfl, Nat.le_refl _, by omega, hp, fun u h1 h2 => by omega⟩
  ·rw [if_neg hp]
   have hp' : p (n - (k + 1)) = false := by simpa using hp
   rcases ih with ⟨e, h⟩ | ⟨v, e, h1, h2, h3, h4⟩
   ·refine .inl ⟨e, fun v q1 q2 => ?_⟩
    by_cases hv : v = n - (k + 1)
    ·subst hv; exact hp'
    ·exact h v (by omega) q2
   ·refine .inr ⟨v, e, by omega, h2, h3, fun u q1 q2 => ?_⟩
    by_cases hv : u = n - (k + 1)
    ·subst hv; exact hp'
    ·exact h4 u (by omega) q2
theorem zgU {n : Nat} {E : List (Nat × Nat)} (h : InN n E) (out : List Int) (v : Nat) : Xe E v out = true ↔ zcN n E out v = 0 := by
 unfold Xe zcN
 rw [List.all_eq_true, List.countP_eq_zero]
 constructor
 ·intro hr u hu hc
  simp only [Bool.and_eq_true, decide_eq_true_eq] at hc
  obtain ⟨e, he, h1, h2⟩ := yM.1 hc.2
  have := hr e he
  subst h1
  have h3 : ((e.2 : Nat) : Int) = (v : Int) := h2
  rw [h3] at this
  unfold zeS at this
  simp at this
  exact hc.1 this
 ·intro hc e he
  have hin := h e he
  by_cases hv : ((e.2 : Nat) : Int) = v
  ·have := hc e.1 (List.mem_range.2 hin.1)
   simp only [Bool.and_eq_true, decide_eq_true_eq, not_and] at this
   unfold zeS
   by_cases hm : ((e.1 : Nat) : Int) ∈ out
   ·simp [hm]
   ·exact absurd (yM.2 ⟨e, he, rfl, hv⟩) (this hm)
  ·simp [hv]
theorem TI.next {n : Nat} {E : List (Nat × Nat)} (hE : InN n E) {s : zbq} (h : TI n E s) (v : Nat) (hv : v < n) : Wp E s.out v = true ↔ (v : Int) ∈ s.h := by
 rw [h.hM, Int.toNat_natCast, h.cnt v hv]
 unfold Wp zeS
 rw [Bool.and_eq_true, zgU hE]
 constructor
 ·rintro ⟨h1, h2⟩
  exact ⟨by omega, by simpa using h1, by omega⟩
 ·rintro ⟨_, h1, h2⟩
  exact ⟨by simpa using h1, by omega⟩
theorem zek {n : Nat} {E : List (Nat × Nat)} (hE : InN n E) : ∀ (k f : Nat) (s : zbq), TI n E s → s.out.length + k = n → n < s.out.length + f → rtK E n k s.out = if (yd E f s).out.length < n then none else some (yd E f s).out
 | k, 0, s, h, _, hf => by have := h.le; omega
 | k, f + 1, s, h, hk, hf => by
  have hl := zcd (Wp E s.out) n n (Nat.le_refl _)
  by_cases h0 : s.h = []
  ·rw [Wa E (f + 1) s h0]
   cases k with
   | zero =>
    rw [if_neg (by omega)]; rfl
   | succ k =>
    rw [if_pos (by omega)]
    unfold rtK
    rcases hl with ⟨e, _⟩ | ⟨v, e, _, h2, h3, _⟩
    ·rw [if_pos (by omega)]
    ·have := (h.next hE v h2).1 h3
     rw [h0] at this; cases this
  ·obtain ⟨q, hq⟩ : ∃ q, s.h.length = q + 1 := ⟨s.h.length - 1, by have := List.length_pos_iff.2 h0; omega⟩
   obtain ⟨v, hv, hvn, hvo, hm0, hmin, hD, hN, hR⟩ := h.first hq
   have hvh : (v : Int) ∈ s.h := by
    rw [h.hM]; exact ⟨by omega, hvo, by rw [Int.toNat_natCast]; exact hm0⟩
   have hso : (yS E s).out = s.out ++ [(v : Int)] := by
    unfold yS
    dsimp only
    rw [show s.h.length - 1 = q by omega, hv]
   have e1 : yd E (f + 1) s = yd E f (yS E s) := if_neg h0
   cases k with
   | zero =>
    have := xT hN hR
    simp at this
    omega
   | succ k =>
    have hlv : zcP (Wp E s.out) n n = v := by
     rcases hl with ⟨_, hno⟩ | ⟨u, e, _, h2, h3, h4⟩
     ·have := hno v (by omega) hvn
      rw [(h.next hE v hvn).2 hvh] at this; cases this
     ·have hu := (h.next hE u h2).1 h3
      have hle := hmin _ hu
      rcases Nat.lt_or_ge v u with hlt | hge
      ·have := h4 v (by omega) hlt
       rw [(h.next hE v hvn).2 hvh] at this; cases this
      ·rw [e]; omega
    unfold rtK
    rw [hlv, if_neg (by omega), ← hso, e1]
    exact zek hE k f (yS E s) (h.step hE h0) (by rw [YB]; omega) (by rw [YB]; omega)
theorem zdC {n : Nat} {E : List (Nat × Nat)} (hE : InN n E) : rtK E n n [] = if (yB n E).length < n then none else some (yB n E) :=
 zek hE n (n + 1) (yq n E) (TI.start hE) (Nat.zero_add n) (by show n < 0 + (n + 1); omega)
end Go.Proofs.Ytokmanfcndelfaa
/-
 The reference's walks and its Cycle.
-/
namespace Go.Proofs.Ytokmanfcndelfaa
set_option linter.unusedVariables false
open Go.RowKit

def Wn : List Int → List Int → Bool
 | x :: a, y :: b => if x = y then Wn a b else decide (x < y)
 | [], b => decide (0 < b.length)
 | _ :: _, [] => false
theorem zeX {a b : List Int} {i : Nat} (ha : i < a.length) (hb : i < b.length) : Wn (a.drop i) (b.drop i) = if nth a i = nth b i then Wn (a.drop (i + 1)) (b.drop (i + 1)) else decide (nth a i < nth b i) := by
 rw [List.drop_eq_getElem_cons ha, List.drop_eq_getElem_cons hb, nth_eq ha, nth_eq hb]; rfl
theorem zca {a b : List Int} {i : Nat} (hi : i ≤ a.length) (h : ¬ (i < a.length ∧ i < b.length)) (hb : i ≤ b.length) : Wn (a.drop i) (b.drop i) = decide ((a.length : Int) < b.length) := by
 rcases Nat.lt_or_ge i a.length with h1 | h1
 ·have h2 : b.length = i := by omega
  rw [show b.drop i = [] from List.drop_of_length_le (by omega), List.drop_eq_getElem_cons h1]
  show false = _
  simp; omega
 ·rw [List.drop_of_length_le h1]
  show decide (0 < (b.drop i).length) = _
  rw [List.length_drop]
  rcases Nat.lt_or_ge i b.length with h2 | h2
  ·simp; omega
  ·simp; omega
set_option maxHeartbeats 4000000 in
theorem zgF (a b : List Int) (ha : a.length ≤ 1000000) (hb : b.length ≤ 1000000) : yc Try.prog 60 [.list 1 (a.map zp), .list 1 (b.map zp)] .fr (.bool (Wn a b)) := by
 refine yc.of_body (c := (xB Try.prog zE zq 41)) ⟨Try.func60, rfl, Try.ntmps60, by kernel_rfl⟩ (by simp [FV.hand]) (by exact Nat.le_of_ble_eq_true rfl) rfl ?_
 change FW _ _ _ ⟨[(0, .list 1 (a.map zp)), (1, .list 1 (b.map zp))], []⟩
 (repeat (first | refine FW.seq ?_ | refine FW.region ?_ | refine FW.block ?_ | refine zd.nil ?_ | refine za rfl rfl rfl ?_))
 refine FW.loop (fun i : Nat => ⟨[(0, .list 1 (a.map zp)), (1, .list 1 (b.map zp)), (5, .int .i64 i)], []⟩) (fun i => i ≤ a.length ∧ i ≤ b.length ∧ Wn (a.drop i) (b.drop i) = Wn a b) (fun i => a.length - i) 0 ⟨Nat.zero_le _, Nat.zero_le _, rfl⟩ (FLe.cv [] (by repeat (first | exact .nil)) (by repeat (first | exact .nil | refine .cons (.plain rfl rfl rfl) ?_))) ?_
 rintro i ⟨hi, hj, hR⟩
 obtain ⟨R, hRR⟩ : ∃ R, Wn a b = R := ⟨_, rfl⟩
 rw [hRR] at hR ⊢
 (repeat (first | refine FW.seq ?_ | refine FW.region ?_ | refine zb rfl rfl rfl ?_ | refine zg rfl rfl (by exact List.length_map _) rfl rfl ?_ | refine zN rfl rfl rfl rfl ?_))
 refine zO (fun h1 => ?_) (fun h1 => ?_)
 ·have h1' : i < a.length := by simpa using h1
  (repeat (first | refine zd.nil ?_ | refine zu rfl rfl rfl rfl ?_ | refine zb rfl rfl ⟨_, _, rfl, rfl, rfl⟩ ?_ | refine zg rfl rfl (by exact List.length_map _) rfl ⟨_, _, rfl, rfl, rfl⟩ ?_ | refine zN rfl rfl rfl ⟨_, _, rfl, rfl, rfl⟩ ?_))
  refine FW.cond rfl (fun h2 => ?_) (fun h2 => ?_)
  ·have h2' : i < b.length := by simpa using h2
   rw [zeX h1' h2'] at hR
   (repeat (first | refine FW.seq ?_ | refine FW.block ?_ | refine FW.skip ?_ | refine FW.draw ?_ | refine zL.nil ?_ | refine zD rfl rfl rfl ?_ | refine zJ rfl rfl rfl rfl rfl rfl (by simp; omega) rfl rfl ?_ | refine zR rfl rfl rfl (by simp; omega) (by first | exact zc (by omega) | rfl) rfl rfl rfl rfl ?_ | refine zay rfl rfl rfl rfl ?_))
   refine ⟨by kernel_rfl, ?_⟩
   skip
   refine FW.cond rfl (fun h3 => ?_) (fun h3 => ?_)
   ·rw [if_neg (by simpa using h3)] at hR
    (repeat (first | refine FW.seq ?_ | refine FW.draw ?_ | refine zL.nil ?_ | refine yi rfl rfl rfl ?_ | refine zD rfl rfl rfl ?_ | refine zax rfl rfl rfl rfl ?_ | refine zJ rfl rfl rfl rfl rfl rfl (by simp; omega) rfl rfl ?_ | refine zR rfl rfl rfl (by simp; omega) (by first | exact zc (by omega) | rfl) rfl rfl rfl rfl ?_))
    refine ⟨by kernel_rfl, ?_⟩
    skip
    exact FW.ret ⟨.inl rfl, zj rfl rfl (congrArg FV.bool hR) rfl⟩
   ·rw [if_pos (by simpa using h3)] at hR
    (repeat (first | refine FW.region ?_ | refine FW.skip ?_ | refine zd.nil ?_ | refine za rfl rfl rfl ?_ | refine zb rfl rfl rfl ?_ | refine zw rfl rfl (by omega) rfl rfl ?_))
    exact ⟨i + 1, ⟨by omega, by omega, hR⟩, by omega, (FLe.cv [] (by repeat (first | exact .nil)) (by repeat (first | exact .nil | refine .cons (.plain rfl rfl rfl) ?_)))⟩
  ·rw [zca hi (fun q => by simp at h2; omega) hj] at hR
   (repeat (first | refine FW.seq ?_ | refine FW.region ?_ | refine FW.exit ?_ | refine zd.nil ?_ | refine za rfl rfl rfl ?_ | refine zb rfl rfl rfl ?_ | refine zg rfl rfl (by exact List.length_map _) rfl rfl ?_ | refine zN rfl rfl rfl rfl ?_))
   exact FW.ret ⟨.inl rfl, zj rfl rfl (congrArg FV.bool hR) rfl⟩
 ·rw [zca hi (fun q => by simp at h1; omega) hj] at hR
  (repeat (first | refine FW.seq ?_ | refine FW.region ?_ | refine FW.exit ?_ | refine FW.condF rfl ?_ | refine zd.nil ?_ | refine za rfl rfl rfl ?_ | refine zb rfl rfl rfl ?_ | refine zg rfl rfl (by first | exact List.length_map _ | rfl) rfl rfl ?_ | refine zN rfl rfl rfl rfl ?_ | refine zn rfl rfl rfl rfl ?_ | refine zK rfl rfl ⟨_, _, rfl, rfl, rfl⟩ ?_))
  exact FW.ret ⟨.inl rfl, zj rfl rfl (congrArg FV.bool hR) rfl⟩
def zbp : List Int → FV
 | [] => .nil
 | x :: l => .list 1 ((x :: l).map zp)
def ZC (l : List Int) : List FV := [zbp l]
def xe (out : List (List Int)) (tg ab k v w : Nat) : List Int := if k = 1 then (if w = tg then [(v : Int)] else []) else if ab < w ∧ nth out w ≠ [] then (v : Int) :: nth out w else []
def zae (E : List (Nat × Nat)) (out : List (List Int)) (tg ab k v : Nat) (cur : List Int) (w : Nat) : List Int :=
 if Yd E v w = true ∧ xe out tg ab k v w ≠ [] ∧ (cur = [] ∨ Wn (xe out tg ab k v w) cur = true) then xe out tg ab k v w else cur
def zcO (E : List (Nat × Nat)) (out : List (List Int)) (tg ab k v j : Nat) : List Int := (List.range j).foldl (zae E out tg ab k v) []
def Zm (E : List (Nat × Nat)) (out : List (List Int)) (tg ab k n i : Nat) : List (List Int) := (List.range n).map fun v => if v < i then zcO E out tg ab k v n else []
def yf (E : List (Nat × Nat)) (tg ab n : Nat) : Nat → List (List Int)
 | 0 => List.replicate n []
 | k + 1 => Zm E (yf E tg ab n k) tg ab (k + 1) n n
theorem YM (E : List (Nat × Nat)) (out : List (List Int)) (tg ab k n i : Nat) : (Zm E out tg ab k n i).length = n := by simp [Zm]
theorem Ya (E : List (Nat × Nat)) (tg ab n : Nat) : ∀ k, (yf E tg ab n k).length = n
 | 0 => by simp [yf]
 | k + 1 => YM _ _ _ _ _ _ _
theorem zaN {out : List (List Int)} {tg ab k v w B : Nat} (h : ∀ r ∈ out, r.length ≤ B) : (xe out tg ab k v w).length ≤ B + 1 := by
 have hn : (nth out w).length ≤ B := by
  rcases Nat.lt_or_ge w out.length with hw | hw
  ·exact h _ (zI hw)
  ·have : nth out w = [] := by unfold nth; rw [List.getD_eq_getElem?_getD, List.getElem?_eq_none hw]; rfl
   rw [this]; exact Nat.zero_le _
 unfold xe
 split
 ·split <;> simp
 ·split
  ·simp; omega
  ·simp
theorem zaV {E : List (Nat × Nat)} {out : List (List Int)} {tg ab k v B : Nat} (h : ∀ r ∈ out, r.length ≤ B) : ∀ j, (zcO E out tg ab k v j).length ≤ B + 1
 | 0 => Nat.zero_le _
 | j + 1 => by
  have e : zcO E out tg ab k v (j + 1) = zae E out tg ab k v (zcO E out tg ab k v j) j := by
   unfold zcO
   rw [List.range_succ, List.foldl_append]; rfl
  rw [e]
  unfold zae
  split
  ·exact zaN h
  ·exact zaV h j
theorem WB (E : List (Nat × Nat)) (tg ab n : Nat) : ∀ k, ∀ r ∈ yf E tg ab n k, r.length ≤ k
 | 0 => fun r hr => by rw [List.eq_of_mem_replicate hr]; exact Nat.le_refl _
 | k + 1 => fun r hr => by
  obtain ⟨v, _, rfl⟩ := List.mem_map.1 hr
  split
  ·exact zaV (WB E tg ab n k) n
  ·simp
theorem zbD (E : List (Nat × Nat)) (out : List (List Int)) (tg ab k v j : Nat) : zcO E out tg ab k v (j + 1) = zae E out tg ab k v (zcO E out tg ab k v j) j := by
 unfold zcO
 rw [List.range_succ, List.foldl_append]; rfl
theorem ze5 (E : List (Nat × Nat)) (out : List (List Int)) (tg ab k n i : Nat) : (Zm E out tg ab k n i).set i (zcO E out tg ab k i n) = Zm E out tg ab k n (i + 1) := by
 unfold Zm
 rw [Uf]
 refine List.map_congr_left fun v _ => ?_
 by_cases e : v = i
 ·subst e; rw [if_pos rfl, if_pos (by omega)]
 ·rw [if_neg e]
  by_cases h : v < i
  ·rw [if_pos h, if_pos (by omega)]
  ·rw [if_neg h, if_neg (by omega)]
theorem ze4 {E : List (Nat × Nat)} {out : List (List Int)} {tg ab k n i : Nat} (h : i < n) : nth (Zm E out tg ab k n i) i = [] := by
 rw [nth_eq (by rw [YM]; exact h)]
 simp [Zm]
set_option maxHeartbeats 4000000 in
theorem zfK (n : Nat) (E : List (Nat × Nat)) (tg ab len : Nat) (hn : n ≤ 1000) (hE : E.length ≤ 1000000) (ht : tg ≤ 1000) (hab : ab ≤ 1000) (hlen : len ≤ 1000) : yc Try.prog 51 [.int .i64 n, .list 2 (E.map edf), .int .i64 tg, .int .i64 ab, .int .i64 len] .sh (.list 1 ((yf E tg ab n len).map ZC)) := by
 refine yc.of_body (c := (xB Try.prog zE zq 97)) ⟨Try.func51, rfl, Try.ntmps51, by kernel_rfl⟩ (by simp [FV.hand]) (by exact Nat.le_of_ble_eq_true rfl) rfl ?_
 change FW _ _ _ ⟨[(0, .int .i64 n), (1, .list 2 (E.map edf)), (2, .int .i64 tg), (3, .int .i64 ab), (4, .int .i64 len)], []⟩
 (repeat (first | refine FW.seq ?_ | refine FW.region ?_ | refine FW.block ?_ | refine zd.nil ?_ | refine za rfl rfl rfl ?_ | refine zb rfl rfl rfl ?_ | refine Uq rfl rfl rfl rfl rfl rfl rfl rfl (by omega) (by omega) rfl rfl rfl ?_))
 refine FW.loop (fun k : Nat => ⟨[(0, .int .i64 n), (1, .list 2 (E.map edf)), (2, .int .i64 tg), (3, .int .i64 ab), (4, .int .i64 len), (11, .list 1 ((yf E tg ab n k).map ZC)), (12, .int .i64 (k + 1 : Nat))], []⟩) (fun k => k ≤ len) (fun k => len - k) 0 (Nat.zero_le _) ?_ ?_
 ·rw [show List.replicate n [FV.nil] = (yf E tg ab n 0).map ZC by show _ = (List.replicate n []).map ZC; rw [List.map_replicate]; rfl]
  refine (FLe.share 11 rfl rfl (by rw [List.length_map, Ya])).trans ?_
  exact (FLe.cv [] (by repeat (first | exact .nil)) (by repeat (first | exact .nil | refine .cons (.plain rfl rfl rfl) ?_)))
 intro k hk
 have hwl := Ya E tg ab n k
 have hwr := WB E tg ab n k
 have hws : yf E tg ab n (k + 1) = Zm E (yf E tg ab n k) tg ab (k + 1) n n := rfl
 (repeat (first | refine FW.seq ?_ | refine FW.region ?_ | refine zd.nil ?_ | refine zb rfl rfl rfl ?_ | refine zg1 rfl rfl rfl rfl ?_))
 refine FW.cond rfl (fun h => ?_) (fun h => ?_)
 ·have hlt : k < len := by simp at h; omega
  clear h
  obtain ⟨O, hO⟩ : ∃ O, yf E tg ab n k = O := ⟨_, rfl⟩
  rw [hO] at hwl hwr hws ⊢
  obtain ⟨kk, hkk⟩ : ∃ kk, k + 1 = kk := ⟨_, rfl⟩
  rw [hkk] at hws ⊢
  (repeat (first | refine FW.seq ?_ | refine FW.region ?_ | refine FW.block ?_ | refine FW.skip ?_ | refine zd.nil ?_ | refine za rfl rfl rfl ?_ | refine zb rfl rfl rfl ?_ | refine Uq rfl rfl rfl rfl rfl rfl rfl rfl (by omega) (by omega) rfl rfl rfl ?_))
  rw [show List.replicate n [FV.nil] = (Zm E O tg ab kk n 0).map ZC by
   unfold Zm; rw [List.map_map, zcl]; exact List.map_congr_left fun v _ => by simp [ZC, zbp]]
  refine FW.loop (fun v : Nat => ⟨[(0, .int .i64 n), (1, .list 2 (E.map edf)), (2, .int .i64 tg), (3, .int .i64 ab), (4, .int .i64 len), (11, .list 1 (O.map ZC)), (12, .int .i64 kk), (13, .own 100 0 0 n), (14, .int .i64 v)], [(100, ⟨0, .own, 22, 1, (Zm E O tg ab kk n v).map ZC⟩)]⟩) (fun v => v ≤ n) (fun v => n - v) 0 (Nat.zero_le _) ?_ ?_
  ·exact (FLe.cv [⟨100, some 25, 0 + 1, ⟨0, .own, 22, 1, (Zm E O tg ab kk n 0).map ZC⟩⟩] (by repeat (first | exact .nil | refine .old rfl (by decide) rfl ?_)) (by repeat (first | exact .nil | refine .cons (.plain rfl rfl rfl) ?_ | refine .cons (.own rfl (.head _) rfl rfl) ?_)))
  intro v hv
  (repeat (first | refine FW.seq ?_ | refine FW.region ?_ | refine zd.nil ?_ | refine zb rfl rfl rfl ?_ | refine zN rfl rfl rfl rfl ?_))
  refine FW.cond rfl (fun h => ?_) (fun h => ?_)
  ·have hvn : v < n := by simpa using h
   clear h
   have hX0 := ze4 (E := E) (out := O) (tg := tg) (ab := ab) (k := kk) hvn
   have hXs := ze5 E O tg ab kk n v
   have hXl := YM E O tg ab kk n v
   generalize Zm E O tg ab kk n v = X at hX0 hXs hXl
   (repeat (first | refine FW.seq ?_ | refine FW.region ?_ | refine FW.block ?_ | refine FW.skip ?_ | refine zd.nil ?_ | refine za rfl rfl rfl ?_))
   refine FW.loop (fun w : Nat => ⟨[(0, .int .i64 n), (1, .list 2 (E.map edf)), (2, .int .i64 tg), (3, .int .i64 ab), (4, .int .i64 len), (11, .list 1 (O.map ZC)), (12, .int .i64 kk), (13, .own 100 0 0 n), (14, .int .i64 v), (15, .int .i64 w)], [(100, ⟨0, .own, 22, 1, (X.set v (zcO E O tg ab kk v w)).map ZC⟩)]⟩) (fun w => w ≤ n) (fun w => n - w) 0 (Nat.zero_le _) ?_ ?_
   ·show FLe _ ⟨[(0, .int .i64 n), (1, .list 2 (E.map edf)), (2, .int .i64 tg), (3, .int .i64 ab), (4, .int .i64 len), (11, .list 1 (O.map ZC)), (12, .int .i64 kk), (13, .own 100 0 0 n), (14, .int .i64 v), (15, .int .i64 0)], [(100, ⟨0, .own, 22, 1, (X.set v []).map ZC⟩)]⟩
    rw [show X.set v [] = X by rw [← hX0, nth_eq (by omega)]; exact List.set_getElem_self _]
    exact (FLe.cv [⟨100, some 100, 0, ⟨0, .own, 22, 1, X.map ZC⟩⟩] (by repeat (first | exact .nil | refine .old rfl (by decide) rfl ?_)) (by repeat (first | exact .nil | refine .cons (.plain rfl rfl rfl) ?_ | refine .cons (.own rfl (.head _) rfl rfl) ?_)))
   intro w hw
   have hcl := zaV (E := E) (tg := tg) (ab := ab) (k := kk) (v := v) hwr w
   have hcs := zbD E O tg ab kk v w
   obtain ⟨C, hC⟩ : ∃ C, zcO E O tg ab kk v w = C := ⟨_, rfl⟩
   rw [hC] at hcs hcl ⊢
   have hYn : nth (X.set v C) v = C := zM (by omega)
   have hYl : (X.set v C).length = n := by rw [List.length_set]; exact hXl
   have hYs : ∀ C', (X.set v C).set v C' = X.set v C' := fun C' => by rw [List.set_set]
   obtain ⟨Y, hY⟩ : ∃ Y, X.set v C = Y := ⟨_, rfl⟩
   rw [hY] at hYn hYl hYs ⊢
   (repeat (first | refine FW.seq ?_ | refine FW.region ?_ | refine zd.nil ?_ | refine zb rfl rfl rfl ?_ | refine zN rfl rfl rfl rfl ?_))
   refine FW.cond rfl (fun h => ?_) (fun h => ?_)
   ·have hwn : w < n := by simpa using h
    clear h
    (repeat (first | refine FW.seq ?_ | refine FW.region ?_ | refine FW.block ?_ | refine FW.skip ?_ | refine zb rfl rfl rfl ?_))
    refine zX (zeW E v w hE) (by repeat (first | exact zx.nil | refine zx.cons (by exact yI.plain rfl rfl) ?_)) rfl rfl ?_
    (repeat (first | refine zd.nil ?_ | refine xd rfl rfl rfl ?_))
    refine FW.cond rfl (fun h => ?_) (fun h => ?_)
    ·have hld : Yd E v w = false := by simpa using h
     have hst : zae E O tg ab kk v C w = C := by unfold zae; rw [if_neg (fun q => by rw [hld] at q; cases q.1)]
     rw [hst] at hcs
     (repeat (first | refine FW.region ?_ | refine FW.exit ?_ | refine zd.nil ?_ | refine za rfl rfl rfl ?_ | refine zb rfl rfl rfl ?_ | refine zw rfl rfl (by omega) rfl rfl ?_))
     refine ⟨w + 1, by omega, by omega, ?_⟩
     rw [hcs, hY]
     exact (FLe.cv [⟨100, some 100, 0, ⟨0, .own, 22, 1, Y.map ZC⟩⟩] (by repeat (first | exact .nil | refine .old rfl (by decide) rfl ?_)) (by repeat (first | exact .nil | refine .cons (.plain rfl rfl rfl) ?_ | refine .cons (.own rfl (.head _) rfl rfl) ?_)))
    ·have hld : Yd E v w = true := by simpa using h
     clear h
     refine FW.skip ?_
     refine FW.seq ?_
     refine FW.region ?_
     refine za rfl rfl rfl ?_
     refine zd.nil ?_
     refine FW.seq ?_
     refine FW.join (fun _ : Unit => ⟨[(0, .int .i64 n), (1, .list 2 (E.map edf)), (2, .int .i64 tg), (3, .int .i64 ab), (4, .int .i64 len), (11, .list 1 (O.map ZC)), (12, .int .i64 kk), (13, .own 100 0 0 n), (14, .int .i64 v), (15, .int .i64 w), (16, zbp (if kk = 1 ∧ w = tg then [(v : Int)] else []))], [(100, ⟨0, .own, 22, 1, Y.map ZC⟩)]⟩) (fun _ => True) ?_ (fun _ _ => ?_)
     ·(repeat (first | refine FW.seq ?_ | refine FW.region ?_ | refine zb rfl rfl rfl ?_ | refine zU rfl rfl rfl rfl ?_))
      refine zO (fun h1 => ?_) (fun h1 => ?_)
      ·(repeat (first | refine zd.nil ?_ | refine zu rfl rfl rfl rfl ?_ | refine zb rfl rfl ⟨_, _, rfl, rfl, rfl⟩ ?_ | refine zU rfl rfl rfl ⟨_, _, rfl, rfl, rfl⟩ ?_))
       refine FW.cond rfl (fun h2 => ?_) (fun h2 => ?_)
       ·(repeat (first | refine FW.region ?_ | refine zd.nil ?_ | refine za rfl rfl rfl ?_ | refine zb rfl rfl rfl ?_ | refine yg rfl rfl rfl rfl rfl rfl rfl rfl ?_))
        refine ⟨rfl, (), trivial, ?_⟩
        rw [if_pos ⟨by simp at h1; omega, by simp at h2; omega⟩]
        refine (FLe.share 16 rfl rfl (by rfl)).trans ?_
        show FLe _ ⟨[(0, .int .i64 n), (1, .list 2 (E.map edf)), (2, .int .i64 tg), (3, .int .i64 ab), (4, .int .i64 len), (11, .list 1 (O.map ZC)), (12, .int .i64 kk), (13, .own 100 0 0 n), (14, .int .i64 v), (15, .int .i64 w), (16, .list 1 [[.int .i64 v]])], [(100, ⟨0, .own, 22, 1, Y.map ZC⟩)]⟩
        exact (FLe.cv [⟨100, some 100, 0, ⟨0, .own, 22, 1, Y.map ZC⟩⟩] (by repeat (first | exact .nil | refine .old rfl (by decide) rfl ?_)) (by repeat (first | exact .nil | refine .cons (.plain rfl rfl rfl) ?_ | refine .cons (.own rfl (.head _) rfl rfl) ?_)))
       ·(repeat (first | refine FW.skip ?_))
        refine ⟨rfl, (), trivial, ?_⟩
        rw [if_neg (fun q => by simp at h2; omega)]
        show FLe _ ⟨[(0, .int .i64 n), (1, .list 2 (E.map edf)), (2, .int .i64 tg), (3, .int .i64 ab), (4, .int .i64 len), (11, .list 1 (O.map ZC)), (12, .int .i64 kk), (13, .own 100 0 0 n), (14, .int .i64 v), (15, .int .i64 w), (16, .nil)], [(100, ⟨0, .own, 22, 1, Y.map ZC⟩)]⟩
        exact (FLe.cv [⟨100, some 100, 0, ⟨0, .own, 22, 1, Y.map ZC⟩⟩] (by repeat (first | exact .nil | refine .old rfl (by decide) rfl ?_)) (by repeat (first | exact .nil | refine .cons (.plain rfl rfl rfl) ?_ | refine .cons (.own rfl (.head _) rfl rfl) ?_)))
      ·(repeat (first | refine FW.skip ?_ | refine FW.condF rfl ?_ | refine zd.nil ?_ | refine zn rfl rfl rfl rfl ?_ | refine zK rfl rfl ⟨_, _, rfl, rfl, rfl⟩ ?_))
       refine ⟨rfl, (), trivial, ?_⟩
       rw [if_neg (fun q => by simp at h1; omega)]
       show FLe _ ⟨[(0, .int .i64 n), (1, .list 2 (E.map edf)), (2, .int .i64 tg), (3, .int .i64 ab), (4, .int .i64 len), (11, .list 1 (O.map ZC)), (12, .int .i64 kk), (13, .own 100 0 0 n), (14, .int .i64 v), (15, .int .i64 w), (16, .nil)], [(100, ⟨0, .own, 22, 1, Y.map ZC⟩)]⟩
       exact (FLe.cv [⟨100, some 100, 0, ⟨0, .own, 22, 1, Y.map ZC⟩⟩] (by repeat (first | exact .nil | refine .old rfl (by decide) rfl ?_)) (by repeat (first | exact .nil | refine .cons (.plain rfl rfl rfl) ?_ | refine .cons (.own rfl (.head _) rfl rfl) ?_)))
     refine FW.seq ?_
     refine FW.join (fun _ : Unit => ⟨[(0, .int .i64 n), (1, .list 2 (E.map edf)), (2, .int .i64 tg), (3, .int .i64 ab), (4, .int .i64 len), (11, .list 1 (O.map ZC)), (12, .int .i64 kk), (13, .own 100 0 0 n), (14, .int .i64 v), (15, .int .i64 w), (16, zbp (xe O tg ab kk v w))], [(100, ⟨0, .own, 22, 1, Y.map ZC⟩)]⟩) (fun _ => True) ?_ (fun _ _ => ?_)
     ·obtain ⟨W1, hW1⟩ : ∃ W1, zbp (if kk = 1 ∧ w = tg then [(v : Int)] else []) = W1 := ⟨_, rfl⟩
      have hh1 : W1 = .nil ∨ W1 = .list 1 [[.int .i64 v]] := by rw [← hW1]; split; exact .inr rfl; exact .inl rfl
      rw [hW1]
      (repeat (first | refine FW.seq ?_ | refine FW.region ?_ | refine zb rfl rfl rfl ?_ | refine xC rfl rfl rfl rfl ?_))
      refine zO (fun h1 => ?_) (fun h1 => ?_)
      ·have hk1 : ¬ kk = 1 := by simp at h1; omega
       unfold xe
       rw [if_neg hk1]
       (repeat (first | refine zb rfl rfl rfl ?_ | refine zu rfl rfl rfl rfl ?_ | refine zb rfl rfl ⟨_, _, rfl, rfl, rfl⟩ ?_ | refine xC rfl rfl rfl ⟨_, _, rfl, rfl, rfl⟩ ?_))
       refine zO (fun h2 => ?_) (fun h2 => ?_)
       ·have haw : ab < w := by simp at h2; omega
        have hol : (nth O w).length ≤ k := hwr _ (zI (by omega))
        (repeat (first | refine zb rfl rfl ⟨_, _, rfl, rfl, rfl⟩ ?_ | refine zh rfl rfl rfl rfl rfl rfl (by simp; omega) rfl ⟨_, _, rfl, rfl, rfl⟩ ?_ | refine zA rfl rfl rfl (by simp; omega) (by first | exact zc (by omega) | rfl) rfl rfl rfl ⟨_, _, rfl, rfl, rfl⟩ ?_))
        rcases hOw : nth O w with _ | ⟨x, r⟩
        ·(repeat (first | refine FW.skip ?_ | refine FW.condF rfl ?_ | refine zd.nil ?_ | refine zu rfl rfl rfl rfl ?_ | refine xC rfl rfl rfl ⟨_, _, rfl, rfl, rfl⟩ ?_ | refine XT rfl rfl rfl ⟨_, _, rfl, rfl, rfl⟩ ?_))
         refine ⟨rfl, (), trivial, ?_⟩
         rw [if_neg (fun q => q.2 rfl)]
         rw [if_neg (fun q => hk1 q.1)] at hW1
         subst hW1
         exact (FLe.cv [⟨100, some 100, 0, ⟨0, .own, 22, 1, Y.map ZC⟩⟩] (by repeat (first | exact .nil | refine .old rfl (by decide) rfl ?_)) (by repeat (first | exact .nil | refine .cons (.plain rfl rfl rfl) ?_ | refine .cons (.own rfl (.head _) rfl rfl) ?_)))
        ·rw [hOw] at hol
         have hrl : r.length + 1 ≤ k := hol
         have hpos : decide ((((x :: r).length : Nat) : Int) > 0) = true := by simp
         (repeat (first | refine zd.nil ?_ | refine zu rfl rfl rfl rfl ?_ | refine xC rfl rfl rfl ⟨_, _, rfl, rfl, rfl⟩ ?_ | refine zg rfl rfl (by exact List.length_map _) rfl ⟨_, _, rfl, rfl, rfl⟩ ?_))
         rw [hpos]
         (repeat (first | refine FW.region ?_ | refine FW.condT rfl ?_ | refine zb rfl rfl rfl ?_ | refine yg rfl rfl rfl rfl rfl rfl rfl rfl ?_ | refine zh rfl rfl rfl rfl rfl rfl (by simp; omega) rfl rfl ?_ | refine zA rfl rfl rfl (by simp; omega) (by first | exact zc (by omega) | rfl) rfl rfl rfl rfl ?_))
         rw [hOw]
         (repeat (first | refine zd.nil ?_ | refine za rfl rfl rfl ?_ | refine xa rfl rfl (by first | rfl | (simp; omega)) rfl rfl rfl (by decide) (by exact xi.list rfl) (by simp; omega) (by simp; omega) rfl rfl rfl ?_))
         refine ⟨rfl, (), trivial, ?_⟩
         rw [if_pos ⟨haw, List.cons_ne_nil _ _⟩]
         refine (FLe.share 16 rfl rfl (by rfl)).trans ?_
         obtain ⟨Q, hQ⟩ : ∃ Q, [[FV.int .i64 (v : Int)]] ++ (x :: r).map zp = Q := ⟨_, rfl⟩
         rw [show zbp ((v : Int) :: x :: r) = .list 1 Q by rw [← hQ]; rfl, hQ]
         exact (FLe.cv [⟨100, some 100, 0, ⟨0, .own, 22, 1, Y.map ZC⟩⟩] (by repeat (first | exact .nil | refine .old rfl (by decide) rfl ?_)) (by repeat (first | exact .nil | refine .cons (.plain rfl rfl rfl) ?_ | refine .cons (.own rfl (.head _) rfl rfl) ?_)))
       ·(repeat (first | refine FW.skip ?_ | refine FW.condF rfl ?_ | refine zd.nil ?_ | refine zn rfl rfl rfl rfl ?_ | refine zK rfl rfl ⟨_, _, rfl, rfl, rfl⟩ ?_))
        refine ⟨rfl, (), trivial, ?_⟩
        rw [if_neg (fun q => by simp at h2; omega)]
        rw [if_neg (fun q => hk1 q.1)] at hW1
        subst hW1
        exact (FLe.cv [⟨100, some 100, 0, ⟨0, .own, 22, 1, Y.map ZC⟩⟩] (by repeat (first | exact .nil | refine .old rfl (by decide) rfl ?_)) (by repeat (first | exact .nil | refine .cons (.plain rfl rfl rfl) ?_ | refine .cons (.own rfl (.head _) rfl rfl) ?_)))
      ·have hk1 : kk = 1 := by simp at h1; omega
       (repeat (first | refine FW.skip ?_ | refine FW.condF rfl ?_ | refine zd.nil ?_ | refine zb rfl rfl rfl ?_ | refine zn rfl rfl rfl rfl ?_ | refine zK rfl rfl ⟨_, _, rfl, rfl, rfl⟩ ?_))
       refine ⟨rfl, (), trivial, ?_⟩
       have : zbp (xe O tg ab kk v w) = W1 := by
        unfold xe
        rw [if_pos hk1, ← hW1]
        by_cases e : w = tg
        ·rw [if_pos e, if_pos ⟨hk1, e⟩]
        ·rw [if_neg e, if_neg (fun q => e q.2)]
       rw [this]
       clear this hW1
       rcases hh1 with rfl | rfl
       ·exact (FLe.cv [⟨100, some 100, 0, ⟨0, .own, 22, 1, Y.map ZC⟩⟩] (by repeat (first | exact .nil | refine .old rfl (by decide) rfl ?_)) (by repeat (first | exact .nil | refine .cons (.plain rfl rfl rfl) ?_ | refine .cons (.own rfl (.head _) rfl rfl) ?_)))
       ·exact (FLe.cv [⟨100, some 100, 0, ⟨0, .own, 22, 1, Y.map ZC⟩⟩] (by repeat (first | exact .nil | refine .old rfl (by decide) rfl ?_)) (by repeat (first | exact .nil | refine .cons (.plain rfl rfl rfl) ?_ | refine .cons (.own rfl (.head _) rfl rfl) ?_)))
     ·have hst : zae E O tg ab kk v C w = if xe O tg ab kk v w ≠ [] ∧ (C = [] ∨ Wn (xe O tg ab kk v w) C = true) then xe O tg ab kk v w else C := by
       unfold zae
       by_cases q : xe O tg ab kk v w ≠ [] ∧ (C = [] ∨ Wn (xe O tg ab kk v w) C = true)
       ·rw [if_pos ⟨hld, q⟩, if_pos q]
       ·rw [if_neg (fun q2 => q q2.2), if_neg q]
      rw [hst] at hcs
      have hWl : (xe O tg ab kk v w).length ≤ k + 1 := zaN hwr
      rcases hW : xe O tg ab kk v w with _ | ⟨x, r⟩
      ·rw [hW, if_neg (fun q => q.1 rfl)] at hcs
       (repeat (first | refine FW.seq ?_ | refine FW.region ?_ | refine FW.skip ?_ | refine FW.condF rfl ?_ | refine zd.nil ?_ | refine za rfl rfl rfl ?_ | refine zb rfl rfl rfl ?_ | refine zn rfl rfl rfl rfl ?_ | refine xC rfl rfl rfl rfl ?_ | refine XT rfl rfl rfl rfl ?_ | refine zw rfl rfl (by omega) rfl rfl ?_ | refine zK rfl rfl ⟨_, _, rfl, rfl, rfl⟩ ?_))
       refine ⟨w + 1, by omega, by omega, ?_⟩
       rw [hcs, hY]
       exact (FLe.cv [⟨100, some 100, 0, ⟨0, .own, 22, 1, Y.map ZC⟩⟩] (by repeat (first | exact .nil | refine .old rfl (by decide) rfl ?_)) (by repeat (first | exact .nil | refine .cons (.plain rfl rfl rfl) ?_ | refine .cons (.own rfl (.head _) rfl rfl) ?_)))
      ·rw [hW] at hcs hWl
       have hpos : decide ((((x :: r).length : Nat) : Int) > 0) = true := by simp
       (repeat (first | refine FW.seq ?_ | refine FW.region ?_ | refine zb rfl rfl rfl ?_ | refine xC rfl rfl rfl rfl ?_ | refine zg rfl rfl (by exact List.length_map _) rfl rfl ?_))
       rw [hpos]
       (repeat (first | refine zb rfl rfl ⟨_, _, rfl, rfl, rfl⟩ ?_ | refine zG rfl rfl rfl rfl rfl rfl (by decide) rfl (by first | omega | (simp; omega)) rfl ⟨_, _, rfl, rfl, rfl⟩ ?_ | refine zm rfl rfl rfl rfl rfl (by first | omega | (simp; omega)) (by first | exact zc (by omega) | rfl) rfl rfl rfl ⟨_, _, rfl, rfl, rfl⟩ ?_))
       rw [hYn]
       rcases C with _ | ⟨y, s⟩
       ·rw [if_pos ⟨List.cons_ne_nil _ _, .inl rfl⟩] at hcs
        (repeat (first | refine FW.region ?_ | refine FW.condT rfl ?_ | refine zd.nil ?_ | refine za rfl rfl rfl ?_ | refine zb rfl rfl rfl ?_ | refine zu rfl rfl rfl rfl ?_ | refine zG rfl rfl rfl rfl rfl rfl (by decide) rfl (by first | omega | (simp; omega)) rfl rfl ?_ | refine zY rfl rfl rfl rfl rfl rfl (by first | omega | (simp; omega)) (by first | exact zc (by omega) | rfl) rfl rfl rfl ?_ | refine zw rfl rfl (by omega) rfl rfl ?_ | refine zb rfl rfl ⟨_, _, rfl, rfl, rfl⟩ ?_ | refine zU rfl rfl rfl ⟨_, _, rfl, rfl, rfl⟩ ?_ | refine XT rfl rfl rfl ⟨_, _, rfl, rfl, rfl⟩ ?_ | refine zu rfl rfl rfl ⟨_, _, rfl, rfl, rfl⟩ ?_ | refine zK rfl rfl ⟨_, _, rfl, rfl, rfl⟩ ?_))
        rw [show (ZC (nth Y v)).set 0 (zbp (x :: r)) = ZC (x :: r) from rfl, ← List.map_set, hYs]
        refine ⟨w + 1, by omega, by omega, ?_⟩
        rw [hcs]
        obtain ⟨Q, hQ⟩ : ∃ Q, (X.set v (x :: r)).map ZC = Q := ⟨_, rfl⟩
        rw [hQ]
        exact (FLe.cv [⟨100, some 100, 0, ⟨0, .own, 22, 1, Q⟩⟩] (by repeat (first | exact .nil | refine .old rfl (by decide) rfl ?_)) (by repeat (first | exact .nil | refine .cons (.plain rfl rfl rfl) ?_ | refine .cons (.own rfl (.head _) rfl rfl) ?_)))
       ·(repeat (first | refine zb rfl rfl ⟨_, _, rfl, rfl, rfl⟩ ?_ | refine zU rfl rfl rfl ⟨_, _, rfl, rfl, rfl⟩ ?_ | refine zG rfl rfl rfl rfl rfl rfl (by decide) rfl (by first | omega | (simp; omega)) rfl ⟨_, _, rfl, rfl, rfl⟩ ?_ | refine zm rfl rfl rfl rfl rfl (by first | omega | (simp; omega)) (by first | exact zc (by omega) | rfl) rfl rfl rfl ⟨_, _, rfl, rfl, rfl⟩ ?_ | refine zg rfl rfl (by first | exact List.length_map _ | rfl | omega | (simp; omega)) rfl ⟨_, _, rfl, rfl, rfl⟩ ?_))
        rw [hYn]
        refine zX (zgF (x :: r) (y :: s) (by omega) (by omega)) (by repeat (first | exact zx.nil | refine zx.cons (by exact yI.plain rfl rfl) ?_)) rfl ⟨_, _, rfl, rfl, rfl⟩ ?_
        (repeat (first | refine zd.nil ?_ | refine zu rfl rfl rfl rfl ?_ | refine zn rfl rfl rfl ⟨_, _, rfl, rfl, rfl⟩ ?_))
        refine FW.cond rfl (fun h1 => ?_) (fun h1 => ?_)
        ·rw [if_pos ⟨List.cons_ne_nil _ _, .inr h1⟩] at hcs
         (repeat (first | refine FW.region ?_ | refine zd.nil ?_ | refine za rfl rfl rfl ?_ | refine zb rfl rfl rfl ?_ | refine zG rfl rfl rfl rfl rfl rfl (by decide) rfl (by first | omega | (simp; omega)) rfl rfl ?_ | refine zY rfl rfl rfl rfl rfl rfl (by first | omega | (simp; omega)) (by first | exact zc (by omega) | rfl) rfl rfl rfl ?_ | refine zw rfl rfl (by omega) rfl rfl ?_))
         rw [show (ZC (nth Y v)).set 0 (zbp (x :: r)) = ZC (x :: r) from rfl, ← List.map_set, hYs]
         refine ⟨w + 1, by omega, by omega, ?_⟩
         rw [hcs]
         obtain ⟨Q, hQ⟩ : ∃ Q, (X.set v (x :: r)).map ZC = Q := ⟨_, rfl⟩
         rw [hQ]
         exact (FLe.cv [⟨100, some 100, 0, ⟨0, .own, 22, 1, Q⟩⟩] (by repeat (first | exact .nil | refine .old rfl (by decide) rfl ?_)) (by repeat (first | exact .nil | refine .cons (.plain rfl rfl rfl) ?_ | refine .cons (.own rfl (.head _) rfl rfl) ?_)))
        ·rw [if_neg (fun q => by rcases q.2 with q | q; cases q; rw [h1] at q; cases q)] at hcs
         (repeat (first | refine FW.region ?_ | refine FW.skip ?_ | refine zd.nil ?_ | refine za rfl rfl rfl ?_ | refine zb rfl rfl rfl ?_ | refine zw rfl rfl (by omega) rfl rfl ?_))
         refine ⟨w + 1, by omega, by omega, ?_⟩
         rw [hcs, hY]
         exact (FLe.cv [⟨100, some 100, 0, ⟨0, .own, 22, 1, Y.map ZC⟩⟩] (by repeat (first | exact .nil | refine .old rfl (by decide) rfl ?_)) (by repeat (first | exact .nil | refine .cons (.plain rfl rfl rfl) ?_ | refine .cons (.own rfl (.head _) rfl rfl) ?_)))
   ·obtain rfl : w = n := by simp at h; omega
    rw [hC] at hXs
    (repeat (first | refine FW.region ?_ | refine FW.exit ?_ | refine zd.nil ?_ | refine za rfl rfl rfl ?_ | refine zb rfl rfl rfl ?_ | refine zw rfl rfl (by omega) rfl rfl ?_))
    refine ⟨v + 1, by omega, by omega, ?_⟩
    rw [← hXs, hY]
    exact (FLe.cv [⟨100, some 100, 0, ⟨0, .own, 22, 1, Y.map ZC⟩⟩] (by repeat (first | exact .nil | refine .old rfl (by decide) rfl ?_)) (by repeat (first | exact .nil | refine .cons (.plain rfl rfl rfl) ?_ | refine .cons (.own rfl (.head _) rfl rfl) ?_)))
  ·obtain rfl : v = n := by simp at h; omega
   (repeat (first | refine FW.region ?_ | refine FW.exit ?_ | refine zd.nil ?_ | refine za rfl rfl rfl ?_ | refine zb rfl rfl rfl ?_ | refine zw rfl rfl (by omega) rfl rfl ?_))
   refine ⟨k + 1, by omega, by omega, ?_⟩
   rw [hkk, hws]
   have hNl := YM E O tg ab kk v v
   generalize Zm E O tg ab kk v v = N at hNl
   refine (FLe.share 11 rfl rfl (by rw [List.length_map, hNl])).trans ?_
   exact (FLe.cv [] (by repeat (first | exact .nil)) (by repeat (first | exact .nil | refine .cons (.plain rfl rfl rfl) ?_)))
 ·obtain rfl : k = len := by simp at h; omega
  (repeat (first | refine FW.seq ?_ | refine FW.region ?_ | refine FW.exit ?_ | refine zd.nil ?_ | refine za rfl rfl rfl ?_ | refine zb rfl rfl rfl ?_))
  exact FW.ret ⟨.inl rfl, .sh (.cons (.tmp 10 rfl rfl) .nil) rfl rfl⟩
def XC (E : List (Nat × Nat)) (n len s : Nat) : List Int := nth (yf E s s n len) s
def Zh (E : List (Nat × Nat)) (n len : Nat) : Nat → Nat → List Int
 | 0, _ => []
 | k + 1, s => if XC E n len s = [] then Zh E n len k (s + 1) else XC E n len s
def Yj (E : List (Nat × Nat)) (n : Nat) : Nat → Nat → List Int
 | 0, _ => []
 | k + 1, len => if Zh E n len n 0 = [] then Yj E n k (len + 1) else Zh E n len n 0
def xm (E : List (Nat × Nat)) (n : Nat) : List Int := Yj E n n 1
set_option maxHeartbeats 4000000 in
theorem zdp (n : Nat) (E : List (Nat × Nat)) (hn : n ≤ 900) (hE : E.length ≤ 1000000) : yc Try.prog 26 [.int .i64 n, .list 2 (E.map edf)] .sh (.list 1 ((xm E n).map zp)) := by
 obtain ⟨R, hR⟩ : ∃ R, xm E n = R := ⟨_, rfl⟩
 rw [hR]
 refine yc.of_body (c := (xB Try.prog zE zq 31)) ⟨Try.func26, rfl, Try.ntmps26, by kernel_rfl⟩ (by simp [FV.hand]) (by exact Nat.le_of_ble_eq_true rfl) rfl ?_
 change FW _ _ _ ⟨[(0, .int .i64 n), (1, .list 2 (E.map edf))], []⟩
 (repeat (first | refine FW.seq ?_ | refine FW.region ?_ | refine FW.block ?_ | refine zd.nil ?_ | refine za rfl rfl rfl ?_))
 refine FW.loop (fun k : Nat => ⟨[(0, .int .i64 n), (1, .list 2 (E.map edf)), (5, .int .i64 (k + 1 : Nat))], []⟩) (fun k => k ≤ n ∧ Yj E n (n - k) (k + 1) = R) (fun k => n - k) 0 ⟨Nat.zero_le _, hR⟩ (FLe.cv [] (by repeat (first | exact .nil)) (by repeat (first | exact .nil | refine .cons (.plain rfl rfl rfl) ?_))) ?_
 clear hR
 rintro k ⟨hk, hR⟩
 (repeat (first | refine FW.seq ?_ | refine FW.region ?_ | refine zd.nil ?_ | refine zb rfl rfl rfl ?_ | refine zg1 rfl rfl rfl rfl ?_))
 refine FW.cond rfl (fun h => ?_) (fun h => ?_)
 ·have hlt : k < n := by simp at h; omega
  clear h
  rw [show n - k = (n - (k + 1)) + 1 by omega] at hR
  unfold Yj at hR
  obtain ⟨len, hlen⟩ : ∃ len, k + 1 = len := ⟨_, rfl⟩
  rw [hlen] at hR ⊢
  obtain ⟨A, hA⟩ : ∃ A, Zh E n len n 0 = A := ⟨_, rfl⟩
  rw [hA] at hR
  (repeat (first | refine FW.seq ?_ | refine FW.region ?_ | refine FW.block ?_ | refine FW.skip ?_ | refine zd.nil ?_ | refine za rfl rfl rfl ?_))
  refine FW.loop (fun s : Nat => ⟨[(0, .int .i64 n), (1, .list 2 (E.map edf)), (5, .int .i64 len), (6, .int .i64 s)], []⟩) (fun s => s ≤ n ∧ Zh E n len (n - s) s = A) (fun s => n - s) 0 ⟨Nat.zero_le _, hA⟩ (FLe.cv [] (by repeat (first | exact .nil)) (by repeat (first | exact .nil | refine .cons (.plain rfl rfl rfl) ?_))) ?_
  clear hA
  rintro s ⟨hs, hS⟩
  (repeat (first | refine FW.seq ?_ | refine FW.region ?_ | refine zd.nil ?_ | refine zb rfl rfl rfl ?_ | refine zN rfl rfl rfl rfl ?_))
  refine FW.cond rfl (fun h => ?_) (fun h => ?_)
  ·have hsn : s < n := by simpa using h
   clear h
   rw [show n - s = (n - (s + 1)) + 1 by omega] at hS
   unfold Zh at hS
   (repeat (first | refine FW.seq ?_ | refine FW.region ?_ | refine FW.block ?_ | refine FW.skip ?_ | refine zb rfl rfl rfl ?_))
   refine xc (zfK n E s s len (by omega) hE (by omega) (by omega) (by omega)) (by repeat (first | exact zx.nil | refine zx.cons (by exact yI.plain rfl rfl) ?_)) rfl rfl ?_
   have hwl := Ya E s s n len
   have hwr := WB E s s n len
   have hca : XC E n len s = nth (yf E s s n len) s := rfl
   generalize yf E s s n len = W at hwl hwr hca
   have hrl : (nth W s).length ≤ len := hwr _ (zI (by omega))
   (repeat (first | refine FW.seq ?_ | refine FW.region ?_ | refine zd.nil ?_ | refine za rfl rfl rfl ?_ | refine zb rfl rfl rfl ?_ | refine zh rfl rfl rfl rfl rfl rfl (by simp; omega) rfl rfl ?_ | refine zA rfl rfl rfl (by simp; omega) (by first | exact zc (by omega) | rfl) rfl rfl rfl rfl ?_))
   rcases hWs : nth W s with _ | ⟨x, r⟩
   ·rw [hWs] at hca
    rw [hca, if_pos rfl] at hS
    (repeat (first | refine FW.region ?_ | refine FW.skip ?_ | refine FW.condF rfl ?_ | refine zd.nil ?_ | refine za rfl rfl rfl ?_ | refine zb rfl rfl rfl ?_ | refine XT rfl rfl rfl rfl ?_ | refine xC rfl rfl rfl rfl ?_ | refine zw rfl rfl (by omega) rfl rfl ?_))
    exact ⟨s + 1, ⟨by omega, hS⟩, by omega, (FLe.cv [] (by repeat (first | exact .nil)) (by repeat (first | exact .nil | refine .cons (.plain rfl rfl rfl) ?_)))⟩
   ·rw [hWs] at hca
    rw [hca, if_neg (List.cons_ne_nil _ _)] at hS
    rw [← hS, if_neg (List.cons_ne_nil _ _)] at hR
    have hpos : decide ((((x :: r).length : Nat) : Int) > 0) = true := by simp
    (repeat (first | refine zd.nil ?_ | refine zg rfl rfl (by exact List.length_map _) rfl rfl ?_ | refine xC rfl rfl rfl rfl ?_))
    rw [hpos]
    (repeat (first | refine FW.seq ?_ | refine FW.region ?_ | refine FW.condT rfl ?_ | refine zd.nil ?_ | refine za rfl rfl rfl ?_ | refine zb rfl rfl rfl ?_))
    rw [← hR]
    exact FW.ret ⟨.inl rfl, .sh (.cons (.tmp 4 rfl rfl) .nil) rfl rfl⟩
  ·obtain rfl : s = n := by simp at h; omega
   rw [Nat.sub_self] at hS
   have hA0 : A = [] := hS.symm
   rw [if_pos hA0] at hR
   (repeat (first | refine FW.region ?_ | refine FW.exit ?_ | refine zd.nil ?_ | refine za rfl rfl rfl ?_ | refine zb rfl rfl rfl ?_ | refine zw rfl rfl (by omega) rfl rfl ?_))
   exact ⟨k + 1, ⟨by omega, by rw [hlen]; exact hR⟩, by omega, (FLe.cv [] (by repeat (first | exact .nil)) (by repeat (first | exact .nil | refine .cons (.plain rfl rfl (by first | rfl | (refine congrArg (FV.int .i64) ?_; omega))) ?_)))⟩
 ·obtain rfl : k = n := by simp at h; omega
  rw [Nat.sub_self] at hR
  subst hR
  (repeat (first | refine FW.seq ?_ | refine FW.region ?_ | refine FW.exit ?_ | refine zd.nil ?_ | refine za rfl rfl rfl ?_))
  refine FW.le (s' := ⟨[(4, .list 1 [])], []⟩) ?_ (FLe.cv [] (by repeat (first | exact .nil)) (by repeat (first | exact .nil | refine .cons (.nilList rfl) ?_)))
  exact FW.ret ⟨.inl rfl, .sh (.cons (.tmp 4 rfl rfl) .nil) rfl rfl⟩
end Go.Proofs.Ytokmanfcndelfaa
