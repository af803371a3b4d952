/-
  Some texts as one: FmSerC, FmSerV, LawSerialVerdicts.
-/
import Derived.Test.YtokmanfcndelfaaZFmSer8
import Derived.Test.YtokmanfcndelfaaZFmSer6
import Derived.Test.YtokmanfcndelfaaZFmSerD
import Derived.Test.YtokmanfcndelfaaZFmSer9
import Derived.Test.YtokmanfcndelfaaZDA
import Derived.Test.YtokmanfcndelfaaZM
import Derived.Test.YtokmanfcndelfaaZFmSer7
/-
 The reference's written and its comparison of verdicts, at plain values.
-/
namespace Go.Proofs.Ytokmanfcndelfaa
set_option linter.unusedVariables false
open Go.RowKit

theorem zfN (l : List OpV) (key v : Int) (i : Nat) (h : i < l.length) : Yb (l.take (i + 1)) key v = (Yb (l.take i) key v || (decide ((nth l i).k = 2) && decide ((nth l i).key = key) && decide ((nth l i).arg = v))) := by
 unfold Yb
 rw [List.take_succ_eq_append_getElem h, List.any_append, nth_eq h]
 simp
theorem zik (l : List OpV) (key v : Int) (i : Nat) (h : i < l.length) (hm : (decide ((nth l i).k = 2) && decide ((nth l i).key = key) && decide ((nth l i).arg = v)) = true) : Yb l key v = true := by
 unfold Yb
 rw [List.any_eq_true]
 exact ⟨_, zI h, hm⟩
set_option maxHeartbeats 4000000 in
theorem zcK (l : List OpV) (key v : Int) (hl : l.length ≤ 1000000) : yc Try.prog 23 [.list 8 (l.map OpV.fv), .int .i64 key, .int .i64 v] .fr (.bool (Yb l key v || decide (v = 0))) := by
 refine yc.of_body (c := (xB Try.prog zE zq 40)) ⟨Try.func23, rfl, Try.ntmps23, by kernel_rfl⟩ (by simp [FV.hand]) (by exact Nat.le_of_ble_eq_true rfl) rfl ?_
 change FW _ _ _ ⟨[(0, .list 8 (l.map OpV.fv)), (1, .int .i64 key), (2, .int .i64 v)], []⟩
 (repeat (first | refine FW.seq ?_ | refine FW.region ?_ | refine FW.block ?_ | refine zd.nil ?_ | refine za rfl rfl rfl ?_))
 refine FW.loop (fun i : Nat => ⟨[(0, .list 8 (l.map OpV.fv)), (1, .int .i64 key), (2, .int .i64 v), (7, .int .i64 i)], []⟩) (fun i => i ≤ l.length ∧ Yb (l.take i) key v = false) (fun i => l.length - i) 0 ⟨Nat.zero_le _, rfl⟩ (FLe.cv [] (by repeat (first | exact .nil)) (by repeat (first | exact .nil | refine .cons (.plain rfl rfl rfl) ?_))) ?_
 rintro i ⟨hi, hno⟩
 (repeat (first | refine FW.seq ?_ | refine FW.region ?_ | refine zd.nil ?_ | refine zb rfl rfl rfl ?_ | refine zg rfl rfl (by exact List.length_map _) rfl rfl ?_ | refine zN rfl rfl rfl rfl ?_))
 refine FW.cond rfl (fun h => ?_) (fun h => ?_)
 ·have hlt : i < l.length := by simpa using h
  clear h
  have hs := zfN l key v i hlt
  have hof := zik l key v i hlt
  rw [hno, Bool.false_or] at hs
  obtain ⟨o, ho⟩ : ∃ o, nth l i = o := ⟨_, rfl⟩
  rw [ho] at hs hof
  (repeat (first | refine FW.seq ?_ | refine FW.region ?_ | refine FW.block ?_ | refine FW.skip ?_ | refine zb rfl rfl rfl ?_ | refine zh rfl rfl rfl rfl rfl rfl (by simp; omega) rfl rfl ?_ | refine yU rfl rfl rfl rfl rfl rfl rfl ?_ | refine zA rfl rfl rfl (by simp; omega) (by first | exact zc (by omega) | rfl) rfl rfl rfl rfl ?_ | refine zU rfl rfl rfl rfl ?_))
  rw [ho]
  skip
  refine zO (fun h1 => ?_) (fun h1 => ?_)
  ·rw [h1, Bool.true_and] at hs hof
   (repeat (first | refine zb rfl rfl rfl ?_ | refine zu rfl rfl rfl rfl ?_ | refine zb rfl rfl ⟨_, _, rfl, rfl, rfl⟩ ?_ | refine zh rfl rfl rfl rfl rfl rfl (by simp; omega) rfl ⟨_, _, rfl, rfl, rfl⟩ ?_ | refine yU rfl rfl rfl rfl rfl rfl ⟨_, _, rfl, rfl, rfl⟩ ?_ | refine zA rfl rfl rfl (by simp; omega) (by first | exact zc (by omega) | rfl) rfl rfl rfl ⟨_, _, rfl, rfl, rfl⟩ ?_ | refine zU rfl rfl rfl ⟨_, _, rfl, rfl, rfl⟩ ?_))
   rw [ho]
   skip
   refine zO (fun h2 => ?_) (fun h2 => ?_)
   ·rw [h2, Bool.true_and] at hs hof
    (repeat (first | refine zd.nil ?_ | refine zu rfl rfl rfl rfl ?_ | refine zb rfl rfl ⟨_, _, rfl, rfl, rfl⟩ ?_ | refine zh rfl rfl rfl rfl rfl rfl (by simp; omega) rfl ⟨_, _, rfl, rfl, rfl⟩ ?_ | refine yU rfl rfl rfl rfl rfl rfl ⟨_, _, rfl, rfl, rfl⟩ ?_ | refine zA rfl rfl rfl (by simp; omega) (by first | exact zc (by omega) | rfl) rfl rfl rfl ⟨_, _, rfl, rfl, rfl⟩ ?_ | refine zU rfl rfl rfl ⟨_, _, rfl, rfl, rfl⟩ ?_))
    rw [ho]
    skip
    refine FW.cond rfl (fun h3 => ?_) (fun h3 => ?_)
    ·rw [hof h3, Bool.true_or]
     (repeat (first | refine FW.seq ?_ | refine FW.region ?_ | refine zd.nil ?_ | refine za rfl rfl rfl ?_))
     exact FW.ret ⟨.inl rfl, zj rfl rfl rfl rfl⟩
    ·rw [h3] at hs
     (repeat (first | refine FW.region ?_ | refine FW.skip ?_ | refine zd.nil ?_ | refine za rfl rfl rfl ?_ | refine zb rfl rfl rfl ?_ | refine zw rfl rfl (by omega) rfl rfl ?_))
     exact ⟨i + 1, ⟨by omega, hs⟩, by omega, (FLe.cv [] (by repeat (first | exact .nil)) (by repeat (first | exact .nil | refine .cons (.plain rfl rfl rfl) ?_)))⟩
   ·rw [h2, Bool.false_and] at hs
    (repeat (first | refine FW.region ?_ | refine FW.skip ?_ | refine FW.condF rfl ?_ | refine zd.nil ?_ | refine za rfl rfl rfl ?_ | refine zb rfl rfl rfl ?_ | refine zn rfl rfl rfl rfl ?_ | refine zw rfl rfl (by omega) rfl rfl ?_ | refine zK rfl rfl ⟨_, _, rfl, rfl, rfl⟩ ?_))
    exact ⟨i + 1, ⟨by omega, hs⟩, by omega, (FLe.cv [] (by repeat (first | exact .nil)) (by repeat (first | exact .nil | refine .cons (.plain rfl rfl rfl) ?_)))⟩
  ·rw [h1, Bool.false_and, Bool.false_and] at hs
   (repeat (first | refine FW.region ?_ | refine FW.skip ?_ | refine FW.condF rfl ?_ | refine zd.nil ?_ | refine za rfl rfl rfl ?_ | refine zb rfl rfl rfl ?_ | refine zn rfl rfl rfl rfl ?_ | refine zw rfl rfl (by omega) rfl rfl ?_ | refine zK rfl rfl ⟨_, _, rfl, rfl, rfl⟩ ?_))
   exact ⟨i + 1, ⟨by omega, hs⟩, by omega, (FLe.cv [] (by repeat (first | exact .nil)) (by repeat (first | exact .nil | refine .cons (.plain rfl rfl rfl) ?_)))⟩
 ·have hie : i = l.length := by simp at h; omega
  rw [hie, List.take_length] at hno
  rw [hno, Bool.false_or]
  (repeat (first | refine FW.seq ?_ | refine FW.region ?_ | refine FW.exit ?_ | refine zd.nil ?_ | refine za rfl rfl rfl ?_ | refine zb rfl rfl rfl ?_ | refine zU rfl rfl rfl rfl ?_))
  exact FW.ret ⟨.inl rfl, zj rfl rfl rfl rfl⟩
set_option maxHeartbeats 4000000 in
theorem zdB (V : zcM) (h1 : V.ord.length ≤ 1000000) (h2 : V.ed.length ≤ 1000000) : yc Try.prog 9 [.agg V.fv, .agg V.fv] .fr (.bool true) := by
 have hs1 := XV V.ord V.ord (by omega) (by omega)
 have hs2 := zad V.ed V.ed (by omega) (by omega)
 rw [decide_eq_true rfl] at hs1 hs2
 unfold zcM.fv
 refine yc.of_body (c := (xB Try.prog zE zq 41)) ⟨Try.func9, rfl, Try.ntmps9, by kernel_rfl⟩ (by simp [FV.hand]) (by exact Nat.le_of_ble_eq_true rfl) rfl ?_
 change FW _ _ _ ⟨[(0, .agg [.int .i64 V.check, .int .i64 V.cls, .int .i64 V.arg, .list 1 (V.ord.map zp), .list 3 (V.ed.map EdV.fv)]), (1, .agg [.int .i64 V.check, .int .i64 V.cls, .int .i64 V.arg, .list 1 (V.ord.map zp), .list 3 (V.ed.map EdV.fv)])], []⟩
 (repeat (first | refine FW.seq ?_ | refine FW.region ?_ | refine zd.nil ?_ | refine Un rfl rfl rfl rfl rfl rfl rfl ?_ | refine za rfl rfl rfl ?_ | refine zi rfl rfl rfl rfl rfl rfl (by decide) rfl rfl ?_ | refine zm rfl rfl rfl rfl rfl (by simp; done) rfl rfl rfl rfl rfl ?_ | refine Za rfl rfl rfl rfl ?_ | refine zb rfl rfl rfl ?_))
 refine zO (fun h => absurd rfl (of_decide_eq_true h)) (fun h => ?_)
 (repeat (first | refine zb rfl rfl rfl ?_ | refine zn rfl rfl rfl rfl ?_ | refine zi rfl rfl rfl rfl rfl rfl (by decide) rfl ⟨_, _, rfl, rfl, rfl⟩ ?_ | refine zm rfl rfl rfl rfl rfl (by simp; done) rfl rfl rfl rfl ⟨_, _, rfl, rfl, rfl⟩ ?_ | refine Za rfl rfl rfl ⟨_, _, rfl, rfl, rfl⟩ ?_))
 refine zO (fun h => absurd rfl (of_decide_eq_true h)) (fun h => ?_)
 (repeat (first | refine zb rfl rfl rfl ?_ | refine zn rfl rfl rfl rfl ?_ | refine zi rfl rfl rfl rfl rfl rfl (by decide) rfl ⟨_, _, rfl, rfl, rfl⟩ ?_ | refine zm rfl rfl rfl rfl rfl (by simp; done) rfl rfl rfl rfl ⟨_, _, rfl, rfl, rfl⟩ ?_ | refine Za rfl rfl rfl ⟨_, _, rfl, rfl, rfl⟩ ?_))
 refine zO (fun h => absurd rfl (of_decide_eq_true h)) (fun h => ?_)
 (repeat (first | refine zi rfl rfl rfl rfl rfl rfl (by decide) rfl ⟨_, _, rfl, rfl, rfl⟩ ?_ | refine zm rfl rfl rfl rfl rfl (by simp; done) rfl rfl rfl rfl ⟨_, _, rfl, rfl, rfl⟩ ?_))
 refine zX hs1 (by repeat (first | exact zx.nil | refine zx.cons (by exact yI.plain rfl rfl) ?_)) rfl ⟨_, _, rfl, rfl, rfl⟩ ?_
 (repeat (first | refine FW.seq ?_ | refine FW.region ?_ | refine FW.skip ?_ | refine FW.condF rfl ?_ | refine zd.nil ?_ | refine zi rfl rfl rfl rfl rfl rfl (by decide) rfl rfl ?_ | refine zm rfl rfl rfl rfl rfl (by simp; done) rfl rfl rfl rfl rfl ?_ | refine zn rfl rfl rfl rfl ?_ | refine xd rfl rfl ⟨_, _, rfl, rfl, rfl⟩ ?_))
 refine zX hs2 (by repeat (first | exact zx.nil | refine zx.cons (by exact yI.plain rfl rfl) ?_)) rfl rfl ?_
 (repeat (first | refine zd.nil ?_ | refine za rfl rfl rfl ?_))
 exact FW.ret ⟨.inl rfl, zj rfl rfl rfl rfl⟩
end Go.Proofs.Ytokmanfcndelfaa
/-
 The reference's Check of layer 22: the same verdict as the program's.
-/
namespace Go.Proofs.Ytokmanfcndelfaa
set_option linter.unusedVariables false
open Go.RowKit

theorem zbG {n : Nat} {E : List (Nat × Nat)} (h : InN n E) : (xm E n).length ≤ n := by
 rw [← XE h]
 exact Va h (Nat.le_refl n)
set_option maxHeartbeats 8000000 in
theorem zbc (l : List OpV) (s : Bool) (hl : l.length ≤ 12) (hin : ∀ o ∈ l, zcS o) : yc Try.prog 8 [.list 8 (l.map OpV.fv), .bool s] .sh (.tup [.agg (zac l s).fv, .int .i64 (zct l)]) := by
 refine yc.le ?_ (ziv l s) rfl
 have hD := zcj l (by omega)
 obtain ⟨R, hR⟩ : ∃ R, zac l s = R := ⟨_, rfl⟩
 obtain ⟨E, hE⟩ : ∃ E, zct l = E := ⟨_, rfl⟩
 rw [hR, hE]
 rw [hE] at hD
 refine yc.of_body (c := (xB Try.prog zE zq 178)) ⟨Try.func8, rfl, Try.ntmps8, by kernel_rfl⟩ (by simp [FV.hand]) (by exact Nat.le_of_ble_eq_true rfl) rfl ?_
 change FW _ _ _ ⟨[(0, .list 8 (l.map OpV.fv)), (1, .bool s)], []⟩
 (repeat (first | refine FW.seq ?_ | refine FW.region ?_ | refine zd.nil ?_ | refine yu rfl rfl rfl rfl rfl rfl rfl ?_ | refine za rfl rfl rfl ?_ | refine zb rfl rfl rfl ?_))
 refine zX hD (by repeat (first | exact zx.nil | refine zx.cons (by exact yI.plain rfl rfl) ?_)) rfl rfl ?_
 cases hd : ZQ l with
 | false =>
  have hRf : R = ⟨0, 0, 0, [], []⟩ := by rw [← hR]; unfold zac; rw [if_neg (by rw [hd]; decide)]
  have hEf : E = 22 := by rw [← hE]; unfold zct; rw [if_neg (by rw [hd]; decide)]
  subst hRf; subst hEf
  (repeat (first | refine FW.seq ?_ | refine FW.region ?_ | refine FW.condT rfl ?_ | refine zd.nil ?_ | refine za rfl rfl rfl ?_ | refine zb rfl rfl rfl ?_ | refine Za rfl rfl rfl rfl ?_ | refine yA rfl rfl rfl rfl ?_ | refine zP rfl rfl rfl rfl rfl rfl rfl rfl rfl ?_ | refine yO.nil ?_))
  refine FW.ret ⟨.inl rfl, .sh (.cons (xW rfl rfl rfl rfl rfl rfl (by decide)) (.cons (.tmp 5 rfl rfl) .nil)) ?_ rfl⟩
  simp [zcM.raw, zbe]; rfl
 | true =>
  have hEf : E = 0 := by rw [← hE]; unfold zct; rw [if_pos hd]
  subst hEf
  have hRf : zfC l s = R := by rw [← hR]; unfold zac; rw [if_pos hd]
  obtain ⟨n, hn⟩ : ∃ n, l.length = n := ⟨_, rfl⟩
  have hstep := fun i (hi : i < l.length) => zcG (l := l) hi
  rw [hn] at hl hstep
  (repeat (first | refine FW.seq ?_ | refine FW.region ?_ | refine FW.skip ?_ | refine FW.condF rfl ?_ | refine zd.nil ?_ | refine yu rfl rfl rfl rfl rfl rfl rfl ?_ | refine za rfl rfl rfl ?_ | refine zb rfl rfl rfl ?_ | refine Za rfl rfl rfl rfl ?_ | refine yA rfl rfl rfl rfl ?_ | refine zP rfl rfl rfl rfl rfl rfl rfl rfl rfl ?_ | refine yO.nil ?_ | refine yO.one rfl rfl rfl rfl rfl ?_))
  refine FW.join (fun _ : Unit => ⟨[(0, .list 8 (l.map OpV.fv)), (1, .bool s), (4, .ptr 102 0 0 0), (7, .ptr 103 0 0 0)], [(102, ⟨0, .own, 32, 5, [[.int .i64 0, .int .i64 0, .int .i64 0, .nil, .nil]]⟩), (103, ⟨0, .own, 32, 5, [[.int .i64 (cOf s), .int .i64 0, .int .i64 0, .nil, .nil]]⟩)]⟩) (fun _ => True) ?_ ?_
  ·refine FW.cond rfl (fun h => ?_) (fun h => ?_)
   ·subst h
    (repeat (first | refine FW.region ?_ | refine zd.nil ?_ | refine xz rfl rfl rfl rfl rfl rfl rfl rfl rfl ?_ | refine zi rfl rfl rfl rfl rfl rfl (by decide) rfl rfl ?_))
    exact ⟨rfl, (), trivial, (FLe.cv [⟨102, some 4, 0 + 1, ⟨0, .own, 32, 5, [[.int .i64 0, .int .i64 0, .int .i64 0, .nil, .nil]]⟩⟩, ⟨103, some 7, 0 + 1, ⟨0, .own, 32, 5, [[.int .i64 (cOf true), .int .i64 0, .int .i64 0, .nil, .nil]]⟩⟩] (by repeat (first | exact .nil | refine .old rfl (by decide) rfl ?_)) (by repeat (first | exact .nil | refine .cons (.plain rfl rfl rfl) ?_ | refine .cons (.ptr rfl (.head _) rfl) ?_ | refine .cons (.ptr rfl (.tail _ (.head _)) rfl) ?_)))⟩
   ·subst h
    (repeat (first | refine FW.skip ?_))
    exact ⟨rfl, (), trivial, (FLe.cv [⟨102, some 4, 0 + 1, ⟨0, .own, 32, 5, [[.int .i64 0, .int .i64 0, .int .i64 0, .nil, .nil]]⟩⟩, ⟨103, some 7, 0 + 1, ⟨0, .own, 32, 5, [[.int .i64 (cOf false), .int .i64 0, .int .i64 0, .nil, .nil]]⟩⟩] (by repeat (first | exact .nil | refine .old rfl (by decide) rfl ?_)) (by repeat (first | exact .nil | refine .cons (.plain rfl rfl rfl) ?_ | refine .cons (.ptr rfl (.head _) rfl) ?_ | refine .cons (.ptr rfl (.tail _ (.head _)) rfl) ?_)))⟩
  intro _ _
  (repeat (first | refine FW.seq ?_ | refine FW.region ?_ | refine FW.block ?_ | refine zd.nil ?_ | refine za rfl rfl rfl ?_))
  refine FW.loop (fun i : Nat => ⟨[(0, .list 8 (l.map OpV.fv)), (1, .bool s), (4, .ptr 102 0 0 0), (7, .ptr 103 0 0 0), (8, .int .i64 i)], [(102, ⟨0, .own, 32, 5, [[.int .i64 0, .int .i64 0, .int .i64 0, .nil, .nil]]⟩), (103, ⟨0, .own, 32, 5, [[.int .i64 (cOf s), .int .i64 0, .int .i64 0, .nil, .nil]]⟩)]⟩) (fun i => i ≤ n ∧ Yl (zaf l) (n - i) i = YA l) (fun i => n - i) 0 ⟨Nat.zero_le _, by unfold YA; rw [hn]; rfl⟩ ?_ ?_
  ·exact (FLe.cv [⟨102, some 102, 0, ⟨0, .own, 32, 5, [[.int .i64 0, .int .i64 0, .int .i64 0, .nil, .nil]]⟩⟩, ⟨103, some 103, 0, ⟨0, .own, 32, 5, [[.int .i64 (cOf s), .int .i64 0, .int .i64 0, .nil, .nil]]⟩⟩] (by repeat (first | exact .nil | refine .old rfl (by decide) rfl ?_)) (by repeat (first | exact .nil | refine .cons (.plain rfl rfl rfl) ?_ | refine .cons (.ptr rfl (.head _) rfl) ?_ | refine .cons (.ptr rfl (.tail _ (.head _)) rfl) ?_)))
  rintro i ⟨hi, hth⟩
  (repeat (first | refine FW.seq ?_ | refine FW.region ?_ | refine zd.nil ?_ | refine zb rfl rfl rfl ?_ | refine zg rfl rfl (by exact List.length_map _) rfl rfl ?_ | refine zN rfl rfl rfl rfl ?_))
  rw [hn]
  refine FW.cond rfl (fun hc => ?_) (fun hc => ?_)
  ·have hlt : i < n := by simpa using hc
   clear hc
   have hlt2 : i < l.length := by omega
   rw [hstep i hlt] at hth
   obtain ⟨o, hoo⟩ : ∃ o, nth l i = o := ⟨_, rfl⟩
   have hIn := YN o
   have hWr := zcK l o.key o.res (by omega)
   have htb : zaf l i = (zV o && !(Yb l o.key o.res || decide (o.res = 0))) := by
    unfold zaf
    rw [hoo]
    by_cases h0 : o.res = 0 <;> simp [h0]
   generalize zV o = b1 at hIn htb
   generalize (Yb l o.key o.res || decide (o.res = 0)) = b2 at hWr htb
   (repeat (first | refine FW.seq ?_ | refine FW.block ?_ | refine FW.skip ?_ | refine FW.draw ?_ | refine zD rfl rfl rfl ?_ | refine zJ rfl rfl rfl rfl rfl rfl (by simp; omega) rfl rfl ?_ | refine Ys rfl rfl rfl (by decide) (by simp; omega) (by first | exact zc (by omega) | rfl) rfl rfl rfl ?_))
   rw [hoo]
   refine Wt hIn (by repeat (first | exact zx.nil | refine zx.cons (by exact yI.plain rfl rfl) ?_)) rfl rfl ?_
   (repeat (first | refine zD rfl rfl rfl ?_))
   refine yY (fun h1 => ?_) (fun h1 => ?_)
   ·rw [h1, Bool.true_and] at htb
    (repeat (first | refine zD rfl rfl ⟨_, _, rfl, rfl, rfl⟩ ?_ | refine zJ rfl rfl rfl rfl rfl rfl (by simp; omega) rfl ⟨_, _, rfl, rfl, rfl⟩ ?_ | refine zW rfl rfl rfl rfl rfl rfl ⟨_, _, rfl, rfl, rfl⟩ ?_ | refine zR rfl rfl rfl (by simp; omega) (by first | exact zc (by omega) | rfl) rfl rfl rfl ⟨_, _, rfl, rfl, rfl⟩ ?_))
    rw [hoo]
    skip
    refine Wt hWr (by repeat (first | exact zx.nil | refine zx.cons (by exact yI.plain rfl rfl) ?_)) rfl ⟨_, _, rfl, rfl, rfl⟩ ?_
    (repeat (first | refine zL.nil ?_ | refine yC rfl rfl rfl rfl ?_ | refine zeg rfl rfl ⟨_, _, rfl, rfl, rfl⟩ ?_))
    refine ⟨by kernel_rfl, ?_⟩
    refine FW.cond rfl (fun h2 => ?_) (fun h2 => ?_)
    ·rw [show b2 = false by simpa using h2] at htb
     rw [htb, if_pos (by decide)] at hth
     have hRR : R = ⟨cOf s, 2, o.key, [(i : Int)], []⟩ := by rw [← hRf]; unfold zfC; rw [← hth]; dsimp only; rw [hoo]
     subst hRR
     (repeat (first | refine FW.seq ?_ | refine FW.region ?_ | refine zd.nil ?_ | refine zb rfl rfl rfl ?_ | refine xz rfl rfl rfl rfl rfl rfl rfl rfl rfl ?_ | refine yU rfl rfl rfl rfl rfl rfl rfl ?_ | refine zi rfl rfl rfl rfl rfl rfl (by decide) rfl rfl ?_ | refine zh rfl rfl rfl rfl rfl rfl (by first | (simp; omega) | (simp; done)) rfl rfl ?_ | refine zA rfl rfl rfl (by first | (simp; omega) | (simp; done)) (by first | exact zc (by omega) | rfl) rfl rfl rfl rfl ?_ | refine yg rfl rfl rfl rfl rfl rfl rfl rfl ?_))
     refine zd.le ?_ (FLe.share 62 rfl rfl rfl)
     (repeat (first | refine FW.seq ?_ | refine FW.region ?_ | refine zd.nil ?_ | refine za rfl rfl rfl ?_ | refine xz rfl rfl rfl rfl rfl rfl rfl rfl rfl ?_ | refine zP rfl rfl rfl rfl rfl rfl rfl rfl rfl ?_ | refine yL rfl rfl rfl (by decide) rfl rfl (by simp; done) rfl rfl rfl rfl ?_))
     rw [hoo]
     refine FW.ret ⟨.inl rfl, .sh (.cons (xW rfl rfl rfl rfl rfl rfl (by decide)) (.cons (.tmp 5 rfl rfl) .nil)) ?_ rfl⟩
     rw [zjT]; rfl
    ·rw [show b2 = true by simpa using h2] at htb
     rw [htb, if_neg (by decide)] at hth
     (repeat (first | refine FW.region ?_ | refine FW.skip ?_ | refine zd.nil ?_ | refine za rfl rfl rfl ?_ | refine zb rfl rfl rfl ?_ | refine zw rfl rfl (by omega) rfl rfl ?_))
     exact ⟨i + 1, ⟨by omega, hth⟩, by omega, (FLe.cv [⟨102, some 102, 0, ⟨0, .own, 32, 5, [[.int .i64 0, .int .i64 0, .int .i64 0, .nil, .nil]]⟩⟩, ⟨103, some 103, 0, ⟨0, .own, 32, 5, [[.int .i64 (cOf s), .int .i64 0, .int .i64 0, .nil, .nil]]⟩⟩] (by repeat (first | exact .nil | refine .old rfl (by decide) rfl ?_)) (by repeat (first | exact .nil | refine .cons (.plain rfl rfl rfl) ?_ | refine .cons (.ptr rfl (.head _) rfl) ?_ | refine .cons (.ptr rfl (.tail _ (.head _)) rfl) ?_)))⟩
   ·rw [h1, Bool.false_and] at htb
    rw [htb, if_neg (by decide)] at hth
    (repeat (first | refine zL.nil ?_ | refine ya rfl rfl rfl rfl ?_ | refine yZ rfl rfl ⟨_, _, rfl, rfl, rfl⟩ ?_))
    refine ⟨by kernel_rfl, ?_⟩
    (repeat (first | refine FW.region ?_ | refine FW.skip ?_ | refine FW.condF rfl ?_ | refine zd.nil ?_ | refine za rfl rfl rfl ?_ | refine zb rfl rfl rfl ?_ | refine zw rfl rfl (by omega) rfl rfl ?_))
    exact ⟨i + 1, ⟨by omega, hth⟩, by omega, (FLe.cv [⟨102, some 102, 0, ⟨0, .own, 32, 5, [[.int .i64 0, .int .i64 0, .int .i64 0, .nil, .nil]]⟩⟩, ⟨103, some 103, 0, ⟨0, .own, 32, 5, [[.int .i64 (cOf s), .int .i64 0, .int .i64 0, .nil, .nil]]⟩⟩] (by repeat (first | exact .nil | refine .old rfl (by decide) rfl ?_)) (by repeat (first | exact .nil | refine .cons (.plain rfl rfl rfl) ?_ | refine .cons (.ptr rfl (.head _) rfl) ?_ | refine .cons (.ptr rfl (.tail _ (.head _)) rfl) ?_)))⟩
  ·have hie : i = n := by simp at hc; omega
   clear hc hstep
   rw [hie, Nat.sub_self] at hth
   have hth : YA l = none := hth.symm
   have hEd := zbd l s (by omega)
   obtain ⟨ed, hed⟩ : ∃ ed, yj l s = ed := ⟨_, rfl⟩
   have hedl : (yj l s).length ≤ 576 := by
    have h1 := Vb l s l.length
    have h2 := Nat.mul_le_mul (Nat.mul_le_mul (Nat.le_refl 4) (show l.length ≤ 12 by omega)) (show l.length ≤ 12 by omega)
    exact Nat.le_trans h1 (by omega)
   have hpin := zee l s
   rw [hed] at hEd hedl hpin
   (repeat (first | refine FW.seq ?_ | refine FW.region ?_ | refine FW.exit ?_ | refine zd.nil ?_ | refine za rfl rfl rfl ?_ | refine zb rfl rfl rfl ?_))
   refine YP hEd (by repeat (first | exact zx.nil | refine zx.cons (by exact yI.plain rfl rfl) ?_)) (List.length_map _) rfl rfl rfl ?_
   refine zd.le ?_ (FLe.share 68 rfl rfl (by rw [List.length_map]))
   (repeat (first | refine FW.seq ?_ | refine FW.region ?_ | refine FW.block ?_ | refine zd.nil ?_ | refine za rfl rfl rfl ?_))
   refine FW.loop (fun j : Nat => ⟨[(0, .list 8 (l.map OpV.fv)), (1, .bool s), (4, .ptr 102 0 0 0), (7, .ptr 103 0 0 0), (9, .own 104 0 0 j), (10, .list 3 (ed.map EdV.fv)), (11, .int .i64 j)], [(102, ⟨0, .own, 32, 5, [[.int .i64 0, .int .i64 0, .int .i64 0, .nil, .nil]]⟩), (103, ⟨0, .own, 32, 5, [[.int .i64 (cOf s), .int .i64 0, .int .i64 0, .nil, .nil]]⟩), (104, ⟨0, .own, 59, 2, (prs (ed.take j)).map edf⟩)]⟩) (fun j => j ≤ ed.length) (fun j => ed.length - j) 0 (Nat.zero_le _) ?_ ?_
   ·show FLe _ ⟨[(0, .list 8 (l.map OpV.fv)), (1, .bool s), (4, .ptr 102 0 0 0), (7, .ptr 103 0 0 0), (9, .own 104 0 0 0), (10, .list 3 (ed.map EdV.fv)), (11, .int .i64 0)], [(102, ⟨0, .own, 32, 5, [[.int .i64 0, .int .i64 0, .int .i64 0, .nil, .nil]]⟩), (103, ⟨0, .own, 32, 5, [[.int .i64 (cOf s), .int .i64 0, .int .i64 0, .nil, .nil]]⟩), (104, ⟨0, .own, 59, 2, []⟩)]⟩
    exact (FLe.cv [⟨102, some 102, 0, ⟨0, .own, 32, 5, [[.int .i64 0, .int .i64 0, .int .i64 0, .nil, .nil]]⟩⟩, ⟨103, some 103, 0, ⟨0, .own, 32, 5, [[.int .i64 (cOf s), .int .i64 0, .int .i64 0, .nil, .nil]]⟩⟩, ⟨104, none, 0, ⟨0, .own, 59, 2, []⟩⟩] (by repeat (first | exact .nil | refine .old rfl (by decide) rfl ?_ | refine .new ?_)) (by repeat (first | exact .nil | refine .cons (.plain rfl rfl rfl) ?_ | refine .cons (.ptr rfl (.head _) rfl) ?_ | refine .cons (.ptr rfl (.tail _ (.head _)) rfl) ?_ | refine .cons (.nil rfl (.tail _ (.tail _ (.head _))) rfl) ?_)))
   intro j hj
   have hps : ∀ h : j < ed.length, prs (ed.take (j + 1)) = prs (ed.take j) ++ [((nth ed j).1, (nth ed j).2.1)] := fun h => by
    unfold prs
    rw [List.take_succ_eq_append_getElem h, List.map_append, nth_eq h]; rfl
   have hpl : (prs (ed.take j)).length = j := by unfold prs; rw [List.length_map, List.length_take]; omega
   have hpe : j = ed.length → prs ed = prs (ed.take j) := fun e => by rw [e, List.take_length]
   generalize prs (ed.take j) = PP at hps hpl hpe ⊢
   (repeat (first | refine FW.seq ?_ | refine FW.region ?_ | refine zd.nil ?_ | refine zb rfl rfl rfl ?_ | refine zg rfl rfl (by exact List.length_map _) rfl rfl ?_ | refine zN rfl rfl rfl rfl ?_))
   refine FW.cond rfl (fun hc => ?_) (fun hc => ?_)
   ·have hlt : j < ed.length := by simpa using hc
    clear hc hpe
    have hps := hps hlt
    obtain ⟨⟨x, y, z⟩, he⟩ : ∃ e, nth ed j = e := ⟨_, rfl⟩
    rw [he] at hps
    dsimp only at hps
    (repeat (first | refine FW.seq ?_ | refine FW.block ?_ | refine FW.skip ?_ | refine FW.draw ?_ | refine zL.nil ?_ | refine yi rfl rfl rfl ?_ | refine zD rfl rfl rfl ?_ | refine zfb rfl rfl rfl rfl rfl rfl rfl rfl rfl ?_ | refine zW rfl rfl rfl rfl rfl rfl rfl ?_ | refine zJ rfl rfl rfl rfl rfl rfl (by first | (simp; omega) | (simp; done)) rfl rfl ?_ | refine zR rfl rfl rfl (by first | (simp; omega) | (simp; done)) (by first | exact zc (by omega) | rfl) rfl rfl rfl rfl ?_ | refine Uh rfl rfl rfl rfl rfl rfl rfl rfl rfl rfl ?_ | refine Ws rfl rfl (by first | rfl | (simp; done) | (simp; omega)) rfl rfl rfl (by decide) (by exact xi.own rfl rfl (by decide) (by first | exact List.length_map _ | exact (List.length_map _).symm | exact List.length_replicate | rfl | (simp; done) | omega | (simp; omega))) (by first | (simp; omega) | (simp; done)) (by first | (simp; omega) | (simp; done)) rfl rfl rfl ?_))
    rw [he]
    refine ⟨by kernel_rfl, ?_⟩
    (repeat (first | refine FW.region ?_ | refine zd.nil ?_ | refine za rfl rfl rfl ?_ | refine zb rfl rfl rfl ?_ | refine zw rfl rfl (by omega) rfl rfl ?_))
    refine ⟨j + 1, by omega, by omega, ?_⟩
    rw [hps, List.map_append]
    exact (FLe.cv [⟨102, some 102, 0, ⟨0, .own, 32, 5, [[.int .i64 0, .int .i64 0, .int .i64 0, .nil, .nil]]⟩⟩, ⟨103, some 103, 0, ⟨0, .own, 32, 5, [[.int .i64 (cOf s), .int .i64 0, .int .i64 0, .nil, .nil]]⟩⟩, ⟨104, some 88, 0 + 1, ⟨0, .own, 59, 2, PP.map edf ++ [(x, y)].map edf⟩⟩] (by repeat (first | exact .nil | refine .old rfl (by decide) (by first | rfl | (simp; omega)) ?_)) (by repeat (first | exact .nil | refine .cons (.plain rfl rfl (by first | rfl | (simp; omega))) ?_ | refine .cons (.ptr rfl (.head _) rfl) ?_ | refine .cons (.ptr rfl (.tail _ (.head _)) rfl) ?_ | refine .cons (.own rfl (.tail _ (.tail _ (.head _))) rfl (by first | rfl | (simp; omega))) ?_)))
   have hje : j = ed.length := by simp at hc; omega
   rw [← hpe hje]
   refine FW.le ?_ (FLe.share 9 rfl rfl (by rw [List.length_map, hpe hje]; exact hpl.symm))
   clear hc hps hpl hpe PP
   have hTo := zfa n (prs ed) (by omega) (by unfold prs; rw [List.length_map]; omega)
   have hCy := zdp n (prs ed) (by omega) (by unfold prs; rw [List.length_map]; omega)
   have hcy : yH l s = xm (prs ed) n := by unfold yH; rw [hed, hn]
   rw [hn] at hpin
   (repeat (first | refine FW.seq ?_ | refine FW.region ?_ | refine FW.exit ?_ | refine zb rfl rfl rfl ?_ | refine zg rfl rfl (by exact List.length_map _) rfl rfl ?_))
   rw [hn]
   by_cases h0 : yH l s = []
   ·have hRR : R = ⟨cOf s, 0, 0, Ub l s, []⟩ := by rw [← hRf]; unfold zfC; rw [hth]; dsimp only; rw [if_pos h0]
    have ⟨ht1, ht2⟩ := Xp hpin (by rw [← hcy]; exact h0)
    rw [ht1] at hTo
    unfold zjw at hTo
    dsimp only at hTo
    have hor : Ub l s = (yB n (prs ed)).filter fun x => zV (nth l x.toNat) := by unfold Ub; rw [hed, hn]
    generalize yB n (prs ed) = TT at hTo ht2 hor
    refine xc hTo (by repeat (first | exact zx.nil | refine zx.cons (by exact yI.plain rfl rfl) ?_)) rfl rfl ?_
    (repeat (first | refine FW.seq ?_ | refine FW.region ?_ | refine FW.block ?_ | refine FW.skip ?_ | refine FW.condF rfl ?_ | refine zd.nil ?_ | refine za rfl rfl rfl ?_ | refine zb rfl rfl rfl ?_ | refine xd rfl rfl rfl ?_ | refine yv rfl rfl rfl rfl rfl ?_))
    refine FW.le ?_ (FLe.toH (i := 103) rfl)
    refine FW.loop (fun i : Nat => ⟨[(0, .list 8 (l.map OpV.fv)), (1, .bool s), (4, .ptr 102 0 0 0), (7, .ptr 103 0 0 0), (12, .list 1 (TT.map zp)), (18, .int .i64 i)], [(102, ⟨0, .own, 32, 5, [[.int .i64 0, .int .i64 0, .int .i64 0, .nil, .nil]]⟩), (103, ⟨0, .hrow, 32, 5, [[.int .i64 (cOf s), .int .i64 0, .int .i64 0, .own 105 0 0 ((TT.take i).filter fun x => zV (nth l x.toNat)).length, .nil]]⟩), (105, ⟨0, .own, 3, 1, ((TT.take i).filter fun x => zV (nth l x.toNat)).map zp⟩)]⟩) (fun i => i ≤ TT.length) (fun i => TT.length - i) 0 (Nat.zero_le _) ?_ ?_
    ·show FLe _ ⟨[(0, .list 8 (l.map OpV.fv)), (1, .bool s), (4, .ptr 102 0 0 0), (7, .ptr 103 0 0 0), (12, .list 1 (TT.map zp)), (18, .int .i64 0)], [(102, ⟨0, .own, 32, 5, [[.int .i64 0, .int .i64 0, .int .i64 0, .nil, .nil]]⟩), (103, ⟨0, .hrow, 32, 5, [[.int .i64 (cOf s), .int .i64 0, .int .i64 0, .own 105 0 0 0, .nil]]⟩), (105, ⟨0, .own, 3, 1, []⟩)]⟩
     exact (FLe.cv [⟨102, some 102, 0, ⟨0, .own, 32, 5, [[.int .i64 0, .int .i64 0, .int .i64 0, .nil, .nil]]⟩⟩, ⟨103, some 103, 0, ⟨0, .hrow, 32, 5, [[.int .i64 (cOf s), .int .i64 0, .int .i64 0, .own 105 0 0 0, .nil]]⟩⟩, ⟨105, none, 0, ⟨0, .own, 3, 1, []⟩⟩] (by repeat (first | exact .nil | refine .old rfl (by decide) rfl ?_ | refine .oldK rfl (UM.cons (by repeat (first | exact zf.nil | refine zf.cons (.plain rfl rfl) ?_ | refine zf.cons (.nil (.tail _ (.tail _ (.head _))) rfl) ?_)) rfl UM.nil) ?_ | refine .new ?_)) (by repeat (first | exact .nil | refine .cons (.plain rfl rfl rfl) ?_ | refine .cons (.ptr rfl (.head _) rfl) ?_ | refine .cons (.ptr rfl (.tail _ (.head _)) rfl) ?_)))
    intro q hq
    have hfs : ∀ h : q < TT.length, (TT.take (q + 1)).filter (fun x => zV (nth l x.toNat)) = (TT.take q).filter (fun x => zV (nth l x.toNat)) ++ if zV (nth l (nth TT q).toNat) = true then [nth TT q] else [] := fun h => by
     rw [List.take_succ_eq_append_getElem h, List.filter_append, nth_eq h]
     congr 1
     by_cases hb : zV (nth l (TT[q]).toNat) = true
     ·rw [if_pos hb, List.filter_cons_of_pos (by exact hb)]; rfl
     ·rw [if_neg hb, List.filter_cons_of_neg (by exact hb)]; rfl
    have hfl : ((TT.take q).filter fun x => zV (nth l x.toNat)).length ≤ q := Nat.le_trans (List.length_filter_le _ _) (by rw [List.length_take]; omega)
    have hfe : q = TT.length → Ub l s = (TT.take q).filter fun x => zV (nth l x.toNat) := fun e => by rw [hor, e, List.take_length]
    have htl := ht2.len
    generalize (TT.take q).filter (fun x => zV (nth l x.toNat)) = FF at hfs hfl hfe ⊢
    (repeat (first | refine FW.seq ?_ | refine FW.region ?_ | refine zd.nil ?_ | refine zb rfl rfl rfl ?_ | refine zg rfl rfl (by exact List.length_map _) rfl rfl ?_ | refine zN rfl rfl rfl rfl ?_))
    refine FW.cond rfl (fun hc => ?_) (fun hc => ?_)
    ·have hlt : q < TT.length := by simpa using hc
     clear hc hfe
     have hfs := hfs hlt
     have hrg := ht2.rng _ (zI hlt)
     obtain ⟨u, hu⟩ : ∃ u : Nat, nth TT q = u := ⟨(nth TT q).toNat, by omega⟩
     rw [hu] at hrg
     rw [hu, Int.toNat_natCast] at hfs
     have hIn := YN (nth l u)
     (repeat (first | refine FW.seq ?_ | refine FW.region ?_ | refine FW.block ?_ | refine FW.skip ?_ | refine zb rfl rfl rfl ?_ | refine zh rfl rfl (by first | rfl | exact (Int.toNat_of_nonneg (by omega)).symm) rfl rfl rfl (by simp; omega) rfl rfl ?_ | refine zA rfl rfl rfl (by simp; omega) (by first | exact zc (by omega) | rfl) rfl rfl rfl rfl ?_ | refine yG rfl rfl rfl (by decide) (by simp; omega) (by first | exact zc (by omega) | rfl) rfl rfl rfl ?_))
     rw [hu]
     skip
     refine zX hIn (by repeat (first | exact zx.nil | refine zx.cons (by exact yI.plain rfl rfl) ?_)) rfl rfl ?_
     (repeat (first | refine zd.nil ?_))
     refine FW.cond rfl (fun hb => ?_) (fun hb => ?_)
     ·rw [if_pos hb] at hfs
      (repeat (first | refine FW.draw ?_ | refine yT rfl rfl rfl rfl rfl rfl (by decide) rfl rfl ?_))
      refine zcn rfl rfl rfl rfl rfl rfl rfl ?_
      (repeat (first | refine zD rfl rfl rfl ?_ | refine yT rfl rfl rfl rfl rfl rfl (by decide) rfl rfl ?_ | refine zJ rfl rfl rfl rfl rfl rfl (by first | (simp; omega) | (simp; done)) rfl rfl ?_ | refine zR rfl rfl rfl (by first | (simp; omega) | (simp; done)) (by first | exact zc (by omega) | rfl) rfl rfl rfl rfl ?_ | refine YO rfl rfl rfl rfl rfl rfl rfl rfl ?_ | refine Ws rfl rfl (by first | exact (List.length_map _).symm | rfl | (simp; done) | (simp; omega)) rfl rfl rfl (by decide) (by exact xi.own rfl rfl (by decide) (by first | exact List.length_map _ | exact (List.length_map _).symm | exact List.length_replicate | rfl | (simp; done) | omega | (simp; omega))) (by first | (simp; omega) | (simp; done)) (by first | (simp; omega) | (simp; done)) rfl rfl rfl ?_))
      rw [hu]
      skip
      refine zaz (d := 0) rfl rfl ⟨_, _, _, rfl⟩ (zZ rfl (by decide)) (fun i v n e => by injection e with e1 e2 e3 e4; subst e1; subst e2; exact zZ rfl (by decide)) rfl rfl rfl rfl (by show 3 < 5; decide) rfl rfl ?_
      refine zL.nil ⟨by kernel_rfl, ?_⟩
      (repeat (first | refine FW.region ?_ | refine zd.nil ?_ | refine za rfl rfl rfl ?_ | refine zb rfl rfl rfl ?_ | refine zw rfl rfl (by omega) rfl rfl ?_))
      refine ⟨q + 1, by omega, by omega, ?_⟩
      rw [hfs, show (FF ++ [(u : Int)]).length = FF.length + 1 by simp, List.map_append]
      exact (FLe.cv [⟨102, some 102, 0, ⟨0, .own, 32, 5, [[.int .i64 0, .int .i64 0, .int .i64 0, .nil, .nil]]⟩⟩, ⟨103, some 103, 0, ⟨0, .hrow, 32, 5, [[.int .i64 (cOf s), .int .i64 0, .int .i64 0, .own 105 0 0 (FF.length + 1), .nil]]⟩⟩, ⟨105, some 174, 0 + 1, ⟨0, .own, 3, 1, FF.map zp ++ [(u : Int)].map zp⟩⟩] (by repeat (first | exact .nil | refine .old rfl (by decide) (by first | rfl | (simp; done)) ?_ | refine .oldK rfl (UM.cons (by repeat (first | exact zf.nil | refine zf.cons (.plain rfl rfl) ?_ | refine zf.cons (.own (.tail _ (.tail _ (.head _))) rfl (by first | rfl | (simp; done)) (by first | rfl | (simp; done))) ?_)) rfl UM.nil) ?_)) (by repeat (first | exact .nil | refine .cons (.plain rfl rfl (by first | rfl | (simp; done))) ?_ | refine .cons (.ptr rfl (.head _) rfl) ?_ | refine .cons (.ptr rfl (.tail _ (.head _)) rfl) ?_)))
     ·rw [if_neg (by rw [hb]; decide), List.append_nil] at hfs
      (repeat (first | refine FW.region ?_ | refine FW.skip ?_ | refine zd.nil ?_ | refine za rfl rfl rfl ?_ | refine zb rfl rfl rfl ?_ | refine zw rfl rfl (by omega) rfl rfl ?_))
      refine ⟨q + 1, by omega, by omega, ?_⟩
      rw [hfs]
      exact (FLe.cv [⟨102, some 102, 0, ⟨0, .own, 32, 5, [[.int .i64 0, .int .i64 0, .int .i64 0, .nil, .nil]]⟩⟩, ⟨103, some 103, 0, ⟨0, .hrow, 32, 5, [[.int .i64 (cOf s), .int .i64 0, .int .i64 0, .own 105 0 0 FF.length, .nil]]⟩⟩, ⟨105, some 105, 0, ⟨0, .own, 3, 1, FF.map zp⟩⟩] (by repeat (first | exact .nil | refine .old rfl (by decide) rfl ?_ | refine .oldK rfl (UM.cons (by repeat (first | exact zf.nil | refine zf.cons (.plain rfl rfl) ?_ | refine zf.cons (.own (.tail _ (.tail _ (.head _))) rfl rfl rfl) ?_)) rfl UM.nil) ?_)) (by repeat (first | exact .nil | refine .cons (.plain rfl rfl rfl) ?_ | refine .cons (.ptr rfl (.head _) rfl) ?_ | refine .cons (.ptr rfl (.tail _ (.head _)) rfl) ?_)))
    ·have hqe : q = TT.length := by simp at hc; omega
     rw [hfe hqe] at hRR
     subst hRR
     refine FW.le ?_ (FLe.deep1C (q := 5) (r := [.int .i64 (cOf s), .int .i64 0, .int .i64 0, .own 105 0 0 FF.length, .nil]) (r2 := [.int .i64 (cOf s), .int .i64 0, .int .i64 0, .list 1 (FF.map zp), .nil]) (es := FF.map zp) 103 105 3 (by decide) rfl rfl (by rw [List.length_map]; rfl) rfl rfl rfl)
     (repeat (first | refine FW.seq ?_ | refine FW.region ?_ | refine FW.exit ?_ | refine zd.nil ?_ | refine za rfl rfl rfl ?_ | refine zP rfl rfl rfl rfl rfl rfl rfl rfl rfl ?_ | refine yL rfl rfl rfl (by decide) rfl rfl (by simp; done) rfl rfl rfl rfl ?_))
     refine FW.ret ⟨.inl rfl, .sh (.cons (xW rfl rfl rfl rfl rfl rfl (by decide)) (.cons (.tmp 5 rfl rfl) .nil)) ?_ rfl⟩
     rw [zjS]; rfl
   ·have hRR : R = ⟨cOf s, 5, (nth l (nth (yH l s) 0).toNat).key, [], WD l s (yH l s) (yH l s).length⟩ := by rw [← hRf]; unfold zfC; rw [hth]; dsimp only; rw [if_neg h0]
    rw [zja hpin (by rw [← hcy]; exact h0)] at hTo
    unfold zjw at hTo
    dsimp only at hTo
    have hce := zbF hpin (by rw [← hcy]; exact h0)
    have hc0 : ∃ x0 : Nat, nth (xm (prs ed) n) 0 = x0 ∧ x0 < n := by
     obtain ⟨x, y, hx, hy, hxy⟩ := hce 0 (List.length_pos_iff.2 (by rw [← hcy]; exact h0))
     exact ⟨x, hx, (hpin _ hxy).1⟩
    rw [hcy] at hRR h0
    have hcl := zbG hpin
    generalize xm (prs ed) n = c at hCy hRR h0 hce hcl hc0
    have hcpos := List.length_pos_iff.2 h0
    refine xc hTo (by repeat (first | exact zx.nil | refine zx.cons (by exact yI.plain rfl rfl) ?_)) rfl rfl ?_
    (repeat (first | refine FW.seq ?_ | refine FW.region ?_ | refine FW.condT rfl ?_ | refine zd.nil ?_ | refine za rfl rfl rfl ?_ | refine zb rfl rfl rfl ?_ | refine zg rfl rfl (by exact List.length_map _) rfl rfl ?_ | refine xd rfl rfl rfl ?_ | refine yv rfl rfl rfl rfl rfl ?_))
    rw [hn]
    refine xc hCy (by repeat (first | exact zx.nil | refine zx.cons (by exact yI.plain rfl rfl) ?_)) rfl rfl ?_
    (repeat (first | refine FW.seq ?_ | refine FW.region ?_ | refine FW.block ?_ | refine zd.nil ?_ | refine za rfl rfl rfl ?_ | refine xz rfl rfl rfl rfl rfl rfl rfl rfl rfl ?_ | refine zi rfl rfl rfl rfl rfl rfl (by decide) rfl rfl ?_))
    refine FW.le ?_ (FLe.toH (i := 103) rfl)
    obtain ⟨ag, hag⟩ : ∃ ag : Nat → Int, ag 0 = 0 ∧ ∀ i, ag (i + 1) = (nth l (nth c 0).toNat).key := ⟨fun i => if i = 0 then 0 else (nth l (nth c 0).toNat).key, rfl, fun i => rfl⟩
    refine FW.loop (fun i : Nat => ⟨[(0, .list 8 (l.map OpV.fv)), (1, .bool s), (4, .ptr 102 0 0 0), (7, .ptr 103 0 0 0), (14, .list 1 (c.map zp)), (15, .int .i64 i)], [(102, ⟨0, .own, 32, 5, [[.int .i64 0, .int .i64 0, .int .i64 0, .nil, .nil]]⟩), (103, ⟨0, .hrow, 32, 5, [[.int .i64 (cOf s), .int .i64 5, .int .i64 (ag i), .nil, .own 105 0 0 (WD l s c i).length]]⟩), (105, ⟨0, .own, 28, 3, (WD l s c i).map EdV.fv⟩)]⟩) (fun i => i ≤ c.length) (fun i => c.length - i) 0 (Nat.zero_le _) ?_ ?_
    ·rw [hag.1]
     show FLe _ ⟨[(0, .list 8 (l.map OpV.fv)), (1, .bool s), (4, .ptr 102 0 0 0), (7, .ptr 103 0 0 0), (14, .list 1 (c.map zp)), (15, .int .i64 0)], [(102, ⟨0, .own, 32, 5, [[.int .i64 0, .int .i64 0, .int .i64 0, .nil, .nil]]⟩), (103, ⟨0, .hrow, 32, 5, [[.int .i64 (cOf s), .int .i64 5, .int .i64 0, .nil, .own 105 0 0 0]]⟩), (105, ⟨0, .own, 28, 3, []⟩)]⟩
     exact (FLe.cv [⟨102, some 102, 0, ⟨0, .own, 32, 5, [[.int .i64 0, .int .i64 0, .int .i64 0, .nil, .nil]]⟩⟩, ⟨103, some 103, 0, ⟨0, .hrow, 32, 5, [[.int .i64 (cOf s), .int .i64 5, .int .i64 0, .nil, .own 105 0 0 0]]⟩⟩, ⟨105, none, 0, ⟨0, .own, 28, 3, []⟩⟩] (by repeat (first | exact .nil | refine .old rfl (by decide) rfl ?_ | refine .oldK rfl (UM.cons (by repeat (first | exact zf.nil | refine zf.cons (.plain rfl rfl) ?_ | refine zf.cons (.nil (.tail _ (.tail _ (.head _))) rfl) ?_)) rfl UM.nil) ?_ | refine .new ?_)) (by repeat (first | exact .nil | refine .cons (.plain rfl rfl rfl) ?_ | refine .cons (.ptr rfl (.head _) rfl) ?_ | refine .cons (.ptr rfl (.tail _ (.head _)) rfl) ?_)))
    intro q hq
    have hcs : WD l s c (q + 1) = WD l s c q ++ [((nth c q).toNat, (nth c ((q + 1) % c.length)).toNat, hd0 (xK l s (nth c q).toNat (nth c ((q + 1) % c.length)).toNat))] := by
     unfold WD; rw [List.range_succ, List.map_append]; rfl
    have hcq : (WD l s c q).length = q := by simp [WD]
    have hcA : q = c.length → WD l s c c.length = WD l s c q := fun e => by rw [e]
    have hce := hce q
    generalize WD l s c q = CC at hcs hcq hcA ⊢
    (repeat (first | refine FW.seq ?_ | refine FW.region ?_ | refine zd.nil ?_ | refine zb rfl rfl rfl ?_ | refine zg rfl rfl (by exact List.length_map _) rfl rfl ?_ | refine zN rfl rfl rfl rfl ?_))
    refine FW.cond rfl (fun hc => ?_) (fun hc => ?_)
    ·have hlt : q < c.length := by simpa using hc
     clear hc hcA
     obtain ⟨x, y, hx, hy, hxy⟩ := hce hlt
     obtain ⟨hxn, hyn⟩ := hpin _ hxy
     dsimp only at hxn hyn
     obtain ⟨m, hm⟩ : ∃ m, (q + 1) % c.length = m := ⟨_, rfl⟩
     have hml : m < c.length := by rw [← hm]; exact Nat.mod_lt _ hcpos
     rw [hm] at hy hcs
     rw [hx, hy, Int.toNat_natCast, Int.toNat_natCast] at hcs
     have hwy := zck l s x y (by omega) (by omega) (by omega)
     have hwl := UG l s x y
     (repeat (first | refine FW.seq ?_ | refine FW.region ?_ | refine FW.block ?_ | refine FW.skip ?_ | refine zb rfl rfl rfl ?_ | refine zg rfl rfl (by first | exact List.length_map _ | rfl | (simp; omega)) rfl rfl ?_ | refine zh rfl rfl rfl rfl rfl rfl (by simp; omega) rfl rfl ?_ | refine zw rfl rfl (by omega) rfl rfl ?_ | refine XU rfl rfl (by omega) rfl rfl ?_))
     rw [show (q + 1) % ((c.length : Int)).natAbs = m by rw [Int.natAbs_natCast]; exact hm]
     (repeat (first | refine FW.seq ?_ | refine FW.region ?_ | refine zd.nil ?_ | refine za rfl rfl rfl ?_ | refine zb rfl rfl rfl ?_ | refine zh rfl rfl rfl rfl rfl rfl (by simp; omega) rfl rfl ?_ | refine zA rfl rfl rfl (by simp; omega) (by first | exact zc (by omega) | rfl) rfl rfl rfl rfl ?_))
     rw [hy]
     skip
     rw [hx]
     skip
     generalize xK l s x y = W at hwy hwl hcs
     have hW0 : nth (W ++ [0]) 0 = hd0 W := by cases W <;> rfl
     have hWl : (W ++ [0]).length = W.length + 1 := by simp
     refine YP hwy (by repeat (first | exact zx.nil | refine zx.cons (by exact yI.plain rfl rfl) ?_)) (List.length_map _) rfl rfl rfl ?_
     (repeat (first | refine FW.seq ?_ | refine zd.nil ?_ | refine za rfl rfl rfl ?_ | refine yg rfl rfl rfl rfl rfl rfl rfl rfl ?_ | refine xa rfl rfl (by first | exact (List.length_map _).symm | (simp; done) | (simp; omega)) rfl rfl rfl (by decide) (by exact xi.own rfl rfl (by decide) (by first | exact List.length_map _ | exact (List.length_map _).symm | exact List.length_replicate | rfl | (simp; done) | omega | (simp; omega))) (by first | (simp; omega) | (simp; done)) (by first | (simp; omega) | (simp; done)) rfl rfl rfl ?_))
     refine FW.le ?_ (FLe.share 17 rfl rfl (by simp))
     rw [show W.map zp ++ [[FV.int .i64 0]] = (W ++ [0]).map zp by rw [List.map_append]; rfl]
     generalize W ++ [0] = W1 at hW0 hWl
     generalize hd0 W = z at hW0 hcs
     have hWp : 0 < W1.length := by omega
     have hag1 := hag.2 q
     obtain ⟨x0, hx0, hx0n⟩ := hc0
     rw [hx0, Int.toNat_natCast] at hag1
     (repeat (first | refine FW.draw ?_ | refine yT rfl rfl rfl rfl rfl rfl (by decide) rfl rfl ?_))
     refine zcn rfl rfl rfl rfl rfl rfl rfl ?_
     (repeat (first | refine zD rfl rfl rfl ?_ | refine zgR rfl rfl rfl rfl ?_ | refine yT rfl rfl rfl rfl rfl rfl (by decide) rfl rfl ?_ | refine zJ rfl rfl rfl rfl rfl rfl (by first | (simp; omega) | (simp; done)) rfl rfl ?_ | refine zR rfl rfl rfl (by first | (simp; omega) | (simp; done)) (by first | exact zc (by omega) | rfl) rfl rfl rfl rfl ?_ | refine Uh rfl rfl rfl rfl rfl rfl rfl rfl rfl rfl ?_ | refine Ws rfl rfl (by first | exact (List.length_map _).symm | rfl | (simp; done) | (simp; omega)) rfl rfl rfl (by decide) (by exact xi.own rfl rfl (by decide) (by first | exact List.length_map _ | exact (List.length_map _).symm | exact List.length_replicate | rfl | (simp; done) | omega | (simp; omega))) (by first | (simp; omega) | (simp; done)) (by first | (simp; omega) | (simp; done)) rfl rfl rfl ?_ | refine yO.nil ?_ | refine yO.one rfl rfl rfl rfl rfl ?_))
     rw [hx]
     skip
     rw [hW0]
     skip
     refine zaz (d := 0) rfl rfl ⟨_, _, _, rfl⟩ (zZ rfl (by decide)) (fun i v n e => by injection e with e1 e2 e3 e4; subst e1; subst e2; exact zZ rfl (by decide)) rfl rfl rfl rfl (by show 4 < 5; decide) rfl rfl ?_
     refine zL.nil ⟨by kernel_rfl, ?_⟩
     (repeat (first | refine FW.region ?_ | refine zb rfl rfl rfl ?_ | refine zh rfl rfl rfl rfl rfl rfl (by simp; omega) rfl rfl ?_ | refine zA rfl rfl rfl (by simp; omega) (by first | exact zc (by omega) | rfl) rfl rfl rfl rfl ?_))
     rw [hx0]
     (repeat (first | refine yU rfl rfl rfl rfl rfl rfl rfl ?_ | refine zi rfl rfl rfl rfl rfl rfl (by decide) rfl rfl ?_ | refine zh rfl rfl rfl rfl rfl rfl (by simp; omega) rfl rfl ?_ | refine zA rfl rfl rfl (by simp; omega) (by first | exact zc (by omega) | rfl) rfl rfl rfl rfl ?_))
     refine zfu rfl rfl (.inl rfl) rfl rfl rfl rfl (by show 2 < 5; decide) rfl ?_
     (repeat (first | refine FW.region ?_ | refine zd.nil ?_ | refine za rfl rfl rfl ?_ | refine zb rfl rfl rfl ?_ | refine zw rfl rfl (by omega) rfl rfl ?_))
     refine ⟨q + 1, by omega, by omega, ?_⟩
     rw [hcs, hag1, show (CC ++ [(x, y, z)]).length = CC.length + 1 by simp, List.map_append]
     exact (FLe.cv [⟨102, some 102, 0, ⟨0, .own, 32, 5, [[.int .i64 0, .int .i64 0, .int .i64 0, .nil, .nil]]⟩⟩, ⟨103, some 103, 0, ⟨0, .hrow, 32, 5, [[.int .i64 (cOf s), .int .i64 5, .int .i64 (nth l x0).key, .nil, .own 105 0 0 (CC.length + 1)]]⟩⟩, ⟨105, some 140, 0 + 1, ⟨0, .own, 28, 3, CC.map EdV.fv ++ [(x, y, z)].map EdV.fv⟩⟩] (by repeat (first | exact .nil | refine .old rfl (by decide) (by first | rfl | (simp; done)) ?_ | refine .oldK rfl (UM.cons (by repeat (first | exact zf.nil | refine zf.cons (.plain rfl rfl) ?_ | refine zf.cons (.own (.tail _ (.tail _ (.head _))) rfl (by first | rfl | (simp; done)) (by first | rfl | (simp; done))) ?_)) rfl UM.nil) ?_)) (by repeat (first | exact .nil | refine .cons (.plain rfl rfl (by first | rfl | (simp; done))) ?_ | refine .cons (.ptr rfl (.head _) rfl) ?_ | refine .cons (.ptr rfl (.tail _ (.head _)) rfl) ?_)))
    ·have hqe : q = c.length := by simp at hc; omega
     rw [hcA hqe] at hRR
     obtain ⟨p, hp⟩ : ∃ p, c.length = p + 1 := ⟨c.length - 1, by omega⟩
     rw [hqe, hp, hag.2]
     subst hRR
     refine FW.le ?_ (FLe.deep1C (q := 5) (r := [.int .i64 (cOf s), .int .i64 5, .int .i64 (nth l (nth c 0).toNat).key, .nil, .own 105 0 0 CC.length]) (r2 := [.int .i64 (cOf s), .int .i64 5, .int .i64 (nth l (nth c 0).toNat).key, .nil, .list 3 (CC.map EdV.fv)]) (es := CC.map EdV.fv) 103 105 4 (by decide) rfl rfl (by rw [List.length_map]; rfl) rfl rfl rfl)
     (repeat (first | refine FW.seq ?_ | refine FW.region ?_ | refine FW.exit ?_ | refine zd.nil ?_ | refine za rfl rfl rfl ?_ | refine zP rfl rfl rfl rfl rfl rfl rfl rfl rfl ?_ | refine yL rfl rfl rfl (by decide) rfl rfl (by simp; done) rfl rfl rfl rfl ?_))
     refine FW.ret ⟨.inl rfl, .sh (.cons (xW rfl rfl rfl rfl rfl rfl (by decide)) (.cons (.tmp 5 rfl rfl) .nil)) ?_ rfl⟩
     rw [zjU]; rfl
end Go.Proofs.Ytokmanfcndelfaa
/-
 simprooflaw22.SerialVerdicts answers true for every input (walked on plain values).
-/
namespace Go.Proofs.Ytokmanfcndelfaa
set_option linter.unusedVariables false
open Go.RowKit

theorem zh1 (l : List OpV) (s : Bool) (h : l.length ≤ 12) : (zac l s).ord.length ≤ 1000000 ∧ (zac l s).ed.length ≤ 1000000 := by
 unfold zac
 split
 ·unfold zfC
  cases YA l with
  | some v => exact ⟨by dsimp only; simp, by dsimp only; simp⟩
  | none =>
   dsimp only
   have hin := zee l s
   have he : yH l s = xm (prs (yj l s)) l.length := rfl
   by_cases h0 : yH l s = []
   ·rw [if_pos h0]
    rw [he] at h0
    have h2 := (Xp hin h0).2.len
    have h3 : (Ub l s).length ≤ (yB l.length (prs (yj l s))).length := List.length_filter_le _ _
    exact ⟨by dsimp only; omega, by dsimp only; simp⟩
   ·rw [if_neg h0]
    have h2 : (yH l s).length ≤ l.length := by rw [he]; exact zbG hin
    have h3 : (WD l s (yH l s) (yH l s).length).length = (yH l s).length := by simp [WD]
    exact ⟨by dsimp only; simp, by dsimp only; omega⟩
 ·exact ⟨by simp, by simp⟩
theorem Ve {l : List OpV} (h : ∀ o ∈ l, zcS o) (x : Nat) {o : OpV} (ho : zcS o) : ∀ p ∈ l.set x o, zcS p := fun p hp => by
 rcases List.mem_or_eq_of_mem_set hp with h1 | h1
 ·exact h p h1
 ·rw [h1]; exact ho
def zi5 (l : List OpV) : List FV := [.list 8 (l.map OpV.fv)]
set_option maxHeartbeats 4000000 in
theorem Xv (l : List Int) (f s : Bool) (a b v : Int) (hl : ∀ x ∈ l, I64 x) (hlen : l.length ≤ 9223372036854775807) (ha : I64 a) (hb : I64 b) (hv : I64 v) : yc Try.prog 4 [.list 1 (l.map zp), .bool f, .bool s, .int .i64 a, .int .i64 b, .int .i64 v] .fr (.bool true) := by
 have hH := zeT 8 f l (by decide) hl hlen
 have hin := zhG (f := f) (l := l) (by decide : 8 ≤ 12)
 have hHl := VS (f := f) (l := l) (by decide : 8 ≤ 12)
 have hwf := (zhH (f := f) (l := l) (by decide : 8 ≤ 12)).check
 refine yc.of_body (c := (xB Try.prog zE zq 119)) ⟨Try.func4, rfl, Try.ntmps4, by kernel_rfl⟩ (by simp [FV.hand]) (by exact Nat.le_of_ble_eq_true rfl) rfl ?_
 change FW _ _ _ ⟨[(0, .list 1 (l.map zp)), (1, .bool f), (2, .bool s), (3, .int .i64 a), (4, .int .i64 b), (5, .int .i64 v)], []⟩
 (repeat (first | refine FW.seq ?_ | refine FW.region ?_ | refine zd.nil ?_ | refine za rfl rfl rfl ?_ | refine zb rfl rfl rfl ?_))
 refine YP hH (by repeat (first | exact zx.nil | refine zx.cons (by exact yI.plain rfl rfl) ?_)) (List.length_map _) rfl rfl rfl ?_
 refine zd.le ?_ (FLe.share 25 rfl rfl (by rw [List.length_map]))
 generalize xF 8 f l = H at hH hin hHl hwf
 obtain ⟨n, hn⟩ : ∃ n, H.length = n := ⟨_, rfl⟩
 rw [hn] at hHl
 (repeat (first | refine FW.seq ?_ | refine FW.region ?_ | refine zd.nil ?_ | refine za rfl rfl rfl ?_ | refine zb rfl rfl rfl ?_ | refine zaB rfl rfl rfl rfl rfl rfl ?_ | refine xa rfl rfl (by first | rfl | (simp; omega)) rfl rfl rfl (by decide) (by exact xi.list rfl) (by simp; omega) (by simp; omega) rfl rfl rfl ?_ | refine yp rfl rfl rfl (by decide) rfl rfl ?_ | refine xC rfl rfl rfl rfl ?_))
 rw [List.nil_append, List.length_map, hn]
 refine FW.join (fun T : List OpV => ⟨[(2, .bool s), (13, .list 8 (H.map OpV.fv)), (14, .own 100 0 0 T.length)], [(100, ⟨0, .own, 37, 8, T.map OpV.fv⟩)]⟩) (fun T => T.length ≤ 8 ∧ ∀ o ∈ T, zcS o) ?_ ?_
 ·refine FW.cond rfl (fun h => ?_) (fun h => ?_)
  ·have hpos : 0 < n := by simpa using h
   clear h
   obtain ⟨x, hx⟩ : ∃ x : Nat, xj a n = x := ⟨(xj a n).toNat, (Int.toNat_of_nonneg (Yh (by omega))).symm⟩
   have hxl : x < n := by have := Vm (n := a) (most := n) (by omega); omega
   obtain ⟨w, hw⟩ : ∃ w : Nat, xj v 10 = w := ⟨(xj v 10).toNat, (Int.toNat_of_nonneg (Yh (by omega))).symm⟩
   have hwl : w < 10 := by have := Vm (n := v) (most := 10) (by omega); omega
   have hA := ZO a n ha (by omega) (by omega)
   have hW := ZO v 10 hv (by decide) (by decide)
   have hF := ZO b 4 hb (by decide) (by decide)
   rw [hx] at hA
   rw [hw] at hW
   generalize xj b 4 = g at hF
   have hxl2 : x < H.length := by omega
   obtain ⟨q1, q2, q3, q4, q5, q6, q7⟩ := hin _ (zI hxl2)
   have hiw : I64 (w : Int) := by unfold I64; omega
   have hiw6 : I64 ((w : Int) % 6) := by unfold I64; omega
   have hiw3 : I64 ((w : Int) % 3) := by unfold I64; omega
   (repeat (first | refine FW.seq ?_ | refine FW.region ?_ | refine zb rfl rfl rfl ?_ | refine yp rfl rfl rfl (by decide) rfl rfl ?_))
   refine zX hA (by repeat (first | exact zx.nil | refine zx.cons (by exact yI.plain rfl rfl) ?_)) rfl rfl ?_
   (repeat (first | refine FW.seq ?_ | refine FW.region ?_ | refine zd.nil ?_ | refine za rfl rfl rfl ?_ | refine zb rfl rfl rfl ?_))
   refine zX hW (by repeat (first | exact zx.nil | refine zx.cons (by exact yI.plain rfl rfl) ?_)) rfl rfl ?_
   (repeat (first | refine FW.seq ?_ | refine FW.region ?_ | refine zd.nil ?_ | refine za rfl rfl rfl ?_ | refine zb rfl rfl rfl ?_))
   refine zX hF (by repeat (first | exact zx.nil | refine zx.cons (by exact yI.plain rfl rfl) ?_)) rfl rfl ?_
   (repeat (first | refine FW.seq ?_ | refine FW.region ?_ | refine FW.block ?_ | refine zd.nil ?_ | refine za rfl rfl rfl ?_ | refine zU rfl rfl rfl rfl ?_))
   refine FW.cond rfl (fun h => ?_) (fun h => ?_)
   ·(repeat (first | refine FW.region ?_ | refine zd.nil ?_ | refine zb rfl rfl rfl ?_ | refine XU rfl rfl (by omega) rfl rfl ?_ | refine zG rfl rfl rfl rfl rfl rfl (by decide) rfl (by first | omega | (simp; omega)) rfl rfl ?_ | refine zi rfl rfl rfl rfl rfl rfl (by decide) rfl rfl ?_ | refine zY rfl rfl rfl rfl rfl rfl (by first | omega | (simp; omega)) (by first | exact zc (by omega) | rfl) rfl rfl rfl ?_))
    exact ⟨rfl, H.set x { nth H x with k := (w : Int) % 6 }, ⟨by rw [List.length_set]; omega, Ve hin x ⟨q1, hiw6, q3, q4, q5, q6, q7⟩⟩, by rw [List.length_set, hn, List.map_set]; exact (FLe.cv [⟨100, some 28, 0 + 1, ⟨0, .own, 37, 8, (H.map OpV.fv).set x (OpV.fv { nth H x with k := (w : Int) % 6 })⟩⟩] (by repeat (first | exact .nil | refine .old rfl (by decide) rfl ?_)) (by repeat (first | exact .nil | refine .cons (.plain rfl rfl rfl) ?_ | refine .cons (.own rfl (.head _) rfl rfl) ?_)))⟩
   ·clear h
    (repeat (first | refine FW.seq ?_ | refine FW.region ?_ | refine zd.nil ?_ | refine za rfl rfl rfl ?_ | refine zU rfl rfl rfl rfl ?_))
    refine FW.cond rfl (fun h => ?_) (fun h => ?_)
    ·(repeat (first | refine FW.region ?_ | refine zd.nil ?_ | refine zb rfl rfl rfl ?_ | refine zG rfl rfl rfl rfl rfl rfl (by decide) rfl (by first | omega | (simp; omega)) rfl rfl ?_ | refine zi rfl rfl rfl rfl rfl rfl (by decide) rfl rfl ?_ | refine zY rfl rfl rfl rfl rfl rfl (by first | omega | (simp; omega)) (by first | exact zc (by omega) | rfl) rfl rfl rfl ?_))
     exact ⟨rfl, H.set x { nth H x with arg := (w : Int) }, ⟨by rw [List.length_set]; omega, Ve hin x ⟨q1, q2, q3, hiw, q5, q6, q7⟩⟩, by rw [List.length_set, hn, List.map_set]; exact (FLe.cv [⟨100, some 28, 0 + 1, ⟨0, .own, 37, 8, (H.map OpV.fv).set x (OpV.fv { nth H x with arg := (w : Int) })⟩⟩] (by repeat (first | exact .nil | refine .old rfl (by decide) rfl ?_)) (by repeat (first | exact .nil | refine .cons (.plain rfl rfl rfl) ?_ | refine .cons (.own rfl (.head _) rfl rfl) ?_)))⟩
    ·clear h
     (repeat (first | refine FW.seq ?_ | refine FW.region ?_ | refine zd.nil ?_ | refine za rfl rfl rfl ?_ | refine zU rfl rfl rfl rfl ?_))
     refine FW.cond rfl (fun h => ?_) (fun h => ?_)
     ·(repeat (first | refine FW.region ?_ | refine zd.nil ?_ | refine zb rfl rfl rfl ?_ | refine XU rfl rfl (by omega) rfl rfl ?_ | refine zG rfl rfl rfl rfl rfl rfl (by decide) rfl (by first | omega | (simp; omega)) rfl rfl ?_ | refine zi rfl rfl rfl rfl rfl rfl (by decide) rfl rfl ?_ | refine zY rfl rfl rfl rfl rfl rfl (by first | omega | (simp; omega)) (by first | exact zc (by omega) | rfl) rfl rfl rfl ?_))
      exact ⟨rfl, H.set x { nth H x with key := (w : Int) % 3 }, ⟨by rw [List.length_set]; omega, Ve hin x ⟨q1, q2, hiw3, q4, q5, q6, q7⟩⟩, by rw [List.length_set, hn, List.map_set]; exact (FLe.cv [⟨100, some 28, 0 + 1, ⟨0, .own, 37, 8, (H.map OpV.fv).set x (OpV.fv { nth H x with key := (w : Int) % 3 })⟩⟩] (by repeat (first | exact .nil | refine .old rfl (by decide) rfl ?_)) (by repeat (first | exact .nil | refine .cons (.plain rfl rfl rfl) ?_ | refine .cons (.own rfl (.head _) rfl rfl) ?_)))⟩
     ·clear h
      (repeat (first | refine FW.seq ?_ | refine FW.region ?_ | refine zd.nil ?_ | refine zb rfl rfl rfl ?_ | refine zG rfl rfl rfl rfl rfl rfl (by decide) rfl (by first | omega | (simp; omega)) rfl rfl ?_ | refine zi rfl rfl rfl rfl rfl rfl (by decide) rfl rfl ?_ | refine zm rfl rfl rfl rfl rfl (by first | omega | (simp; omega)) (by first | exact zc (by omega) | rfl) rfl rfl rfl rfl ?_))
      refine FW.cond rfl (fun h => ?_) (fun h => ?_)
      ·(repeat (first | refine FW.region ?_ | refine zd.nil ?_ | refine zb rfl rfl rfl ?_ | refine zG rfl rfl rfl rfl rfl rfl (by decide) rfl (by first | omega | (simp; omega)) rfl rfl ?_ | refine zi rfl rfl rfl rfl rfl rfl (by decide) rfl rfl ?_ | refine zY rfl rfl rfl rfl rfl rfl (by first | omega | (simp; omega)) (by first | exact zc (by omega) | rfl) rfl rfl rfl ?_))
       exact ⟨rfl, H.set x { nth H x with res := (w : Int) }, ⟨by rw [List.length_set]; omega, Ve hin x ⟨q1, q2, q3, q4, hiw, q6, q7⟩⟩, by rw [List.length_set, hn, List.map_set]; exact (FLe.cv [⟨100, some 28, 0 + 1, ⟨0, .own, 37, 8, (H.map OpV.fv).set x (OpV.fv { nth H x with res := (w : Int) })⟩⟩] (by repeat (first | exact .nil | refine .old rfl (by decide) rfl ?_)) (by repeat (first | exact .nil | refine .cons (.plain rfl rfl rfl) ?_ | refine .cons (.own rfl (.head _) rfl rfl) ?_)))⟩
      ·clear h
       (repeat (first | refine FW.skip ?_))
       exact ⟨rfl, H, ⟨by omega, hin⟩, by rw [hn]; exact (FLe.cv [⟨100, some 28, 0 + 1, ⟨0, .own, 37, 8, H.map OpV.fv⟩⟩] (by repeat (first | exact .nil | refine .old rfl (by decide) rfl ?_)) (by repeat (first | exact .nil | refine .cons (.plain rfl rfl rfl) ?_ | refine .cons (.own rfl (.head _) rfl rfl) ?_)))⟩
  ·(repeat (first | refine FW.skip ?_))
   exact ⟨rfl, H, ⟨by omega, hin⟩, by rw [hn]; exact (FLe.cv [⟨100, some 28, 0 + 1, ⟨0, .own, 37, 8, H.map OpV.fv⟩⟩] (by repeat (first | exact .nil | refine .old rfl (by decide) rfl ?_)) (by repeat (first | exact .nil | refine .cons (.plain rfl rfl rfl) ?_ | refine .cons (.own rfl (.head _) rfl rfl) ?_)))⟩
 rintro T ⟨hTl, hTin⟩
 obtain ⟨m, hm⟩ : ∃ m, T.length = m := ⟨_, rfl⟩
 refine FW.le ?_ (FLe.share 14 rfl rfl (by rw [List.length_map]))
 (repeat (first | refine FW.seq ?_ | refine FW.region ?_ | refine zb rfl rfl rfl ?_))
 refine Yt (es := [zi5 H, zi5 T]) rfl rfl rfl (by refine xJ.list rfl rfl ?_; refine xJ.list rfl rfl ?_; exact xJ.nil) rfl rfl rfl rfl rfl rfl ?_
 refine zd.le ?_ (FLe.share 75 rfl rfl rfl)
 (repeat (first | refine FW.seq ?_ | refine FW.region ?_ | refine FW.block ?_ | refine zd.nil ?_ | refine za rfl rfl rfl ?_))
 obtain ⟨rows, hrows⟩ : ∃ rows : List (List OpV), rows = [H, T] := ⟨_, rfl⟩
 have hrn : rows.length = 2 := by rw [hrows]; rfl
 have hrow : ∀ i, i < 2 → (nth rows i).length ≤ 8 ∧ ∀ o ∈ nth rows i, zcS o := fun i hi => by
  rw [hrows]
  rcases i with _ | _ | i
  ·exact ⟨by show H.length ≤ 8; omega, hin⟩
  ·exact ⟨hTl, hTin⟩
  ·omega
 rw [show [zi5 H, zi5 T] = rows.map zi5 by rw [hrows]; rfl]
 refine FW.loop (fun i : Nat => ⟨[(2, .bool s), (13, .list 8 (H.map OpV.fv)), (17, .list 1 (rows.map zi5)), (18, .int .i64 i)], []⟩) (fun i => i ≤ 2) (fun i => 2 - i) 0 (by decide) (FLe.cv [] (by repeat (first | exact .nil)) (by repeat (first | exact .nil | refine .cons (.plain rfl rfl rfl) ?_))) ?_
 intro i hi
 (repeat (first | refine FW.seq ?_ | refine FW.region ?_ | refine zd.nil ?_ | refine zb rfl rfl rfl ?_ | refine zN rfl rfl rfl rfl ?_))
 refine FW.cond rfl (fun h => ?_) (fun h => ?_)
 ·have hlt : i < 2 := by simp at h; omega
  clear h
  have hrn2 : i < rows.length := by omega
  obtain ⟨q1, q2⟩ := hrow i hlt
  obtain ⟨X, hX⟩ : ∃ X, nth rows i = X := ⟨_, rfl⟩
  rw [hX] at q1 q2
  have hck := VP X q2 (by omega)
  have hA := Xu X s (by omega) q2
  have hB := zbc X s (by omega) q2
  have hvl := zh1 X s (by omega)
  generalize zac X s = V at hA hB hvl
  generalize zct X = E at hA hB
  have hS := zdB V hvl.1 hvl.2
  (repeat (first | refine FW.seq ?_ | refine FW.region ?_ | refine FW.block ?_ | refine FW.skip ?_ | refine zb rfl rfl rfl ?_ | refine zh rfl rfl rfl rfl rfl rfl (by simp; omega) rfl rfl ?_ | refine zA rfl rfl rfl (by simp; omega) (by first | exact zc (by omega) | rfl) rfl rfl rfl rfl ?_))
  rw [hX]
  refine zX hck (by repeat (first | exact zx.nil | refine zx.cons (by exact yI.plain rfl rfl) ?_)) rfl rfl ?_
  (repeat (first | refine zd.nil ?_ | refine Za rfl rfl rfl rfl ?_))
  refine FW.cond rfl (fun h1 => ?_) (fun h1 => ?_)
  ·(repeat (first | refine FW.region ?_ | refine FW.exit ?_ | refine zd.nil ?_ | refine za rfl rfl rfl ?_ | refine zb rfl rfl rfl ?_ | refine zw rfl rfl (by omega) rfl rfl ?_))
   exact ⟨i + 1, by omega, by omega, (FLe.cv [] (by repeat (first | exact .nil)) (by repeat (first | exact .nil | refine .cons (.plain rfl rfl rfl) ?_)))⟩
  ·(repeat (first | refine FW.seq ?_ | refine FW.region ?_ | refine FW.skip ?_ | refine zb rfl rfl rfl ?_ | refine zh rfl rfl rfl rfl rfl rfl (by simp; omega) rfl rfl ?_ | refine zA rfl rfl rfl (by simp; omega) (by first | exact zc (by omega) | rfl) rfl rfl rfl rfl ?_))
   rw [hX]
   refine xc hA (by repeat (first | exact zx.nil | refine zx.cons (by exact yI.plain rfl rfl) ?_)) rfl rfl ?_
   (repeat (first | refine FW.seq ?_ | refine FW.region ?_ | refine zd.nil ?_ | refine za rfl rfl rfl ?_ | refine zb rfl rfl rfl ?_ | refine zh rfl rfl rfl rfl rfl rfl (by simp; omega) rfl rfl ?_ | refine zP rfl rfl rfl rfl rfl rfl rfl rfl rfl ?_ | refine zA rfl rfl rfl (by simp; omega) (by first | exact zc (by omega) | rfl) rfl rfl rfl rfl ?_ | refine yv rfl rfl rfl rfl rfl ?_ | refine yu rfl rfl rfl rfl rfl rfl rfl ?_))
   rw [hX]
   refine xc hB (by repeat (first | exact zx.nil | refine zx.cons (by exact yI.plain rfl rfl) ?_)) rfl rfl ?_
   (repeat (first | refine FW.seq ?_ | refine FW.region ?_ | refine zd.nil ?_ | refine za rfl rfl rfl ?_ | refine zb rfl rfl rfl ?_ | refine zP rfl rfl rfl rfl rfl rfl rfl rfl rfl ?_ | refine Za rfl rfl rfl rfl ?_ | refine yv rfl rfl rfl rfl rfl ?_ | refine yu rfl rfl rfl rfl rfl rfl rfl ?_))
   refine zO (fun h2 => absurd rfl (of_decide_eq_true h2)) (fun h2 => ?_)
   (repeat (first | refine yL rfl rfl rfl (by decide) rfl rfl (by simp; done) rfl rfl rfl ⟨_, _, rfl, rfl, rfl⟩ ?_))
   refine zX hS (by repeat (first | exact zx.nil | refine zx.cons (by exact yI.plain rfl rfl) ?_)) rfl ⟨_, _, rfl, rfl, rfl⟩ ?_
   (repeat (first | refine FW.region ?_ | refine FW.skip ?_ | refine FW.condF rfl ?_ | refine zd.nil ?_ | refine za rfl rfl rfl ?_ | refine zb rfl rfl rfl ?_ | refine zn rfl rfl rfl rfl ?_ | refine zw rfl rfl (by omega) rfl rfl ?_ | refine xd rfl rfl ⟨_, _, rfl, rfl, rfl⟩ ?_))
   exact ⟨i + 1, by omega, by omega, (FLe.cv [] (by repeat (first | exact .nil)) (by repeat (first | exact .nil | refine .cons (.plain rfl rfl rfl) ?_)))⟩
 ·have hie : i = 2 := by simp at h; omega
  have hck := VP H hin (by omega)
  rw [hwf] at hck
  (repeat (first | refine FW.seq ?_ | refine FW.region ?_ | refine FW.exit ?_ | refine zb rfl rfl rfl ?_))
  refine zX hck (by repeat (first | exact zx.nil | refine zx.cons (by exact yI.plain rfl rfl) ?_)) rfl rfl ?_
  (repeat (first | refine zb rfl rfl rfl ?_ | refine zU rfl rfl rfl rfl ?_))
  refine zO (fun h2 => ?_) (fun h2 => absurd h2 (by simp))
  skip
  refine zX zcb (by repeat (first | exact zx.nil)) rfl ⟨_, _, rfl, rfl, rfl⟩ ?_
  (repeat (first | refine zd.nil ?_ | refine za rfl rfl rfl ?_ | refine zu rfl rfl rfl rfl ?_))
  exact FW.ret ⟨.inl rfl, zj rfl rfl rfl rfl⟩
end Go.Proofs.Ytokmanfcndelfaa
