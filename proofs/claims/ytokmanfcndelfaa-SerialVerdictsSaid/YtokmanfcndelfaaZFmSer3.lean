/-
  A cycle's edges, found by halving: cmp.Or, cmp.Compare, slices.BinarySearchFunc, serial.cycle, at plain values.
-/
import Derived.Test.YtokmanfcndelfaaZFmSer2
import Derived.Test.YtokmanfcndelfaaZSerLaws
namespace Go.Proofs.Ytokmanfcndelfaa
set_option linter.unusedVariables false
open Go.RowKit

set_option maxHeartbeats 1000000 in
theorem zar (x : Int) : yc Try.prog 56 [.int .i64 x] .fr (.bool false) := by
 refine yc.of_body (c := (xB Try.prog zE zq 6)) ⟨Try.func56, rfl, Try.ntmps56, by kernel_rfl⟩ (by simp [FV.hand]) (by exact Nat.le_of_ble_eq_true rfl) rfl ?_
 change FW _ _ _ ⟨[(0, .int .i64 x)], []⟩
 (repeat (first | refine FW.seq ?_ | refine FW.region ?_ | refine zd.nil ?_ | refine za rfl rfl rfl ?_ | refine zb rfl rfl rfl ?_ | refine Za rfl rfl rfl rfl ?_))
 refine FW.ret ⟨.inl rfl, zj rfl rfl ?_ rfl⟩
 show FV.bool _ = FV.bool false
 simp
set_option maxHeartbeats 1000000 in
theorem Yi (x y : Int) : yc Try.prog 44 [.int .i64 x, .int .i64 y] .fr (.int .i64 (zai x y)) := by
 refine yc.of_body (c := (xB Try.prog zE zq 20)) ⟨Try.func44, rfl, Try.ntmps44, by kernel_rfl⟩ (by simp [FV.hand]) (by exact Nat.le_of_ble_eq_true rfl) rfl ?_
 change FW _ _ _ ⟨[(0, .int .i64 x), (1, .int .i64 y)], []⟩
 (repeat (first | refine FW.seq ?_ | refine FW.region ?_ | refine zd.nil ?_ | refine za rfl rfl rfl ?_ | refine zb rfl rfl rfl ?_))
 refine zX (zar x) (by repeat (first | exact zx.nil | refine zx.cons (by exact yI.plain rfl rfl) ?_)) rfl rfl ?_
 (repeat (first | refine FW.seq ?_ | refine FW.region ?_ | refine zd.nil ?_ | refine za rfl rfl rfl ?_ | refine zb rfl rfl rfl ?_))
 refine zX (zar y) (by repeat (first | exact zx.nil | refine zx.cons (by exact yI.plain rfl rfl) ?_)) rfl rfl ?_
 (repeat (first | refine FW.seq ?_ | refine FW.region ?_ | refine FW.skip ?_ | refine FW.condF rfl ?_ | refine zd.nil ?_ | refine za rfl rfl rfl ?_ | refine zb rfl rfl rfl ?_ | refine zN rfl rfl rfl rfl ?_))
 refine FW.cond rfl (fun h1 => ?_) (fun h1 => ?_)
 ·have h1' : x < y := by simpa using h1
  (repeat (first | refine FW.seq ?_ | refine FW.region ?_ | refine zd.nil ?_ | refine za rfl rfl rfl ?_))
  exact FW.ret ⟨.inl rfl, zj rfl rfl (by unfold zai; rw [if_pos h1']; rfl) rfl⟩
 ·have h1' : ¬ x < y := by simpa using h1
  (repeat (first | refine FW.seq ?_ | refine FW.region ?_ | refine FW.skip ?_ | refine zd.nil ?_ | refine zb rfl rfl rfl ?_ | refine xC rfl rfl rfl rfl ?_))
  refine FW.cond rfl (fun h2 => ?_) (fun h2 => ?_)
  ·have h2' : y < x := by simpa using h2
   (repeat (first | refine FW.seq ?_ | refine FW.region ?_ | refine zd.nil ?_ | refine za rfl rfl rfl ?_))
   exact FW.ret ⟨.inl rfl, zj rfl rfl (by unfold zai; rw [if_neg h1', if_pos h2']; rfl) rfl⟩
  ·have h2' : ¬ y < x := by simpa using h2
   (repeat (first | refine FW.seq ?_ | refine FW.region ?_ | refine FW.skip ?_ | refine zd.nil ?_ | refine za rfl rfl rfl ?_))
   exact FW.ret ⟨.inl rfl, zj rfl rfl (by unfold zai; rw [if_neg h1', if_neg h2']; rfl) rfl⟩
def orL : List Int → Int
 | [] => 0
 | x :: l => if x ≠ 0 then x else orL l
theorem zhR {l : List Int} {k : Nat} (h : k < l.length) : orL (l.drop k) = if nth l k ≠ 0 then nth l k else orL (l.drop (k + 1)) := by
 rw [nth_eq h, List.drop_eq_getElem_cons h]; rfl
set_option maxHeartbeats 1000000 in
theorem ziJ (l : List Int) (hl : l.length ≤ 1000000) : yc Try.prog 43 [.list 1 (l.map zp)] .fr (.int .i64 (orL l)) := by
 refine yc.of_body (c := (xB Try.prog zE zq 18)) ⟨Try.func43, rfl, Try.ntmps43, by kernel_rfl⟩ (by simp [FV.hand]) (by exact Nat.le_of_ble_eq_true rfl) rfl ?_
 change FW _ _ _ ⟨[(0, .list 1 (l.map zp))], []⟩
 (repeat (first | refine FW.seq ?_ | refine FW.region ?_ | refine FW.block ?_ | refine zd.nil ?_ | refine za rfl rfl rfl ?_ | refine zb rfl rfl rfl ?_ | refine zg rfl rfl (by exact List.length_map _) rfl rfl ?_))
 refine FW.loop (fun k : Nat => ⟨[(3, .int .i64 0), (6, .list 1 (l.map zp)), (7, .int .i64 l.length), (8, .int .i64 k)], []⟩) (fun k => k ≤ l.length ∧ orL l = orL (l.drop k)) (fun k => l.length - k) 0 ⟨Nat.zero_le _, rfl⟩ (FLe.cv [] (by repeat (first | exact .nil)) (by repeat (first | exact .nil | refine .cons (.plain rfl rfl rfl) ?_))) ?_
 rintro k ⟨hk, ho⟩
 (repeat (first | refine FW.seq ?_ | refine FW.region ?_ | refine zd.nil ?_ | refine zN rfl rfl rfl rfl ?_))
 refine FW.cond rfl (fun h => ?_) (fun h => ?_)
 ·have hlt : k < l.length := by simpa using h
  clear h
  rw [zhR hlt] at ho
  (repeat (first | refine FW.seq ?_ | refine FW.region ?_ | refine FW.block ?_ | refine FW.skip ?_ | refine zd.nil ?_ | refine za rfl rfl rfl ?_ | refine zb rfl rfl rfl ?_ | refine zh rfl rfl rfl rfl rfl rfl (by simp; omega) rfl rfl ?_ | refine zA rfl rfl rfl (by simp; omega) (by first | exact zc (by omega) | rfl) rfl rfl rfl rfl ?_ | refine Za rfl rfl rfl rfl ?_))
  refine FW.cond rfl (fun h => ?_) (fun h => ?_)
  ·have h' : nth l k ≠ 0 := by simpa using h
   rw [if_pos h'] at ho
   (repeat (first | refine FW.seq ?_ | refine FW.region ?_ | refine zd.nil ?_ | refine za rfl rfl rfl ?_ | refine zb rfl rfl rfl ?_))
   exact FW.ret ⟨.inl rfl, zj rfl rfl (by rw [ho]; rfl) rfl⟩
  ·have h' : ¬ nth l k ≠ 0 := by simpa using h
   rw [if_neg h'] at ho
   (repeat (first | refine FW.region ?_ | refine FW.skip ?_ | refine zd.nil ?_ | refine zb rfl rfl rfl ?_ | refine zw rfl rfl (by omega) rfl rfl ?_))
   exact ⟨k + 1, ⟨by omega, ho⟩, by omega, (FLe.cv [] (by repeat (first | exact .nil)) (by repeat (first | exact .nil | refine .cons (.plain rfl rfl rfl) ?_)))⟩
 ·obtain rfl : k = l.length := by simp at h; omega
  rw [List.drop_length] at ho
  (repeat (first | refine FW.seq ?_ | refine FW.region ?_ | refine FW.exit ?_ | refine zd.nil ?_ | refine za rfl rfl rfl ?_ | refine zb rfl rfl rfl ?_))
  exact FW.ret ⟨.inl rfl, zj rfl rfl (by rw [ho]; rfl) rfl⟩
set_option maxHeartbeats 2000000 in
theorem zbH (a b : EdV) : yc Try.prog 42 [.agg a.fv, .agg b.fv] .fr (.int .i64 (zf5 a b)) := by
 obtain ⟨a1, a2, a3⟩ := a
 obtain ⟨b1, b2, b3⟩ := b
 have ho := ziJ [zai a1 b1, zai a2 b2, zai a3 b3] (by show 3 ≤ 1000000; decide)
 have he : orL [zai a1 b1, zai a2 b2, zai a3 b3] = zf5 (a1, a2, a3) (b1, b2, b3) := by
  unfold zf5 orI orL orL orL orL
  dsimp only
  by_cases h1 : zai a1 b1 = 0
  ·by_cases h2 : zai a2 b2 = 0
   ·by_cases h3 : zai a3 b3 = 0
    ·simp [h1, h2, h3]
    ·simp [h1, h2, h3]
   ·simp [h1, h2]
  ·simp [h1]
 rw [he] at ho
 refine yc.of_body (c := (xB Try.prog zE zq 22)) ⟨Try.func42, rfl, Try.ntmps42, by kernel_rfl⟩ (by simp [FV.hand]) (by exact Nat.le_of_ble_eq_true rfl) rfl ?_
 change FW _ _ _ ⟨[(0, .agg [.int .i64 a1, .int .i64 a2, .int .i64 a3]), (1, .agg [.int .i64 b1, .int .i64 b2, .int .i64 b3])], []⟩
 (repeat (first | refine FW.seq ?_ | refine FW.region ?_ | refine zd.nil ?_ | refine Un rfl rfl rfl rfl rfl rfl rfl ?_ | refine za rfl rfl rfl ?_ | refine FW.draw ?_ | refine yT rfl rfl rfl rfl rfl rfl (by decide) rfl rfl ?_ | refine xq rfl rfl rfl rfl rfl (by simp; done) rfl rfl rfl rfl rfl ?_))
 refine Wt (Yi a1 b1) (by repeat (first | exact zx.nil | refine zx.cons (by exact yI.plain rfl rfl) ?_)) rfl rfl ?_
 (repeat (first | refine yT rfl rfl rfl rfl rfl rfl (by decide) rfl rfl ?_ | refine xq rfl rfl rfl rfl rfl (by simp; done) rfl rfl rfl rfl rfl ?_))
 refine Wt (Yi a2 b2) (by repeat (first | exact zx.nil | refine zx.cons (by exact yI.plain rfl rfl) ?_)) rfl rfl ?_
 (repeat (first | refine yT rfl rfl rfl rfl rfl rfl (by decide) rfl rfl ?_ | refine xq rfl rfl rfl rfl rfl (by simp; done) rfl rfl rfl rfl rfl ?_))
 refine Wt (Yi a3 b3) (by repeat (first | exact zx.nil | refine zx.cons (by exact yI.plain rfl rfl) ?_)) rfl rfl ?_
 skip
 refine zgS (es := [zai a1 b1, zai a2 b2, zai a3 b3].map zp) rfl rfl rfl (by refine xJ.int rfl rfl ?_; refine xJ.int rfl rfl ?_; refine xJ.int rfl rfl ?_; exact xJ.nil) rfl rfl rfl rfl rfl rfl ?_
 refine Wt ho (by repeat (first | exact zx.nil | refine zx.cons (by exact yI.own rfl rfl (by decide) (by first | exact (fun _ => rfl) | (intro h; cases h)) (by first | rfl | (simp; done) | (congr 1; omega) | (simp; omega) | (simp [List.take_of_length_le]; done) | (refine congrArg (FV.int .i64) ?_; omega))) ?_)) rfl rfl ?_
 (repeat (first | refine zL.nil ?_ | refine yi rfl rfl rfl ?_))
 refine ⟨by kernel_rfl, ?_⟩
 skip
 exact FW.ret ⟨.inl rfl, zj rfl rfl rfl rfl⟩
set_option maxHeartbeats 4000000 in
theorem zby (xs : List EdV) (tg : EdV) (cf : Nat) (caps : List FV) (at_ : Nat) (hx : xs.length ≤ 4000000) (hat : at_ ≤ xs.length) (hs : ∀ j, j < xs.length → (zf5 (nth xs j) tg < 0 ↔ j < at_)) (hp : ∀ e : EdV, yc Try.prog cf ([.agg e.fv, .agg tg.fv] ++ caps) .fr (.int .i64 (zf5 e tg))) :
  yc Try.prog 41 [.list 3 (xs.map EdV.fv), .agg tg.fv, .fn cf caps] .fr (.tup [.int .i64 at_, .bool (decide (at_ < xs.length ∧ zf5 (nth xs at_) tg = 0))]) := by
 obtain ⟨t1, t2, t3⟩ := tg
 obtain ⟨n, hn⟩ : ∃ n, xs.length = n := ⟨_, rfl⟩
 rw [hn] at hx hat hs ⊢
 refine yc.of_body (c := (xB Try.prog zE zq 49)) ⟨Try.func41, rfl, Try.ntmps41, by kernel_rfl⟩ (by simp [FV.hand]) (by exact Nat.le_of_ble_eq_true rfl) rfl ?_
 change FW _ _ _ ⟨[(0, .list 3 (xs.map EdV.fv)), (1, .agg [.int .i64 t1, .int .i64 t2, .int .i64 t3]), (2, .fn cf caps)], []⟩
 (repeat (first | refine FW.seq ?_ | refine FW.region ?_ | refine FW.block ?_ | refine zd.nil ?_ | refine Un rfl rfl rfl rfl rfl rfl rfl ?_ | refine za rfl rfl rfl ?_ | refine zb rfl rfl rfl ?_ | refine zg rfl rfl (by exact List.length_map _) rfl rfl ?_))
 rw [hn]
 refine FW.loop (fun q : Nat × Nat => ⟨[(0, .list 3 (xs.map EdV.fv)), (2, .fn cf caps), (4, .ptr 100 0 0 0), (8, .int .i64 n), (9, .int .i64 q.1), (10, .int .i64 q.2)], [(100, ⟨0, .own, 28, 3, [[.int .i64 t1, .int .i64 t2, .int .i64 t3]]⟩)]⟩) (fun q => q.1 ≤ at_ ∧ at_ ≤ q.2 ∧ q.2 ≤ n) (fun q => q.2 - q.1) (0, n) ⟨Nat.zero_le _, hat, Nat.le_refl _⟩ ?_ ?_
 ·show FLe _ ⟨[(0, .list 3 (xs.map EdV.fv)), (2, .fn cf caps), (4, .ptr 100 0 0 0), (8, .int .i64 n), (9, .int .i64 0), (10, .int .i64 n)], [(100, ⟨0, .own, 28, 3, [[.int .i64 t1, .int .i64 t2, .int .i64 t3]]⟩)]⟩
  exact (FLe.cv [⟨100, some 4, 0 + 1, ⟨0, .own, 28, 3, [[.int .i64 t1, .int .i64 t2, .int .i64 t3]]⟩⟩] (by repeat (first | exact .nil | refine .old rfl (by decide) rfl ?_)) (by repeat (first | exact .nil | refine .cons (.plain rfl rfl rfl) ?_ | refine .cons (.ptr rfl (.head _) rfl) ?_)))
 rintro ⟨i, j⟩ ⟨h1, h2, h3⟩
 dsimp only at h1 h2 h3 ⊢
 (repeat (first | refine FW.seq ?_ | refine FW.region ?_ | refine zd.nil ?_ | refine zb rfl rfl rfl ?_ | refine zN rfl rfl rfl rfl ?_))
 refine FW.cond rfl (fun hc => ?_) (fun hc => ?_)
 ·have hij : i < j := by simpa using hc
  clear hc
  obtain ⟨h, hh⟩ : ∃ h : Nat, (i + j) / 2 = h := ⟨_, rfl⟩
  have hf : ((i : Int) + j).fdiv (2 ^ min (Int.toNat 1) IntKind.u64.bits) = (h : Int) := by
   rw [show (2 : Int) ^ min (Int.toNat 1) IntKind.u64.bits = 2 from rfl, Int.fdiv_eq_ediv_of_nonneg _ (by decide)]
   omega
  have hhn : h < xs.length := by omega
  have hsh := hs h (by omega)
  have hph := hp (nth xs h)
  (repeat (first | refine FW.seq ?_ | refine FW.region ?_ | refine FW.block ?_ | refine FW.skip ?_ | refine zd.nil ?_ | refine za rfl rfl rfl ?_ | refine zb rfl rfl rfl ?_ | refine zw rfl rfl (by omega) rfl rfl ?_ | refine zbh rfl rfl rfl (by omega) rfl rfl ?_ | refine zeh rfl rfl rfl (by omega) rfl rfl ?_ | refine zaE rfl rfl (by omega) rfl rfl ?_))
  rw [hf]
  (repeat (first | refine FW.draw ?_ | refine zD rfl rfl rfl ?_ | refine zJ rfl rfl rfl rfl rfl rfl (by first | (simp; omega) | (simp; done)) rfl rfl ?_ | refine Ys rfl rfl rfl (by decide) (by first | (simp; omega) | (simp; done)) (by first | exact zc (by omega) | rfl) rfl rfl rfl ?_ | refine zco rfl rfl rfl (by decide) rfl rfl (by first | (simp; omega) | (simp; done)) (by first | exact zc (by omega) | rfl) rfl rfl rfl ?_))
  refine zef rfl hph (by repeat (first | exact zx.nil | refine zx.cons (by exact yI.plain rfl rfl) ?_)) rfl rfl ?_
  (repeat (first | refine zL.nil ?_ | refine zax rfl rfl rfl rfl ?_))
  refine ⟨by kernel_rfl, ?_⟩
  refine FW.cond rfl (fun hc => ?_) (fun hc => ?_)
  ·have hc' : zf5 (nth xs h) (t1, t2, t3) < 0 := by simpa using hc
   have := hsh.1 hc'
   (repeat (first | refine FW.region ?_ | refine zd.nil ?_ | refine za rfl rfl rfl ?_ | refine zb rfl rfl rfl ?_ | refine zw rfl rfl (by omega) rfl rfl ?_))
   refine ⟨(h + 1, j), ⟨by dsimp only; omega, h2, h3⟩, by dsimp only; omega, ?_⟩
   exact (FLe.cv [⟨100, some 100, 0, ⟨0, .own, 28, 3, [[.int .i64 t1, .int .i64 t2, .int .i64 t3]]⟩⟩] (by repeat (first | exact .nil | refine .old rfl (by decide) rfl ?_)) (by repeat (first | exact .nil | refine .cons (.plain rfl rfl rfl) ?_ | refine .cons (.ptr rfl (.head _) rfl) ?_)))
  ·have hc' : ¬ zf5 (nth xs h) (t1, t2, t3) < 0 := by simpa using hc
   have : ¬ h < at_ := fun e => hc' (hsh.2 e)
   (repeat (first | refine FW.region ?_ | refine zd.nil ?_ | refine za rfl rfl rfl ?_ | refine zb rfl rfl rfl ?_))
   refine ⟨(i, h), ⟨h1, by dsimp only; omega, by dsimp only; omega⟩, by dsimp only; omega, ?_⟩
   exact (FLe.cv [⟨100, some 100, 0, ⟨0, .own, 28, 3, [[.int .i64 t1, .int .i64 t2, .int .i64 t3]]⟩⟩] (by repeat (first | exact .nil | refine .old rfl (by decide) rfl ?_)) (by repeat (first | exact .nil | refine .cons (.plain rfl rfl rfl) ?_ | refine .cons (.ptr rfl (.head _) rfl) ?_)))
 ·have hij : i = j := by simp at hc; omega
  obtain rfl : i = at_ := by omega
  (repeat (first | refine FW.seq ?_ | refine FW.exit ?_ | refine FW.draw ?_ | refine zD rfl rfl rfl ?_ | refine zax rfl rfl rfl rfl ?_))
  refine yY (fun h4 => ?_) (fun h4 => ?_)
  ·have h4' : i < xs.length := by simp at h4; omega
   have h4n : i < n := by omega
   have hph := hp (nth xs i)
   (repeat (first | refine zD rfl rfl ⟨_, _, rfl, rfl, rfl⟩ ?_ | refine zJ rfl rfl rfl rfl rfl rfl (by first | (simp; omega) | (simp; done)) rfl ⟨_, _, rfl, rfl, rfl⟩ ?_ | refine Ys rfl rfl rfl (by decide) (by first | (simp; omega) | (simp; done)) (by first | exact zc (by omega) | rfl) rfl rfl ⟨_, _, rfl, rfl, rfl⟩ ?_ | refine zco rfl rfl rfl (by decide) rfl rfl (by first | (simp; omega) | (simp; done)) (by first | exact zc (by omega) | rfl) rfl rfl ⟨_, _, rfl, rfl, rfl⟩ ?_))
   refine zef rfl hph (by repeat (first | exact zx.nil | refine zx.cons (by exact yI.plain rfl rfl) ?_)) rfl ⟨_, _, rfl, rfl, rfl⟩ ?_
   (repeat (first | refine zL.nil ?_ | refine yi rfl rfl rfl ?_ | refine yC rfl rfl rfl rfl ?_ | refine Xd rfl rfl rfl ⟨_, _, rfl, rfl, rfl⟩ ?_))
   refine ⟨by kernel_rfl, ?_⟩
   skip
   refine FW.ret ⟨.inl rfl, .flat (.cons (.tmp 6 rfl rfl) (.cons (.tmp 7 rfl rfl) .nil)) ?_ rfl⟩
   simp [zbe, h4n]
   exact ⟨rfl, rfl⟩
  ·have h4n : ¬ i < n := by simp at h4; omega
   (repeat (first | refine zL.nil ?_ | refine yi rfl rfl rfl ?_ | refine ya rfl rfl rfl rfl ?_ | refine yZ rfl rfl ⟨_, _, rfl, rfl, rfl⟩ ?_))
   refine ⟨by kernel_rfl, ?_⟩
   skip
   refine FW.ret ⟨.inl rfl, .flat (.cons (.tmp 6 rfl rfl) (.cons (.tmp 7 rfl rfl) .nil)) ?_ rfl⟩
   simp [zbe, h4n]
   exact ⟨rfl, rfl⟩
theorem zf8 (l : List OpV) (s : Bool) (c : List Int) (k : Nat) : WD l s c (k + 1) = WD l s c k ++ [((nth c k).toNat, (nth c ((k + 1) % c.length)).toNat, hd0 (xK l s (nth c k).toNat (nth c ((k + 1) % c.length)).toNat))] := by
 unfold WD
 rw [List.range_succ, List.map_append]; rfl
theorem zhw (l : List OpV) (s : Bool) (c : List Int) (k : Nat) : (WD l s c k).length = k := by simp [WD]
set_option maxHeartbeats 4000000 in
theorem zf9 (l : List OpV) (s : Bool) (hl : l.length ≤ 1000) (hc : yH l s ≠ []) (hcl : (yH l s).length ≤ 1000) : yc Try.prog 17 [.list 1 ((yH l s).map zp), .list 3 ((yj l s).map EdV.fv)] (.ow 28 3) (.list 3 ((WD l s (yH l s) (yH l s).length).map EdV.fv)) := by
 have hok := fun i hi => zf7 hc (i := i) hi
 have hel := zc6 l s (i := l.length) (Nat.le_refl _) hl
 have hpos : ∀ i k, i < l.length → k < l.length → xK l s i k ≠ [] → _ := fun i k hi hk hw => zhU (s := s) hi hk hw
 obtain ⟨E, hE⟩ : ∃ E, yj l s = E := ⟨_, rfl⟩
 have hEl : E.length ≤ 4000000 := by rw [← hE]; exact hel
 rw [hE] at hpos ⊢
 obtain ⟨c, hcc⟩ : ∃ c, yH l s = c := ⟨_, rfl⟩
 rw [hcc] at hok hcl ⊢
 obtain ⟨m, hm⟩ : ∃ m, c.length = m := ⟨_, rfl⟩
 have hsu := zf8 l s c
 have hlen := zhw l s c
 rw [hm] at hok hcl hsu ⊢
 clear hc hcc hel
 refine yc.of_body (c := (xB Try.prog zE zq 43)) ⟨Try.func17, rfl, Try.ntmps17, by kernel_rfl⟩ (by simp [FV.hand]) (by exact Nat.le_of_ble_eq_true rfl) rfl ?_
 change FW _ _ _ ⟨[(0, .list 1 (c.map zp)), (1, .list 3 (E.map EdV.fv))], []⟩
 (repeat (first | refine FW.seq ?_ | refine FW.region ?_ | refine FW.block ?_ | refine zd.nil ?_ | refine za rfl rfl rfl ?_ | refine zb rfl rfl rfl ?_ | refine zg rfl rfl (by exact List.length_map _) rfl rfl ?_))
 rw [hm]
 refine FW.loop (fun k : Nat => ⟨[(0, .list 1 (c.map zp)), (1, .list 3 (E.map EdV.fv)), (5, .own 100 0 0 k), (11, .list 1 (c.map zp)), (12, .int .i64 m), (13, .int .i64 k)], [(100, ⟨0, .own, 28, 3, (WD l s c k).map EdV.fv⟩)]⟩) (fun k => k ≤ m) (fun k => m - k) 0 (Nat.zero_le _)
  (FLe.cv [⟨100, none, 0, ⟨0, .own, 28, 3, []⟩⟩] (by repeat (first | exact .nil | refine .new ?_)) (by repeat (first | exact .nil | refine .cons (.plain rfl rfl rfl) ?_ | refine .cons (.nil rfl (.head _) rfl) ?_))) ?_
 intro k hk
 have hkl := hlen k
 have hks := hsu k
 have hlast : k = m → WD l s c m = WD l s c k := fun e => by rw [e]
 generalize WD l s c k = C at hkl hks hlast
 subst hkl
 (repeat (first | refine FW.seq ?_ | refine FW.region ?_ | refine zd.nil ?_ | refine zN rfl rfl rfl rfl ?_))
 refine FW.cond rfl (fun h => ?_) (fun h => ?_)
 ·have hlt : C.length < m := by simpa using h
  clear h hlast
  obtain ⟨a, b, ha, hb, hal, hbl, hw⟩ := hok C.length hlt
  obtain ⟨p1, p2, p3⟩ := hpos a b hal hbl hw
  rw [ha, hb, Int.toNat_natCast, Int.toNat_natCast] at hks
  have hbs := zby E (a, b, 0) 42 [] (zhT l s a b) hEl (by omega) p3 (fun e => by have := zbH e (a, b, 0); simpa using this)
  generalize zhT l s a b = q at p1 p2 hbs
  obtain ⟨r, hr⟩ : ∃ r, (C.length + 1) % m = r := ⟨_, rfl⟩
  have hrm : r < c.length := by rw [← hr, hm]; exact Nat.mod_lt _ (by omega)
  have hf : ((C.length : Int) + 1).tmod m = (r : Int) := by
   rw [← hr]
   rw [show (C.length : Int) + 1 = ((C.length + 1 : Nat) : Int) by omega]
   rfl
  rw [hr] at hb
  (repeat (first | refine FW.seq ?_ | refine FW.region ?_ | refine FW.block ?_ | refine FW.skip ?_ | refine zd.nil ?_ | refine za rfl rfl rfl ?_ | refine zb rfl rfl rfl ?_ | refine zg rfl rfl (by first | exact List.length_map _ | rfl | (simp; omega)) rfl rfl ?_ | refine zh rfl rfl rfl rfl rfl rfl (by simp; omega) rfl rfl ?_ | refine zA rfl rfl rfl (by simp; omega) (by first | exact zc (by omega) | rfl) rfl rfl rfl rfl ?_ | refine zw rfl rfl (by omega) rfl rfl ?_))
  rw [hm]
  rw [ha]
  skip
  refine ziS rfl rfl (by omega) rfl rfl ?_
  rw [hf]
  (repeat (first | refine FW.seq ?_ | refine FW.region ?_ | refine zd.nil ?_ | refine za rfl rfl rfl ?_ | refine zb rfl rfl rfl ?_ | refine zh rfl rfl rfl rfl rfl rfl (by simp; omega) rfl rfl ?_ | refine zA rfl rfl rfl (by simp; omega) (by first | exact zc (by omega) | rfl) rfl rfl rfl rfl ?_ | refine yA rfl rfl rfl rfl ?_ | refine yO.nil ?_ | refine yO.one rfl rfl rfl rfl rfl ?_))
  rw [hb]
  skip
  refine zX hbs (by repeat (first | exact zx.nil | refine zx.cons (by exact yI.plain rfl rfl) ?_)) rfl rfl ?_
  (repeat (first | refine FW.region ?_ | refine zd.nil ?_ | refine za rfl rfl rfl ?_ | refine zb rfl rfl rfl ?_ | refine zh rfl rfl rfl rfl rfl rfl (by first | (simp; omega) | (simp; done)) rfl rfl ?_ | refine yG rfl rfl rfl (by decide) (by first | (simp; omega) | (simp; done)) (by first | exact zc (by omega) | rfl) rfl rfl rfl ?_ | refine zw rfl rfl (by omega) rfl rfl ?_ | refine yv rfl rfl rfl rfl rfl ?_ | refine xn rfl rfl rfl rfl rfl rfl rfl rfl rfl rfl ?_ | refine xa rfl rfl (by first | exact (List.length_map _).symm | rfl | (simp; done) | (simp; omega)) rfl rfl rfl (by decide) (by exact xi.own rfl rfl (by decide) (by first | exact List.length_map _ | exact (List.length_map _).symm | exact List.length_replicate | rfl | (simp; done) | omega | (simp; omega))) (by first | (simp; omega) | (simp; done)) (by first | (simp; omega) | (simp; done)) rfl rfl rfl ?_))
  rw [p2]
  refine ⟨C.length + 1, by omega, by omega, ?_⟩
  rw [hks, List.map_append]
  exact (FLe.cv [⟨100, some 40, 0 + 1, ⟨0, .own, 28, 3, C.map EdV.fv ++ [(a, b, hd0 (xK l s a b))].map EdV.fv⟩⟩] (by repeat (first | exact .nil | refine .old rfl (by decide) (by first | rfl | (simp; done)) ?_)) (by repeat (first | exact .nil | refine .cons (.plain rfl rfl (by first | rfl | (simp; done))) ?_ | refine .cons (.own rfl (.head _) rfl (by first | rfl | (simp; done))) ?_)))
 ·obtain rfl : C.length = m := by simp at h; omega
  rw [hlast rfl]
  (repeat (first | refine FW.seq ?_ | refine FW.region ?_ | refine FW.exit ?_ | refine zd.nil ?_ | refine za rfl rfl rfl ?_ | refine zb rfl rfl rfl ?_))
  exact FW.ret ⟨.inl rfl, Ul rfl rfl rfl (by simp) (by decide) rfl (EdV.flatsM _)⟩
end Go.Proofs.Ytokmanfcndelfaa
