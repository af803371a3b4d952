/-
  The dependencies of package serial, at plain values.
-/
import Derived.Test.YtokmanfcndelfaaZG
import Derived.Test.YtokmanfcndelfaaZSerCyc
namespace Go.Proofs.Ytokmanfcndelfaa
set_option linter.unusedVariables false
open Go.RowKit

def EdV.fv (e : EdV) : List FV := [.int .i64 e.1, .int .i64 e.2.1, .int .i64 e.2.2]
theorem EdV.flatsM (l : List EdV) : ∀ e ∈ l.map EdV.fv, FV.flat.flats e = true := fun e he => by
 obtain ⟨x, _, rfl⟩ := List.mem_map.1 he; rfl
set_option maxHeartbeats 1000000 in
theorem Wy (o : OpV) : yc Try.prog 14 [.agg o.fv] .fr (.bool (zV o)) := by
 refine yc.of_body (c := (xB Try.prog zE zq 15)) ⟨Try.func14, rfl, Try.ntmps14, by kernel_rfl⟩ (by simp [FV.hand]) (by exact Nat.le_of_ble_eq_true rfl) rfl ?_
 change FW _ _ _ ⟨[(0, .agg o.fv)], []⟩
 (repeat (first | refine FW.seq ?_ | refine FW.region ?_ | refine zd.nil ?_ | refine Un rfl rfl rfl rfl rfl rfl rfl ?_ | refine za rfl rfl rfl ?_ | refine zi rfl rfl rfl rfl rfl rfl (by decide) rfl rfl ?_ | refine zm rfl rfl rfl rfl rfl (by simp; done) rfl rfl rfl rfl rfl ?_ | refine zb rfl rfl rfl ?_))
 refine zO (fun h1 => ?_) (fun h1 => ?_)
 ·(repeat (first | refine zi rfl rfl rfl rfl rfl rfl (by decide) rfl ⟨_, _, rfl, rfl, rfl⟩ ?_ | refine zm rfl rfl rfl rfl rfl (by simp; done) rfl rfl rfl rfl ⟨_, _, rfl, rfl, rfl⟩ ?_ | refine zU rfl rfl rfl ⟨_, _, rfl, rfl, rfl⟩ ?_ | refine zb rfl rfl ⟨_, _, rfl, rfl, rfl⟩ ?_))
  refine zO (fun h2 => ?_) (fun h2 => ?_)
  ·(repeat (first | refine zd.nil ?_ | refine za rfl rfl rfl ?_ | refine zu rfl rfl rfl rfl ?_ | refine zu rfl rfl rfl ⟨_, _, rfl, rfl, rfl⟩ ?_ | refine zK rfl rfl ⟨_, _, rfl, rfl, rfl⟩ ?_))
   refine FW.ret ⟨.inl rfl, zj rfl rfl ?_ rfl⟩
   simp at h1 h2
   simp [zV, h1, h2]; rfl
  ·(repeat (first | refine zd.nil ?_ | refine za rfl rfl rfl ?_ | refine zu rfl rfl rfl rfl ?_ | refine zi rfl rfl rfl rfl rfl rfl (by decide) rfl ⟨_, _, rfl, rfl, rfl⟩ ?_ | refine zm rfl rfl rfl rfl rfl (by simp; done) rfl rfl rfl rfl ⟨_, _, rfl, rfl, rfl⟩ ?_ | refine zU rfl rfl rfl ⟨_, _, rfl, rfl, rfl⟩ ?_ | refine zn rfl rfl rfl ⟨_, _, rfl, rfl, rfl⟩ ?_))
   refine FW.ret ⟨.inl rfl, zj rfl rfl ?_ rfl⟩
   simp at h1 h2
   simp [zV, h1, h2]; rfl
 ·(repeat (first | refine zd.nil ?_ | refine za rfl rfl rfl ?_ | refine zn rfl rfl rfl rfl ?_ | refine zK rfl rfl ⟨_, _, rfl, rfl, rfl⟩ ?_))
  refine FW.ret ⟨.inl rfl, zj rfl rfl ?_ rfl⟩
  simp [zV, h1]; rfl
abbrev zf4 (l : List OpV) : FV := .eptr 1 [[.list 8 (l.map OpV.fv)]] 0 0
set_option maxHeartbeats 2000000 in
theorem Uw (l : List OpV) (i k : Nat) (kd : Int) (hi : i < l.length) (hk : k < l.length) : yc Try.prog 31 ([.int .i64 i, .int .i64 k, .int .i64 kd] ++ [zf4 l]) .fr (.bool (yN (nth l i) (nth l k) kd)) := by
 obtain ⟨a, ha⟩ : ∃ a, nth l i = a := ⟨_, rfl⟩
 obtain ⟨b, hb⟩ : ∃ b, nth l k = b := ⟨_, rfl⟩
 rw [ha, hb]
 refine yc.of_body (c := (xB Try.prog zE zq 41)) ⟨Try.func31, rfl, Try.ntmps31, by kernel_rfl⟩ (by simp [FV.hand]) (by exact Nat.le_of_ble_eq_true rfl) rfl ?_
 change FW _ _ _ ⟨[(0, .int .i64 i), (1, .int .i64 k), (2, .int .i64 kd), (3, .eptr 1 [[.list 8 (l.map OpV.fv)]] 0 0)], []⟩
 (repeat (first | refine FW.seq ?_ | refine FW.region ?_ | refine zd.nil ?_ | refine za rfl rfl rfl ?_ | refine FW.draw ?_ | refine zL.nil ?_ | refine zR rfl rfl rfl (by first | (simp; omega) | (simp; done)) (by first | exact zc (by omega) | rfl) rfl rfl rfl rfl ?_ | refine Ys rfl rfl rfl (by decide) (by first | (simp; omega) | (simp; done)) (by first | exact zc (by omega) | rfl) rfl rfl rfl ?_ | refine zD rfl rfl rfl ?_ | refine zJ rfl rfl rfl rfl rfl rfl (by first | (simp; omega) | (simp; done)) rfl rfl ?_ | refine zhW rfl rfl rfl rfl rfl rfl rfl ?_ | refine zfe rfl rfl rfl rfl rfl rfl rfl rfl rfl ?_))
 refine ⟨by kernel_rfl, ?_⟩
 rw [ha, hb]
 (repeat (first | refine FW.seq ?_ | refine FW.region ?_ | refine zm rfl rfl rfl rfl rfl (by simp; done) rfl rfl rfl rfl rfl ?_ | refine zb rfl rfl rfl ?_ | refine zi rfl rfl rfl rfl rfl rfl (by decide) rfl rfl ?_ | refine zU rfl rfl rfl rfl ?_))
 refine zO (fun h1 => ?_) (fun h1 => ?_)
 ·(repeat (first | refine zb rfl rfl rfl ?_ | refine zu rfl rfl rfl rfl ?_ | refine zi rfl rfl rfl rfl rfl rfl (by decide) rfl ⟨_, _, rfl, rfl, rfl⟩ ?_ | refine zm rfl rfl rfl rfl rfl (by simp; done) rfl rfl rfl rfl ⟨_, _, rfl, rfl, rfl⟩ ?_ | refine zU rfl rfl rfl ⟨_, _, rfl, rfl, rfl⟩ ?_))
  refine zO (fun h2 => ?_) (fun h2 => ?_)
  ·(repeat (first | refine zb rfl rfl rfl ?_ | refine zu rfl rfl rfl rfl ?_ | refine zi rfl rfl rfl rfl rfl rfl (by decide) rfl ⟨_, _, rfl, rfl, rfl⟩ ?_ | refine zm rfl rfl rfl rfl rfl (by simp; done) rfl rfl rfl rfl ⟨_, _, rfl, rfl, rfl⟩ ?_ | refine zU rfl rfl rfl ⟨_, _, rfl, rfl, rfl⟩ ?_))
   refine zO (fun h3 => ?_) (fun h3 => ?_)
   ·(repeat (first | refine zd.nil ?_ | refine za rfl rfl rfl ?_ | refine zu rfl rfl rfl rfl ?_ | refine zi rfl rfl rfl rfl rfl rfl (by decide) rfl ⟨_, _, rfl, rfl, rfl⟩ ?_ | refine zm rfl rfl rfl rfl rfl (by simp; done) rfl rfl rfl rfl ⟨_, _, rfl, rfl, rfl⟩ ?_ | refine zU rfl rfl rfl ⟨_, _, rfl, rfl, rfl⟩ ?_ | refine zb rfl rfl ⟨_, _, rfl, rfl, rfl⟩ ?_))
    refine FW.ret ⟨.inl rfl, zj rfl rfl ?_ rfl⟩
    simp at h1 h2 h3
    simp [yN, h1, h2, h3]; rfl
   ·(repeat (first | refine zd.nil ?_ | refine za rfl rfl rfl ?_ | refine zn rfl rfl rfl rfl ?_ | refine zK rfl rfl ⟨_, _, rfl, rfl, rfl⟩ ?_))
    refine FW.ret ⟨.inl rfl, zj rfl rfl ?_ rfl⟩
    simp at h1 h2 h3
    simp [yN, h1, h2, h3]; rfl
  ·(repeat (first | refine zd.nil ?_ | refine za rfl rfl rfl ?_ | refine zb rfl rfl rfl ?_ | refine zn rfl rfl rfl rfl ?_ | refine zK rfl rfl ⟨_, _, rfl, rfl, rfl⟩ ?_))
   refine FW.ret ⟨.inl rfl, zj rfl rfl ?_ rfl⟩
   simp at h1 h2
   simp [yN, h1, h2]; rfl
 ·(repeat (first | refine zd.nil ?_ | refine za rfl rfl rfl ?_ | refine zb rfl rfl rfl ?_ | refine zn rfl rfl rfl rfl ?_ | refine zK rfl rfl ⟨_, _, rfl, rfl, rfl⟩ ?_))
  refine FW.ret ⟨.inl rfl, zj rfl rfl ?_ rfl⟩
  simp at h1
  simp [yN, h1]; rfl
abbrev zi2 (l : List OpV) : FV := .eptr 1 [[.fn 31 [zf4 l]]] 0 0
set_option maxHeartbeats 1000000 in
theorem zdu (l : List OpV) (i k : Nat) (hi : i < l.length) (hk : k < l.length) : yc Try.prog 32 ([.int .i64 i, .int .i64 k] ++ [zi2 l]) .fr (.bool (yN (nth l i) (nth l k) 0)) := by
 refine yc.of_body (c := (xB Try.prog zE zq 10)) ⟨Try.func32, rfl, Try.ntmps32, by kernel_rfl⟩ (by simp [FV.hand]) (by exact Nat.le_of_ble_eq_true rfl) rfl ?_
 change FW _ _ _ ⟨[(0, .int .i64 i), (1, .int .i64 k), (2, .eptr 1 [[.fn 31 [zf4 l]]] 0 0)], []⟩
 (repeat (first | refine FW.seq ?_ | refine FW.region ?_ | refine zd.nil ?_ | refine za rfl rfl rfl ?_ | refine zA rfl rfl rfl (by simp; done) rfl rfl rfl rfl rfl ?_ | refine zb rfl rfl rfl ?_))
 refine XS rfl (Uw l i k 0 hi hk) (by repeat (first | exact zx.nil | refine zx.cons (by exact yI.plain rfl rfl) ?_)) rfl rfl ?_
 (repeat (first | refine zd.nil ?_ | refine za rfl rfl rfl ?_))
 exact FW.ret ⟨.inl rfl, zj rfl rfl rfl rfl⟩
set_option maxHeartbeats 1000000 in
theorem zdv (l : List OpV) (i k : Nat) (hi : i < l.length) (hk : k < l.length) : yc Try.prog 33 ([.int .i64 i, .int .i64 k] ++ [zi2 l]) .fr (.bool (yN (nth l i) (nth l k) 2)) := by
 refine yc.of_body (c := (xB Try.prog zE zq 10)) ⟨Try.func33, rfl, Try.ntmps33, by kernel_rfl⟩ (by simp [FV.hand]) (by exact Nat.le_of_ble_eq_true rfl) rfl ?_
 change FW _ _ _ ⟨[(0, .int .i64 i), (1, .int .i64 k), (2, .eptr 1 [[.fn 31 [zf4 l]]] 0 0)], []⟩
 (repeat (first | refine FW.seq ?_ | refine FW.region ?_ | refine zd.nil ?_ | refine za rfl rfl rfl ?_ | refine zA rfl rfl rfl (by simp; done) rfl rfl rfl rfl rfl ?_ | refine zb rfl rfl rfl ?_))
 refine XS rfl (Uw l i k 2 hi hk) (by repeat (first | exact zx.nil | refine zx.cons (by exact yI.plain rfl rfl) ?_)) rfl rfl ?_
 (repeat (first | refine zd.nil ?_ | refine za rfl rfl rfl ?_))
 exact FW.ret ⟨.inl rfl, zj rfl rfl rfl rfl⟩
set_option maxHeartbeats 4000000 in
theorem zdw (l : List OpV) (i k : Nat) (hi : i < l.length) (hk : k < l.length) : yc Try.prog 34 ([.int .i64 i, .int .i64 k] ++ [zf4 l]) .fr (.bool (ZX i k (nth l i) (nth l k))) := by
 obtain ⟨a, ha⟩ : ∃ a, nth l i = a := ⟨_, rfl⟩
 obtain ⟨b, hb⟩ : ∃ b, nth l k = b := ⟨_, rfl⟩
 rw [ha, hb]
 refine yc.of_body (c := (xB Try.prog zE zq 43)) ⟨Try.func34, rfl, Try.ntmps34, by kernel_rfl⟩ (by simp [FV.hand]) (by exact Nat.le_of_ble_eq_true rfl) rfl ?_
 change FW _ _ _ ⟨[(0, .int .i64 i), (1, .int .i64 k), (2, .eptr 1 [[.list 8 (l.map OpV.fv)]] 0 0)], []⟩
 (repeat (first | refine FW.seq ?_ | refine FW.region ?_ | refine zd.nil ?_ | refine za rfl rfl rfl ?_ | refine FW.draw ?_ | refine zD rfl rfl rfl ?_ | refine zay rfl rfl rfl rfl ?_))
 refine yY (fun h1 => ?_) (fun h1 => ?_)
 ·(repeat (first | refine zD rfl rfl rfl ?_ | refine yC rfl rfl rfl rfl ?_ | refine zR rfl rfl rfl (by first | (simp; omega) | (simp; done)) (by first | exact zc (by omega) | rfl) rfl rfl rfl ⟨_, _, rfl, rfl, rfl⟩ ?_ | refine zD rfl rfl ⟨_, _, rfl, rfl, rfl⟩ ?_ | refine zJ rfl rfl rfl rfl rfl rfl (by first | (simp; omega) | (simp; done)) rfl ⟨_, _, rfl, rfl, rfl⟩ ?_ | refine zW rfl rfl rfl rfl rfl rfl ⟨_, _, rfl, rfl, rfl⟩ ?_ | refine Xd rfl rfl rfl ⟨_, _, rfl, rfl, rfl⟩ ?_))
  rw [ha, hb]
  refine yY (fun h2 => ?_) (fun h2 => ?_)
  ·(repeat (first | refine zD rfl rfl rfl ?_ | refine yC rfl rfl rfl rfl ?_ | refine zR rfl rfl rfl (by first | (simp; omega) | (simp; done)) (by first | exact zc (by omega) | rfl) rfl rfl rfl ⟨_, _, rfl, rfl, rfl⟩ ?_ | refine zD rfl rfl ⟨_, _, rfl, rfl, rfl⟩ ?_ | refine zJ rfl rfl rfl rfl rfl rfl (by first | (simp; omega) | (simp; done)) rfl ⟨_, _, rfl, rfl, rfl⟩ ?_ | refine zW rfl rfl rfl rfl rfl rfl ⟨_, _, rfl, rfl, rfl⟩ ?_ | refine Xd rfl rfl rfl ⟨_, _, rfl, rfl, rfl⟩ ?_))
   rw [ha, hb]
   refine yY (fun h3 => ?_) (fun h3 => ?_)
   ·(repeat (first | refine zL.nil ?_ | refine yi rfl rfl rfl ?_ | refine yC rfl rfl rfl rfl ?_ | refine zR rfl rfl rfl (by first | (simp; omega) | (simp; done)) (by first | exact zc (by omega) | rfl) rfl rfl rfl ⟨_, _, rfl, rfl, rfl⟩ ?_ | refine zD rfl rfl ⟨_, _, rfl, rfl, rfl⟩ ?_ | refine zJ rfl rfl rfl rfl rfl rfl (by first | (simp; omega) | (simp; done)) rfl ⟨_, _, rfl, rfl, rfl⟩ ?_ | refine zW rfl rfl rfl rfl rfl rfl ⟨_, _, rfl, rfl, rfl⟩ ?_ | refine Xd rfl rfl rfl ⟨_, _, rfl, rfl, rfl⟩ ?_))
    rw [hb]
    refine ⟨by kernel_rfl, ?_⟩
    skip
    refine FW.ret ⟨.inl rfl, zj rfl rfl ?_ rfl⟩
    simp at h1 h2 h3
    have h1 : i ≠ k := by omega
    simp [ZX, h1, h2, h3]; rfl
   ·(repeat (first | refine zL.nil ?_ | refine yi rfl rfl rfl ?_ | refine ya rfl rfl rfl rfl ?_ | refine yZ rfl rfl ⟨_, _, rfl, rfl, rfl⟩ ?_))
    refine ⟨by kernel_rfl, ?_⟩
    skip
    refine FW.ret ⟨.inl rfl, zj rfl rfl ?_ rfl⟩
    simp at h1 h2 h3
    have h1 : i ≠ k := by omega
    simp [ZX, h1, h2, h3]; rfl
  ·(repeat (first | refine zL.nil ?_ | refine yi rfl rfl rfl ?_ | refine zD rfl rfl rfl ?_ | refine ya rfl rfl rfl rfl ?_ | refine yZ rfl rfl ⟨_, _, rfl, rfl, rfl⟩ ?_))
   refine ⟨by kernel_rfl, ?_⟩
   skip
   refine FW.ret ⟨.inl rfl, zj rfl rfl ?_ rfl⟩
   simp at h1 h2
   have h1 : i ≠ k := by omega
   simp [ZX, h1, h2]; rfl
 ·(repeat (first | refine zL.nil ?_ | refine yi rfl rfl rfl ?_ | refine zD rfl rfl rfl ?_ | refine ya rfl rfl rfl rfl ?_ | refine yZ rfl rfl ⟨_, _, rfl, rfl, rfl⟩ ?_))
  refine ⟨by kernel_rfl, ?_⟩
  skip
  refine FW.ret ⟨.inl rfl, zj rfl rfl ?_ rfl⟩
  simp at h1
  have h1 : i = k := by omega
  simp [ZX, h1]; rfl
set_option maxHeartbeats 1000000 in
theorem zdx (l : List OpV) (i k : Nat) (hi : i < l.length) (hk : k < l.length) : yc Try.prog 35 ([.int .i64 i, .int .i64 k] ++ [zf4 l]) .fr (.bool (bef l i k)) := by
 refine yc.of_body (c := (xB Try.prog zE zq 10)) ⟨Try.func35, rfl, Try.ntmps35, by kernel_rfl⟩ (by simp [FV.hand]) (by exact Nat.le_of_ble_eq_true rfl) rfl ?_
 change FW _ _ _ ⟨[(0, .int .i64 i), (1, .int .i64 k), (2, .eptr 1 [[.list 8 (l.map OpV.fv)]] 0 0)], []⟩
 (repeat (first | refine FW.seq ?_ | refine FW.region ?_ | refine zd.nil ?_ | refine za rfl rfl rfl ?_ | refine zA rfl rfl rfl (by simp; done) rfl rfl rfl rfl rfl ?_ | refine zb rfl rfl rfl ?_))
 refine zX (zb3 l i k hi hk) (by repeat (first | exact zx.nil | refine zx.cons (by exact yI.plain rfl rfl) ?_)) rfl rfl ?_
 (repeat (first | refine zd.nil ?_ | refine za rfl rfl rfl ?_))
 exact FW.ret ⟨.inl rfl, zj rfl rfl rfl rfl⟩
def zei (l : List OpV) (s : Bool) : List (List FV) :=
 [[.int .i64 2, .fn 32 [zi2 l]], [.int .i64 3, .fn 33 [zi2 l]], [.int .i64 4, .fn 34 [zf4 l]]] ++ if s = true then [[.int .i64 5, .fn 35 [zf4 l]]] else []
set_option maxHeartbeats 4000000 in
theorem zfB (l : List OpV) (s : Bool) : yc Try.prog 13 [.list 8 (l.map OpV.fv), .bool s] .sh (.list 2 (zei l s)) := by
 refine yc.of_body (c := (xB Try.prog zE zq 22)) ⟨Try.func13, rfl, Try.ntmps13, by kernel_rfl⟩ (by simp [FV.hand]) (by exact Nat.le_of_ble_eq_true rfl) rfl ?_
 change FW _ _ _ ⟨[(0, .list 8 (l.map OpV.fv)), (1, .bool s)], []⟩
 (repeat (first | refine FW.seq ?_ | refine FW.region ?_ | refine zd.nil ?_ | refine zgY rfl rfl rfl rfl rfl ?_ | refine za rfl rfl rfl ?_))
 refine zd.le ?_ (FLe.shareP 2 rfl rfl)
 (repeat (first | refine YT rfl rfl rfl rfl ?_))
 refine zcw rfl rfl rfl rfl rfl ?_
 (repeat (first | refine FW.seq ?_ | refine FW.region ?_ | refine zd.nil ?_ | refine zft rfl rfl rfl rfl rfl rfl (by simp; done) rfl ?_))
 refine zd.le ?_ (FLe.ofH 5 rfl rfl)
 refine zd.le ?_ (FLe.shareP 5 rfl rfl)
 (repeat (first | refine YT rfl rfl rfl rfl ?_ | refine yA rfl rfl rfl rfl ?_ | refine yO.nil ?_ | refine yO.one rfl rfl rfl rfl rfl ?_))
 refine Yt (es := [[.int .i64 2, .fn 32 [zi2 l]], [.int .i64 3, .fn 33 [zi2 l]], [.int .i64 4, .fn 34 [zf4 l]]]) rfl rfl rfl (by refine xJ.agg rfl rfl rfl ?_; refine xJ.agg rfl rfl rfl ?_; refine xJ.agg rfl rfl rfl ?_; exact xJ.nil) rfl rfl rfl rfl rfl rfl ?_
 (repeat (first | refine FW.seq ?_ | refine FW.region ?_ | refine zd.nil ?_ | refine za rfl rfl rfl ?_ | refine zb rfl rfl rfl ?_))
 refine FW.cond rfl (fun h => ?_) (fun h => ?_)
 ·subst h
  (repeat (first | refine FW.seq ?_ | refine FW.region ?_ | refine zd.nil ?_ | refine za rfl rfl rfl ?_ | refine YT rfl rfl rfl rfl ?_ | refine yA rfl rfl rfl rfl ?_ | refine xn rfl rfl rfl rfl rfl rfl rfl rfl rfl rfl ?_ | refine zb rfl rfl rfl ?_ | refine xa rfl rfl (by first | rfl | (simp; done)) rfl rfl rfl (by decide) (by exact xi.own rfl rfl (by decide) (by first | exact List.length_map _ | exact (List.length_map _).symm | exact List.length_replicate | rfl | (simp; done) | omega | (simp; omega))) (by simp; done) (by simp; done) rfl rfl rfl ?_ | refine yO.nil ?_ | refine yO.one rfl rfl rfl rfl rfl ?_))
  refine FW.le ?_ (FLe.share 4 rfl rfl rfl)
  exact FW.ret ⟨.inl rfl, .sh (.cons (.tmp 4 rfl rfl) .nil) rfl rfl⟩
 ·subst h
  (repeat (first | refine FW.seq ?_ | refine FW.region ?_ | refine FW.skip ?_ | refine zd.nil ?_ | refine za rfl rfl rfl ?_ | refine zb rfl rfl rfl ?_))
  refine FW.le ?_ (FLe.share 4 rfl rfl rfl)
  exact FW.ret ⟨.inl rfl, .sh (.cons (.tmp 4 rfl rfl) .nil) rfl rfl⟩
def zdt (l : List OpV) (i k : Nat) : Nat → Bool
 | 0 => yN (nth l i) (nth l k) 0
 | 1 => yN (nth l i) (nth l k) 2
 | 2 => ZX i k (nth l i) (nth l k)
 | _ => bef l i k
def WO (s : Bool) : Nat := if s = true then 4 else 3
theorem zfz (l : List OpV) (s : Bool) : (zei l s).length = WO s := by cases s <;> rfl
theorem zfA (l : List OpV) (s : Bool) {j : Nat} (hj : j < WO s) : ∃ f caps, nth (zei l s) j = [.int .i64 ((j : Int) + 2), .fn f caps] ∧ ∀ i k : Nat, i < l.length → k < l.length → yc Try.prog f ([.int .i64 i, .int .i64 k] ++ caps) .fr (.bool (zdt l i k j)) := by
 have h4 : j = 0 ∨ j = 1 ∨ j = 2 ∨ (j = 3 ∧ s = true) := by
  unfold WO at hj
  cases s with
  | true => rw [if_pos rfl] at hj; simp; omega
  | false => rw [if_neg (by decide)] at hj; simp; omega
 rcases h4 with rfl | rfl | rfl | ⟨rfl, rfl⟩
 ·exact ⟨_, _, by cases s <;> rfl, fun i k hi hk => zdu l i k hi hk⟩
 ·exact ⟨_, _, by cases s <;> rfl, fun i k hi hk => zdv l i k hi hk⟩
 ·exact ⟨_, _, by cases s <;> rfl, fun i k hi hk => zdw l i k hi hk⟩
 ·exact ⟨_, _, rfl, fun i k hi hk => zdx l i k hi hk⟩
def xY (l : List OpV) (i k : Nat) : Nat → List Int
 | 0 => []
 | j + 1 => xY l i k j ++ xU (zdt l i k j) ((j : Int) + 2)
theorem zfy (l : List OpV) (s : Bool) (i k : Nat) : xY l i k (WO s) = zih l s i k := by
 unfold zih
 cases s with
 | true => simp [WO, xY, zdt]
 | false => simp [WO, xY, zdt, xU]
theorem zaF (l : List OpV) (i k : Nat) : ∀ j, (xY l i k j).length ≤ j
 | 0 => Nat.zero_le _
 | j + 1 => by
  have := zaF l i k j
  have := Zc (zdt l i k j) ((j : Int) + 2)
  rw [xY, List.length_append]
  omega
end Go.Proofs.Ytokmanfcndelfaa
