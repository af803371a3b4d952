/-
  Some texts as one: FmOnce12, BentH.
-/
import Derived.Test.YtbeebjdnapkhhaaZH
/-
 simproofref21.Bent, at plain values.
-/
namespace Go.Proofs.Ytbeebjdnapkhhaa
set_option linter.unusedVariables false
open Go.RowKit

def VF (l : List OpV) (x i : Nat) : Nat := (x + i) % l.length
def XQ (l : List OpV) (how : Int) (x i : Nat) : Bool := (decide ((nth l (VF l x i)).k = 0) || decide ((nth l (VF l x i)).k = 4)) && ((nth l (VF l x i)).done && decide (how.tmod 4 ≠ 3))
def Xy (l : List OpV) (at_ how v : Int) : List OpV :=
 if l = [] then []
 else match (List.range l.length).find? (XQ l how (zL at_ l.length).toNat) with
  | some i => l.set (VF l (zL at_ l.length).toNat i) { nth l (VF l (zL at_ l.length).toNat i) with res := zL v 9 }
  | none => l.set (zL at_ l.length).toNat { nth l (zL at_ l.length).toNat with arg := zL v 6 }
theorem VT {n i : Nat} {f : Nat → Bool} (hi : i < n) (h : f i = true) (hn : ∀ j, j < i → f j = false) : (List.range n).find? f = some i := by
 rw [List.find?_eq_some_iff_getElem]
 exact ⟨h, i, by simpa using hi, by simp, fun j hj => by simp [hn j hj]⟩
theorem VS {n : Nat} {f : Nat → Bool} (hn : ∀ j, j < n → f j = false) : (List.range n).find? f = none := by
 rw [List.find?_eq_none]
 intro x hx
 simp [hn x (by simpa using hx)]

set_option maxHeartbeats 8000000 in
theorem VE (l : List OpV) (at_ how v : Int) (hl : l.length ≤ 1000000000) (ha : I64 at_) (hh : I64 how) (hv : I64 v) :
  yg Try.prog 34 [.list 8 (l.map OpV.fv), .int .i64 at_, .int .i64 how, .int .i64 v] (.ow 41 8) (.list 8 ((Xy l at_ how v).map OpV.fv)) := by
 refine yg.of_body (c := (Zy Try.prog zG zA 79)) ⟨Try.func34, rfl, Try.ntmps34, by kernel_rfl⟩ (by simp [FV.hand]) (by exact Nat.le_of_ble_eq_true rfl) rfl ?_
 change FW _ _ _ ⟨[(0, .list 8 (l.map OpV.fv)), (1, .int .i64 at_), (2, .int .i64 how), (3, .int .i64 v)], []⟩
 (repeat (first | refine FW.seq ?_ | refine FW.region ?_ | refine zc.nil ?_ | refine za rfl rfl rfl ?_ | refine zb rfl rfl rfl ?_ | refine zdX rfl rfl rfl rfl (by decide) (by exact XB.list rfl) (by simp; omega) (by simp; omega) rfl rfl rfl ?_ | refine yf rfl rfl rfl (by decide) rfl rfl ?_ | refine yU rfl rfl rfl rfl ?_))
 refine FW.cond rfl (fun h => ?_) (fun h => ?_)
 ·have h0 : l = [] := by simpa using h
  subst h0
  (repeat (first | refine FW.seq ?_ | refine FW.region ?_ | refine zc.nil ?_ | refine za rfl rfl rfl ?_ | refine zb rfl rfl rfl ?_))
  exact FW.ret ⟨.inl rfl, Zb rfl rfl rfl (by simp) (by decide) rfl (opT.flatsM _)⟩
 ·have h0 : l ≠ [] := by simpa using h
  have hpos : 0 < l.length := List.length_pos_iff.2 h0
  obtain ⟨x, hx⟩ : ∃ x : Nat, zL at_ l.length = x := ⟨(zL at_ l.length).toNat, (Int.toNat_of_nonneg (xE (by omega))).symm⟩
  have hxl : x < l.length := by have := YF (n := at_) (most := l.length) (by omega); omega
  obtain ⟨n, hn⟩ : ∃ n, l.length = n := ⟨_, rfl⟩
  have hA : yg (Try.prog) 25 [.int .i64 at_, .int .i64 n] .fr (.int .i64 (x : Int)) := by
   have := Yk at_ l.length ha (by omega) (by omega)
   rwa [hx, hn] at this
  have h9 := Yk v 9 hv (by decide) (by decide)
  have h6 := Yk v 6 hv (by decide) (by decide)
  (repeat (first | refine FW.seq ?_ | refine FW.region ?_ | refine FW.block ?_ | refine FW.skip ?_ | refine zc.nil ?_ | refine za rfl rfl rfl ?_))
  refine FW.loop (fun i : Nat => ⟨[(1, .int .i64 at_), (2, .int .i64 how), (3, .int .i64 v), (9, .own 100 0 0 n), (10, .int .i64 i)], [(100, ⟨0, .own, 41, 8, l.map OpV.fv⟩)]⟩) (fun i => i ≤ l.length ∧ ∀ j, j < i → XQ l how x j = false) (fun i => l.length - i) 0 (by simp)
   (FLe.conv [⟨100, some 15, 1, ⟨0, .own, 41, 8, l.map OpV.fv⟩⟩] (by simp) (by simp) rfl (by repeat (first | exact .nil | refine .low rfl ?_ | refine .same rfl ?_ | refine .bump (Nat.lt_succ_self _) ?_)) (by repeat (first | exact .nil | refine .old rfl (by decide) (by first | rfl | (simp; omega)) ?_)) (by repeat (first | exact .nil | refine .cons (.plain rfl rfl (by first | rfl | (simp; omega))) ?_ | refine .cons (.own rfl (.head _) rfl (by first | rfl | (simp; omega))) ?_))) ?_
  rintro i ⟨hi, hok⟩
  (repeat (first | refine FW.seq ?_ | refine FW.region ?_ | refine zc.nil ?_ | refine zb rfl rfl rfl ?_ | refine yf rfl rfl rfl (by decide) rfl rfl ?_ | refine zH rfl rfl rfl rfl ?_))
  refine FW.cond rfl (fun h => ?_) (fun h => ?_)
  ·have hlt : i < l.length := by simp at h; omega
   clear h
   have step : XQ l how x i = false → ∀ j, j < i + 1 → XQ l how x j = false := fun h0 j hj => by
    rcases Nat.lt_or_ge j i with h1 | h1
    ·exact hok j h1
    ·have : j = i := by omega
     subst this; exact h0
   (repeat (first | refine FW.seq ?_ | refine FW.region ?_ | refine FW.block ?_ | refine FW.skip ?_ | refine zb rfl rfl rfl ?_ | refine yf rfl rfl rfl (by decide) rfl rfl ?_))
   refine zJ hA (by repeat (first | exact zj.nil | refine zj.cons (by exact yu.plain rfl rfl) ?_)) rfl rfl ?_
   (repeat (first | refine zb rfl rfl rfl ?_ | refine yf rfl rfl rfl (by decide) rfl rfl ?_ | refine zu rfl rfl (by omega) rfl rfl ?_))
   refine zaZ rfl rfl (by omega) rfl rfl ?_
   have hk : (x + i) % n < l.length := by rw [hn]; exact Nat.mod_lt _ (by omega)
   rw [show ((x : Int) + (i : Int)) % (n : Int) = (((x + i) % n : Nat) : Int) by simp]
   obtain ⟨k, hkk⟩ : ∃ k, (x + i) % n = k := ⟨_, rfl⟩
   rw [hkk] at hk ⊢
   have found : XQ l how x i = true → Xy l at_ how v = l.set k { nth l k with res := zL v 9 } := fun h1 => by
    rw [Xy, if_neg h0, hx, Int.toNat_natCast, VT hlt h1 hok, ← hkk, ← hn]; rfl
   have hbo : XQ l how x i = ((decide ((nth l k).k = 0) || decide ((nth l k).k = 4)) && ((nth l k).done && decide (how.tmod 4 ≠ 3))) := by rw [← hkk, ← hn]; rfl
   have next : XQ l how x i = false → ∀ (t : List (Nat × FV)), SlC t [⟨100, some 100, 0, ⟨0, .own, 41, 8, l.map OpV.fv⟩⟩] [(1, .int .i64 at_), (2, .int .i64 how), (3, .int .i64 v), (9, .own 100 0 0 n), (10, .int .i64 (i + 1 : Nat))] → ∀ ob, zjx ob = true → look {} ob 100 = ⟨0, .own, 41, 8, l.map OpV.fv⟩ →
     ∃ x', (x' ≤ l.length ∧ ∀ j, j < x' → XQ l how x j = false) ∧ l.length - x' < l.length - i ∧ FLe ⟨t, ob⟩ ⟨[(1, .int .i64 at_), (2, .int .i64 how), (3, .int .i64 v), (9, .own 100 0 0 n), (10, .int .i64 x')], [(100, ⟨0, .own, 41, 8, l.map OpV.fv⟩)]⟩ := fun hf t ht ob hgl ho =>
    ⟨i + 1, ⟨by omega, step hf⟩, by omega, FLe.conv [⟨100, some 100, 0, ⟨0, .own, 41, 8, l.map OpV.fv⟩⟩] (by simp) (by simp) (XZ hgl _) (by repeat (first | exact zba.nil | refine zba.low rfl ?_ | refine zba.same rfl ?_)) (.old ho (by decide) rfl .nil) ht⟩
   (repeat (first | refine FW.seq ?_ | refine FW.region ?_ | refine zc.nil ?_ | refine za rfl rfl rfl ?_ | refine zb rfl rfl rfl ?_ | refine yU rfl rfl rfl rfl ?_ | refine zx rfl rfl rfl rfl rfl rfl (by decide) rfl (by first | omega | (simp; omega)) rfl rfl ?_ | refine zt rfl rfl rfl rfl rfl rfl (by decide) rfl rfl ?_ | refine zq rfl rfl rfl rfl rfl (by first | omega | (simp; omega)) (by first | exact zd (by omega) | rfl) rfl rfl rfl rfl ?_))
   refine xd (fun h1 => ?_) (fun h1 => ?_)
   ·(repeat (first | refine FW.seq ?_ | refine FW.region ?_ | refine zc.nil ?_ | refine za rfl rfl rfl ?_ | refine zb rfl rfl rfl ?_ | refine zM rfl rfl rfl rfl ?_ | refine zb rfl rfl ⟨_, _, rfl, rfl, rfl⟩ ?_ | refine zx rfl rfl rfl rfl rfl rfl (by decide) rfl (by first | omega | (simp; omega)) rfl ⟨_, _, rfl, rfl, rfl⟩ ?_ | refine zt rfl rfl rfl rfl rfl rfl (by decide) rfl ⟨_, _, rfl, rfl, rfl⟩ ?_ | refine zq rfl rfl rfl rfl rfl (by first | omega | (simp; omega)) (by first | exact zd (by omega) | rfl) rfl rfl rfl ⟨_, _, rfl, rfl, rfl⟩ ?_ | refine yA rfl rfl ⟨_, _, rfl, rfl, rfl⟩ ?_))
    refine xd (fun h2 => ?_) (fun h2 => ?_)
    ·(repeat (first | refine zb rfl rfl ⟨_, _, rfl, rfl, rfl⟩ ?_))
     refine zhr rfl rfl (by decide) rfl ⟨_, _, rfl, rfl, rfl⟩ ?_
     (repeat (first | refine zc.nil ?_ | refine zM rfl rfl rfl rfl ?_ | refine Zc rfl rfl rfl ⟨_, _, rfl, rfl, rfl⟩ ?_))
     refine FW.cond rfl (fun h3 => ?_) (fun h3 => ?_)
     ·(repeat (first | refine FW.seq ?_ | refine FW.region ?_ | refine zb rfl rfl rfl ?_))
      refine zJ h9 (by repeat (first | exact zj.nil | refine zj.cons (by exact yu.plain rfl rfl) ?_)) rfl rfl ?_
      (repeat (first | refine FW.seq ?_ | refine FW.region ?_ | refine zc.nil ?_ | refine za rfl rfl rfl ?_ | refine zb rfl rfl rfl ?_ | refine zx rfl rfl rfl rfl rfl rfl (by decide) rfl (by first | omega | (simp; omega)) rfl rfl ?_ | refine zt rfl rfl rfl rfl rfl rfl (by decide) rfl rfl ?_ | refine zZ rfl rfl rfl rfl rfl rfl (by first | omega | (simp; omega)) (by first | exact zd (by omega) | rfl) rfl rfl rfl ?_))
      refine FW.ret ⟨.inl rfl, Zb rfl rfl rfl (by simp; omega) (by decide) ?_ (opT.flatsM _)⟩
      rw [found (by rw [hbo, h1, h2]; simpa using h3), List.map_set]; rfl
     ·(repeat (first | refine FW.region ?_ | refine FW.skip ?_ | refine zc.nil ?_ | refine za rfl rfl rfl ?_ | refine zb rfl rfl rfl ?_ | refine zu rfl rfl (by omega) rfl rfl ?_))
      exact next (by rw [hbo, h1, h2]; simpa using h3) _ (by repeat (first | exact .nil | refine .cons (.plain rfl rfl rfl) ?_ | refine .cons (.own rfl (.head _) rfl rfl) ?_)) _ rfl rfl
    ·(repeat (first | refine FW.region ?_ | refine FW.skip ?_ | refine FW.condF rfl ?_ | refine zc.nil ?_ | refine za rfl rfl rfl ?_ | refine zb rfl rfl rfl ?_ | refine zu rfl rfl (by omega) rfl rfl ?_ | refine zP rfl rfl rfl rfl ?_ | refine yA rfl rfl ⟨_, _, rfl, rfl, rfl⟩ ?_))
     exact next (by rw [hbo, h2]; simp) _ (by repeat (first | exact .nil | refine .cons (.plain rfl rfl rfl) ?_ | refine .cons (.own rfl (.head _) rfl rfl) ?_)) _ rfl rfl
   ·(repeat (first | refine FW.seq ?_ | refine FW.region ?_ | refine zc.nil ?_ | refine za rfl rfl rfl ?_ | refine zb rfl rfl rfl ?_ | refine zP rfl rfl rfl rfl ?_ | refine zb rfl rfl ⟨_, _, rfl, rfl, rfl⟩ ?_ | refine zx rfl rfl rfl rfl rfl rfl (by decide) rfl (by first | omega | (simp; omega)) rfl ⟨_, _, rfl, rfl, rfl⟩ ?_ | refine zt rfl rfl rfl rfl rfl rfl (by decide) rfl ⟨_, _, rfl, rfl, rfl⟩ ?_ | refine zq rfl rfl rfl rfl rfl (by first | omega | (simp; omega)) (by first | exact zd (by omega) | rfl) rfl rfl rfl ⟨_, _, rfl, rfl, rfl⟩ ?_ | refine yU rfl rfl rfl ⟨_, _, rfl, rfl, rfl⟩ ?_))
    refine xd (fun h4 => ?_) (fun h4 => ?_)
    ·(repeat (first | refine zb rfl rfl rfl ?_ | refine zM rfl rfl rfl rfl ?_ | refine zb rfl rfl ⟨_, _, rfl, rfl, rfl⟩ ?_ | refine zx rfl rfl rfl rfl rfl rfl (by decide) rfl (by first | omega | (simp; omega)) rfl ⟨_, _, rfl, rfl, rfl⟩ ?_ | refine zt rfl rfl rfl rfl rfl rfl (by decide) rfl ⟨_, _, rfl, rfl, rfl⟩ ?_ | refine zq rfl rfl rfl rfl rfl (by first | omega | (simp; omega)) (by first | exact zd (by omega) | rfl) rfl rfl rfl ⟨_, _, rfl, rfl, rfl⟩ ?_))
     refine xd (fun h2 => ?_) (fun h2 => ?_)
     ·(repeat (first | refine zb rfl rfl ⟨_, _, rfl, rfl, rfl⟩ ?_))
      refine zhr rfl rfl (by decide) rfl ⟨_, _, rfl, rfl, rfl⟩ ?_
      (repeat (first | refine zc.nil ?_ | refine zM rfl rfl rfl rfl ?_ | refine Zc rfl rfl rfl ⟨_, _, rfl, rfl, rfl⟩ ?_))
      refine FW.cond rfl (fun h3 => ?_) (fun h3 => ?_)
      ·(repeat (first | refine FW.seq ?_ | refine FW.region ?_ | refine zb rfl rfl rfl ?_))
       refine zJ h9 (by repeat (first | exact zj.nil | refine zj.cons (by exact yu.plain rfl rfl) ?_)) rfl rfl ?_
       (repeat (first | refine FW.seq ?_ | refine FW.region ?_ | refine zc.nil ?_ | refine za rfl rfl rfl ?_ | refine zb rfl rfl rfl ?_ | refine zx rfl rfl rfl rfl rfl rfl (by decide) rfl (by first | omega | (simp; omega)) rfl rfl ?_ | refine zt rfl rfl rfl rfl rfl rfl (by decide) rfl rfl ?_ | refine zZ rfl rfl rfl rfl rfl rfl (by first | omega | (simp; omega)) (by first | exact zd (by omega) | rfl) rfl rfl rfl ?_))
       refine FW.ret ⟨.inl rfl, Zb rfl rfl rfl (by simp; omega) (by decide) ?_ (opT.flatsM _)⟩
       rw [found (by rw [hbo, h4, h2]; simpa using h3), List.map_set]; rfl
      ·(repeat (first | refine FW.region ?_ | refine FW.skip ?_ | refine zc.nil ?_ | refine za rfl rfl rfl ?_ | refine zb rfl rfl rfl ?_ | refine zu rfl rfl (by omega) rfl rfl ?_))
       exact next (by rw [hbo, h4, h2]; simpa using h3) _ (by repeat (first | exact .nil | refine .cons (.plain rfl rfl rfl) ?_ | refine .cons (.own rfl (.head _) rfl rfl) ?_)) _ rfl rfl
     ·(repeat (first | refine FW.region ?_ | refine FW.skip ?_ | refine FW.condF rfl ?_ | refine zc.nil ?_ | refine za rfl rfl rfl ?_ | refine zb rfl rfl rfl ?_ | refine zu rfl rfl (by omega) rfl rfl ?_ | refine zP rfl rfl rfl rfl ?_ | refine yA rfl rfl ⟨_, _, rfl, rfl, rfl⟩ ?_))
      exact next (by rw [hbo, h2]; simp) _ (by repeat (first | exact .nil | refine .cons (.plain rfl rfl rfl) ?_ | refine .cons (.own rfl (.head _) rfl rfl) ?_)) _ rfl rfl
    ·(repeat (first | refine FW.region ?_ | refine FW.skip ?_ | refine FW.condF rfl ?_ | refine zc.nil ?_ | refine za rfl rfl rfl ?_ | refine zb rfl rfl rfl ?_ | refine zu rfl rfl (by omega) rfl rfl ?_ | refine zP rfl rfl rfl rfl ?_ | refine yA rfl rfl ⟨_, _, rfl, rfl, rfl⟩ ?_))
     exact next (by rw [hbo, h1, h4]; rfl) _ (by repeat (first | exact .nil | refine .cons (.plain rfl rfl rfl) ?_ | refine .cons (.own rfl (.head _) rfl rfl) ?_)) _ rfl rfl
  ·have : i = l.length := by simp at h; omega
   subst this
   (repeat (first | refine FW.seq ?_ | refine FW.region ?_ | refine FW.exit ?_ | refine zb rfl rfl rfl ?_ | refine yf rfl rfl rfl (by decide) rfl rfl ?_))
   refine zJ hA (by repeat (first | exact zj.nil | refine zj.cons (by exact yu.plain rfl rfl) ?_)) rfl rfl ?_
   (repeat (first | refine zb rfl rfl rfl ?_))
   refine zJ h6 (by repeat (first | exact zj.nil | refine zj.cons (by exact yu.plain rfl rfl) ?_)) rfl rfl ?_
   (repeat (first | refine FW.seq ?_ | refine FW.region ?_ | refine zc.nil ?_ | refine za rfl rfl rfl ?_ | refine zb rfl rfl rfl ?_ | refine zx rfl rfl rfl rfl rfl rfl (by decide) rfl (by first | omega | (simp; omega)) rfl rfl ?_ | refine zt rfl rfl rfl rfl rfl rfl (by decide) rfl rfl ?_ | refine zZ rfl rfl rfl rfl rfl rfl (by first | omega | (simp; omega)) (by first | exact zd (by omega) | rfl) rfl rfl rfl ?_))
   refine FW.ret ⟨.inl rfl, Zb rfl rfl rfl (by simp; omega) (by decide) ?_ (opT.flatsM _)⟩
   rw [Xy, if_neg h0, hx, Int.toNat_natCast, VS hok, List.map_set]; rfl
end Go.Proofs.Ytbeebjdnapkhhaa
/-
 Generated histories of queues, bent: they stay histories, with small fields.
-/
namespace Go.Proofs.Ytbeebjdnapkhhaa
set_option linter.unusedVariables false
open Go.RowKit

/-! ### the values in a generated history are small -/
structure zi0 (s : HS) : Prop where
 rs : ∀ p, p < 3 → 0 ≤ nth s.rs p ∧ nth s.rs p < s.fresh
 now : ∀ c, c < 2 → 0 ≤ nth s.now c ∧ nth s.now c < s.fresh
 qs : ∀ c, c < 2 → ∀ x ∈ nth s.qs c, 0 ≤ x ∧ x < s.fresh
 res : ∀ j, j < s.out.length → 0 ≤ (nth s.out j).res ∧ (nth s.out j).res < s.fresh
theorem zi0.init : zi0 zcF := by
 have h3 : ∀ p, p < 3 → p = 0 ∨ p = 1 ∨ p = 2 := fun p hp => by omega
 have h2 : ∀ c, c < 2 → c = 0 ∨ c = 1 := fun c hc => by omega
 refine ⟨fun p hp => ?_, fun c hc => ?_, fun c hc x hx => ?_, fun j hj => absurd hj (Nat.not_lt_zero _)⟩
 ·rcases h3 p hp with rfl | rfl | rfl <;> decide
 ·rcases h2 c hc with rfl | rfl <;> decide
 ·rcases h2 c hc with rfl | rfl <;> exact absurd hx (by show ¬ x ∈ ([] : List Int); simp)
theorem za2 {l : List Int} {n i : Nat} {v lo hi : Int} (h : ∀ p, p < n → lo ≤ nth l p ∧ nth l p < hi) (hv : lo ≤ v ∧ v < hi) : ∀ p, p < n → lo ≤ nth (l.set i v) p ∧ nth (l.set i v) p < hi := fun p hp => by
 by_cases e : i = p
 ·subst e
  by_cases hl : i < l.length
  ·rw [zh hl]; exact hv
  ·rw [List.set_eq_of_length_le (by omega)]; exact h i hp
 ·rw [zg e]; exact h p hp
theorem zi0.step {q : Bool} {i : Nat} {s : HS} (hI : YB q i s) (h : zi0 s) (x : Int) : zi0 (xy q x s) := by
 unfold xy
 have hn : 0 ≤ zL x 1000000 := xE (by decide)
 have hp : (zL x 1000000 % 3).toNat < 3 := by omega
 generalize (zL x 1000000 % 3).toNat = p at hp
 generalize zL x 1000000 / 3 = m
 have h1 := hI.f1
 split
 ·have hfr : s.fresh ≤ (yQ q m p s).fresh := by
   show s.fresh ≤ if hsW (yM q m) = true then s.fresh + 1 else s.fresh
   split <;> omega
  refine ⟨fun p hp => ?_, fun c hc => ?_, fun c hc x hx => ?_, fun j hj => ?_⟩
  ·have := h.rs p hp; exact ⟨this.1, by show nth s.rs p < _; omega⟩
  ·have := h.now c hc; exact ⟨this.1, by show nth s.now c < _; omega⟩
  ·have := h.qs c hc x hx; exact ⟨this.1, by omega⟩
  ·show 0 ≤ (nth (s.out ++ [yt q m p s]) j).res ∧ (nth (s.out ++ [yt q m p s]) j).res < _
   have hj' : j < s.out.length + 1 := by simpa [yQ] using hj
   rcases Nat.lt_or_ge j s.out.length with h2 | h2
   ·rw [yS h2]
    have := h.res j h2
    exact ⟨this.1, by omega⟩
   ·have : j = s.out.length := by omega
    subst this
    rw [xn]
    exact ⟨Int.le_refl _, by show (0 : Int) < _; omega⟩
 ·rename_i hop
  have hop : 0 ≤ nth s.op p := by omega
  obtain ⟨hj0, _, _⟩ := hI.opn p hp hop
  have hO := hI.ops _ hj0
  have hE : zi0 (zT p s) := by
   unfold zT
   split
   ·exact h
   ·generalize nth s.out (nth s.op p).toNat = o at hO
    have hkey := hO.key
    have harg := hO.arg
    have hf0 : (0 : Int) < (s.fresh : Int) := by omega
    have hk2 : o.key.toNat < 2 := by omega
    unfold xX
    split
    ·exact ⟨za2 h.rs ⟨Int.le_refl _, hf0⟩, za2 h.now harg, h.qs, h.res⟩
    ·split
     ·exact ⟨za2 h.rs (h.now _ hk2), h.now, h.qs, h.res⟩
     ·split
      ·refine ⟨za2 h.rs ⟨Int.le_refl _, hf0⟩, h.now, fun c hc x hx => ?_, h.res⟩
       have hx' : x ∈ nth (s.qs.set o.key.toNat (nth s.qs o.key.toNat ++ [o.arg])) c := hx
       by_cases e : o.key.toNat = c
       ·subst e
        rw [zh (by rw [hI.q2]; omega)] at hx'
        rcases List.mem_append.1 hx' with h3 | h3
        ·exact h.qs _ hc x h3
        ·rw [List.mem_singleton] at h3; subst h3; exact harg
       ·rw [zg e] at hx'; exact h.qs c hc x hx'
      ·split
       ·exact ⟨za2 h.rs ⟨Int.le_refl _, hf0⟩, h.now, h.qs, h.res⟩
       ·rename_i y r hq
        refine ⟨za2 h.rs (h.qs _ hk2 y (by rw [hq]; exact List.mem_cons_self)), h.now, fun c hc x hx => ?_, h.res⟩
        have hx' : x ∈ nth (s.qs.set o.key.toNat r) c := hx
        by_cases e : o.key.toNat = c
        ·subst e
         rw [zh (by rw [hI.q2]; omega)] at hx'
         exact h.qs _ hc x (by rw [hq]; exact List.mem_cons_of_mem _ hx')
        ·rw [zg e] at hx'; exact h.qs c hc x hx'
  unfold zcE
  split
  ·exact ⟨hE.rs, hE.now, hE.qs, hE.res⟩
  ·split
   ·refine ⟨hE.rs, hE.now, hE.qs, fun j hj => ?_⟩
    have hout : (yb p (zT p s)).out = (zT p s).out.set (nth (zT p s).op p).toNat { nth (zT p s).out (nth (zT p s).op p).toNat with done := true, res := nth (zT p s).rs p, ret := ((zT p s).time : Int) } := rfl
    have hj' : j < (zT p s).out.length := by rw [hout] at hj; simpa using hj
    show 0 ≤ (nth (yb p (zT p s)).out j).res ∧ (nth (yb p (zT p s)).out j).res < (zT p s).fresh
    rw [hout]
    by_cases e : (nth (zT p s).op p).toNat = j
    ·subst e
     rw [zh hj']; exact hE.rs p hp
    ·rw [zg e]; exact hE.res j hj'
   ·exact hE
theorem zi5 (q : Bool) (l : List Int) : ∀ i, zi0 (WF q l i)
 | 0 => zi0.init
 | i + 1 => (zi5 q l i).step (Yo q l i) _
theorem zgC (q : Bool) (l : List Int) : ∀ o ∈ XF q l, 0 ≤ o.res ∧ o.res ≤ 60 := fun o ho => by
 obtain ⟨x, hx, rfl⟩ := List.mem_map.1 ho
 obtain ⟨j, hj, rfl⟩ := List.getElem_of_mem hx
 have h := (zi5 q l (min l.length 60)).res j hj
 have hf := (Yo q l (min l.length 60)).fi
 rw [zi hj] at h
 rw [(ZQ _ _).2.2.2.2.1]
 omega

structure OpB (q : Bool) (o : OpV) : Prop where
 k : (q = true ∧ (o.k = 3 ∨ o.k = 4)) ∨ (q = false ∧ (o.k = 0 ∨ o.k = 1))
 key : 0 ≤ o.key ∧ o.key ≤ 1
 arg : 0 ≤ o.arg ∧ o.arg ≤ 60
 res : 0 ≤ o.res ∧ o.res ≤ 60
 p : 0 ≤ o.p ∧ o.p ≤ 200
 call : 0 ≤ o.call ∧ o.call ≤ 60
 ret : 0 ≤ o.ret ∧ o.ret ≤ 60
structure zfW (q : Bool) (l : List OpV) : Prop where
 len : l.length ≤ 60
 ops : ∀ o ∈ l, OpB q o
 wf : WFH l
theorem Xe (q : Bool) (l : List Int) : zfW q (XF q l) :=
 ⟨zcD q l, fun o ho => let h := zeq q l o ho; ⟨h.k, h.key, h.arg, zgC q l o ho, h.p, h.call, h.ret⟩, zia q l⟩
theorem zfW.inn {q : Bool} {l : List OpV} (h : zfW q l) : ∀ o ∈ l, zdm o := fun o ho => by
 have := h.ops o ho
 have hk := this.k
 have := this.key
 have := (h.ops o ho).arg
 have := (h.ops o ho).res
 have := (h.ops o ho).p
 have := (h.ops o ho).call
 have := (h.ops o ho).ret
 unfold zdm I64
 omega
theorem zfW.set {q : Bool} {l : List OpV} (h : zfW q l) {i : Nat} (hi : i < l.length) {o : OpV} (hb : OpB q o) (hf : o.p = (nth l i).p ∧ o.k = (nth l i).k ∧ o.call = (nth l i).call ∧ o.ret = (nth l i).ret ∧ o.done = (nth l i).done ∧ ((nth l i).done = false → o.res = (nth l i).res)) : zfW q (l.set i o) :=
 ⟨by simpa using h.len, fun x hx => by
  rcases List.mem_or_eq_of_mem_set hx with hx | rfl
  ·exact h.ops x hx
  ·exact hb, h.wf.set hi hf⟩
theorem zfW.bent {q : Bool} {l : List OpV} (h : zfW q l) (at_ how v : Int) : zfW q (Xy l at_ how v) := by
 unfold Xy
 split
 ·rename_i h0; subst h0; exact h
 ·rename_i h0
  have hpos : 0 < l.length := List.length_pos_iff.2 h0
  have h9 := xE (n := v) (most := 9) (by decide)
  have h9' := YF (n := v) (most := 9) (by decide)
  have h6 := xE (n := v) (most := 6) (by decide)
  have h6' := YF (n := v) (most := 6) (by decide)
  split
  ·rename_i i hf
   have hk : VF l (zL at_ l.length).toNat i < l.length := Nat.mod_lt _ hpos
   have hb := h.ops _ (zn hk)
   rw [List.find?_eq_some_iff_getElem] at hf
   have hd : (nth l (VF l (zL at_ l.length).toNat i)).done = true := by
    have := hf.1
    unfold XQ at this
    simp only [Bool.and_eq_true] at this
    exact this.2.1
   exact h.set hk ⟨hb.k, hb.key, hb.arg, ⟨h9, by dsimp only; omega⟩, hb.p, hb.call, hb.ret⟩ ⟨rfl, rfl, rfl, rfl, rfl, fun e => by rw [hd] at e; cases e⟩
  ·have hk : (zL at_ l.length).toNat < l.length := by
    have h1 := xE (n := at_) (most := l.length) (by omega)
    have h2 := YF (n := at_) (most := l.length) (by omega)
    omega
   have hb := h.ops _ (zn hk)
   exact h.set hk ⟨hb.k, hb.key, ⟨h6, by dsimp only; omega⟩, hb.res, hb.p, hb.call, hb.ret⟩ ⟨rfl, rfl, rfl, rfl, rfl, fun _ => rfl⟩
end Go.Proofs.Ytbeebjdnapkhhaa
