/-
  Some texts as one: FmOnce2, FmOnce3, FmOnce4, HistQ, OncePlain, HistQ2, OnceKey, FmOnce5.
-/
import Derived.Test.YtbeebjdnapkhhaaZG
import Derived.Test.YtbeebjdnapkhhaaZKeyTwo
/-
 Functions of layer 24, at plain values: Push, First, Domain.
-/
namespace Go.Proofs.Ytbeebjdnapkhhaa
set_option linter.unusedVariables false
open Go.RowKit

def xk (key v : Int) (o : OpV) : Bool := decide (o.k = 3) && (decide (o.key = key) && decide (o.arg = v))
end Go.Proofs.Ytbeebjdnapkhhaa
/-
 The domain of layer 24, at plain values.
-/
namespace Go.Proofs.Ytbeebjdnapkhhaa
set_option linter.unusedVariables false
open Go.RowKit

def zkG (l : List OpV) (i : Nat) : Prop := ((nth l i).k = 4 ∨ ((nth l i).k = 3 ∧ (nth l i).arg ≠ 0 ∧ ∀ j, j < i → xk (nth l i).key (nth l i).arg (nth l j) = false))
def zjK (l : List OpV) : Prop := ∀ i, i < l.length → zkG l i
instance (l : List OpV) (i : Nat) : Decidable (zkG l i) := by unfold zkG; infer_instance
instance (l : List OpV) : Decidable (zjK l) := by unfold zjK; infer_instance

end Go.Proofs.Ytbeebjdnapkhhaa
/-
 simproofref24.Missing, at plain values.
-/
namespace Go.Proofs.Ytbeebjdnapkhhaa
set_option linter.unusedVariables false
open Go.RowKit

end Go.Proofs.Ytbeebjdnapkhhaa
/-
 The generator of histories of layer 21, at plain values, and that what it makes are histories.
-/
namespace Go.Proofs.Ytbeebjdnapkhhaa
set_option linter.unusedVariables false

structure HS where
 out : List OpV
 pr : List Int
 op : List Int
 ef : List Bool
 rs : List Int
 now : List Int
 qs : List (List Int)
 time : Nat
 fresh : Nat
 deriving Inhabited

def xu (q : Bool) (m : Int) : Int := if q = true then 3 + m % 2 else m % 2
def hsW (kd : Int) : Bool := decide (kd = 1) || decide (kd = 3)
def ye (q : Bool) (m : Int) (p : Nat) (s : HS) : OpV := ⟨nth s.pr p, xu q m, m / 2 % 2, if hsW (xu q m) = true then (s.fresh : Int) else 0, 0, (s.time : Int), 0, false⟩
def xb (q : Bool) (m : Int) (p : Nat) (s : HS) : HS :=
 { s with out := s.out ++ [ye q m p s], op := s.op.set p (s.out.length : Int), ef := s.ef.set p false, time := s.time + 1, fresh := if hsW (xu q m) = true then s.fresh + 1 else s.fresh }
def Zn (o : OpV) (p : Nat) (s : HS) : HS :=
 if o.k = 1 then { s with ef := s.ef.set p true, rs := s.rs.set p 0, now := s.now.set o.key.toNat o.arg }
 else if o.k = 0 then { s with ef := s.ef.set p true, rs := s.rs.set p (nth s.now o.key.toNat) }
 else if o.k = 3 then { s with ef := s.ef.set p true, rs := s.rs.set p 0, qs := s.qs.set o.key.toNat (nth s.qs o.key.toNat ++ [o.arg]) }
 else match nth s.qs o.key.toNat with
  | [] => { s with ef := s.ef.set p true, rs := s.rs.set p 0 }
  | x :: r => { s with ef := s.ef.set p true, rs := s.rs.set p x, qs := s.qs.set o.key.toNat r }
def zW (p : Nat) (s : HS) : HS := if nth s.ef p = true then s else Zn (nth s.out (nth s.op p).toNat) p s
def WL (p : Nat) (s : HS) : HS := { s with pr := s.pr.set p (nth s.pr p + 3), op := s.op.set p (-1) }
def zT (p : Nat) (s : HS) : HS :=
 { s with out := s.out.set (nth s.op p).toNat { nth s.out (nth s.op p).toNat with done := true, res := nth s.rs p, ret := (s.time : Int) }, op := s.op.set p (-1), time := s.time + 1 }
def zf2 (m : Int) (p : Nat) (s : HS) : HS := if m % 8 = 7 then WL p s else if 0 < m % 3 then zT p s else s
def WM (q : Bool) (x : Int) (s : HS) : HS :=
 if nth s.op (zX x 1000000 % 3).toNat < 0 then xb q (zX x 1000000 / 3) (zX x 1000000 % 3).toNat s
 else zf2 (zX x 1000000 / 3) (zX x 1000000 % 3).toNat (zW (zX x 1000000 % 3).toNat s)
theorem ZW (o : OpV) (p : Nat) (s : HS) : (Zn o p s).out = s.out ∧ (Zn o p s).pr = s.pr ∧ (Zn o p s).op = s.op ∧ (Zn o p s).time = s.time ∧ (Zn o p s).fresh = s.fresh ∧ (Zn o p s).ef = s.ef.set p true ∧ (Zn o p s).rs.length = s.rs.length ∧ (Zn o p s).now.length = s.now.length ∧ (Zn o p s).qs.length = s.qs.length := by
 unfold Zn
 split
 ·simp
 ·split
  ·simp
  ·split
   ·simp
   ·split <;> simp
theorem Ym (p : Nat) (s : HS) : (zW p s).out = s.out ∧ (zW p s).pr = s.pr ∧ (zW p s).op = s.op ∧ (zW p s).time = s.time ∧ (zW p s).fresh = s.fresh ∧ (zW p s).ef.length = s.ef.length ∧ (zW p s).rs.length = s.rs.length ∧ (zW p s).now.length = s.now.length ∧ (zW p s).qs.length = s.qs.length := by
 unfold zW
 split
 ·simp
 ·obtain ⟨h1, h2, h3, h4, h5, h6, h7, h8, h9⟩ := ZW (nth s.out (nth s.op p).toNat) p s
  exact ⟨h1, h2, h3, h4, h5, by rw [h6]; simp, h7, h8, h9⟩

structure OpG (q : Bool) (s : HS) (j : Nat) (o : OpV) : Prop where
 p0 : 0 ≤ o.p
 k : o.k = xu q 0 ∨ o.k = xu q 1
 key : 0 ≤ o.key ∧ o.key ≤ 1
 c0 : 0 ≤ o.call ∧ o.call < s.time
 arg : 0 ≤ o.arg ∧ o.arg < s.fresh
 w : hsW o.k = true → 1 ≤ o.arg
 pp : o.p ≤ nth s.pr (o.p % 3).toNat
 d : o.done = true → o.call < o.ret ∧ o.ret < s.time
 n : o.done = false → o.res = 0 ∧ (nth s.op (o.p % 3).toNat = j ∨ o.p < nth s.pr (o.p % 3).toNat)
def zjW (a b : OpV) : Prop := zjV a b ∧ (hsW a.k = true → hsW b.k = true → a.arg < b.arg)
structure Xp (q : Bool) (i : Nat) (s : HS) : Prop where
 o3 : s.op.length = 3
 p3 : s.pr.length = 3
 e3 : s.ef.length = 3
 r3 : s.rs.length = 3
 n2 : s.now.length = 2
 q2 : s.qs.length = 2
 ti : s.time ≤ i
 li : s.out.length ≤ i
 f1 : 1 ≤ s.fresh
 fi : s.fresh ≤ i + 1
 pr : ∀ p, p < 3 → 0 ≤ nth s.pr p ∧ nth s.pr p % 3 = p ∧ nth s.pr p ≤ 3 * i + 2
 opn : ∀ p, p < 3 → 0 ≤ nth s.op p → (nth s.op p).toNat < s.out.length ∧ (nth s.out (nth s.op p).toNat).p = nth s.pr p ∧ (nth s.out (nth s.op p).toNat).done = false
 neg : ∀ p, p < 3 → -1 ≤ nth s.op p
 ops : ∀ j, j < s.out.length → OpG q s j (nth s.out j)
 rel : s.out.Pairwise zjW
theorem zf3 (q : Bool) {m : Int} (hm : 0 ≤ m) : xu q m = xu q 0 ∨ xu q m = xu q 1 := by
 unfold xu
 cases q <;> simp <;> omega
theorem Xp.open {q : Bool} {i : Nat} {s : HS} (h : Xp q i s) {m : Int} (hm : 0 ≤ m) {p : Nat} (hp : p < 3) (hop : nth s.op p < 0) : Xp q (i + 1) (xb q m p s) := by
 have hop1 : nth s.op p = -1 := by have := h.neg p hp; omega
 have hpr := h.pr p hp
 have lst : nth (s.out ++ [ye q m p s]) s.out.length = ye q m p s := xd
 have old : ∀ j, j < s.out.length → nth (s.out ++ [ye q m p s]) j = nth s.out j := fun j hj => yM hj
 have hfr : (xb q m p s).fresh = if hsW (xu q m) = true then s.fresh + 1 else s.fresh := rfl
 have hfl : s.fresh ≤ (xb q m p s).fresh := by rw [hfr]; split <;> omega
 have hp3 : ((nth s.pr p) % 3).toNat = p := by omega
 refine ⟨by simp [xb, h.o3], h.p3, by simp [xb, h.e3], h.r3, h.n2, h.q2, Nat.succ_le_succ h.ti, by simp [xb]; exact h.li, Nat.le_trans h.f1 hfl, ?_, fun x hx => ?_, fun x hx h0 => ?_, fun x hx => ?_, fun j hj => ?_, ?_⟩
 ·rw [hfr]; have := h.fi; split <;> omega
 ·obtain ⟨a, b, c⟩ := h.pr x hx
  exact ⟨a, b, by show nth s.pr x ≤ _; omega⟩
 ·show (nth (s.op.set p (s.out.length : Int)) x).toNat < (s.out ++ [ye q m p s]).length ∧ (nth (s.out ++ [ye q m p s]) (nth (s.op.set p (s.out.length : Int)) x).toNat).p = nth s.pr x ∧ (nth (s.out ++ [ye q m p s]) (nth (s.op.set p (s.out.length : Int)) x).toNat).done = false
  by_cases hx2 : p = x
  ·subst hx2
   rw [zh (by rw [h.o3]; exact hx), Int.toNat_natCast, lst]
   exact ⟨by simp, rfl, rfl⟩
  ·have h0' : 0 ≤ nth (s.op.set p (s.out.length : Int)) x := h0
   rw [zf hx2] at h0' ⊢
   obtain ⟨a, b, c⟩ := h.opn x hx h0'
   rw [old _ a]
   exact ⟨by simp; omega, b, c⟩
 ·show -1 ≤ nth (s.op.set p (s.out.length : Int)) x
  by_cases hx2 : p = x
  ·subst hx2; rw [zh (by rw [h.o3]; exact hx)]; omega
  ·rw [zf hx2]; exact h.neg x hx
 ·show OpG q _ j (nth (s.out ++ [ye q m p s]) j)
  have hj' : j < s.out.length + 1 := by simpa [xb] using hj
  rcases Nat.lt_or_ge j s.out.length with h1 | h1
  ·rw [old j h1]
   have g := h.ops j h1
   refine ⟨g.p0, g.k, g.key, ⟨g.c0.1, by show _ < ((s.time + 1 : Nat) : Int); have := g.c0.2; omega⟩, ⟨g.arg.1, by have := g.arg.2; omega⟩, g.w, g.pp, fun hd => ⟨(g.d hd).1, by show _ < ((s.time + 1 : Nat) : Int); have := (g.d hd).2; omega⟩, fun hd => ⟨(g.n hd).1, ?_⟩⟩
   show nth (s.op.set p (s.out.length : Int)) _ = (j : Int) ∨ _
   rcases (g.n hd).2 with h2 | h2
   ·by_cases hx2 : p = ((nth s.out j).p % 3).toNat
    ·rw [← hx2, hop1] at h2; omega
    ·left; rw [zf hx2]; exact h2
   ·exact .inr h2
  ·have : j = s.out.length := by omega
   subst this
   rw [lst]
   have hf : (ye q m p s).arg = if hsW (xu q m) = true then (s.fresh : Int) else 0 := rfl
   have hf1 := h.f1
   refine ⟨hpr.1, zf3 q hm, ⟨by show 0 ≤ m / 2 % 2; omega, by show m / 2 % 2 ≤ 1; omega⟩, ⟨by show 0 ≤ (s.time : Int); omega, by show (s.time : Int) < ((s.time + 1 : Nat) : Int); omega⟩, ⟨by rw [hf]; split <;> omega, by rw [hf, hfr]; split <;> omega⟩, fun hw => ?_, ?_, (fun hd => by cases hd), fun _ => ⟨rfl, .inl ?_⟩⟩
   ·have hw' : hsW (xu q m) = true := hw
    rw [hf, if_pos hw']; omega
   ·show nth s.pr p ≤ nth s.pr (nth s.pr p % 3).toNat
    rw [hp3]; exact Int.le_refl _
   ·show nth (s.op.set p (s.out.length : Int)) (nth s.pr p % 3).toNat = _
    rw [hp3, zh (by rw [h.o3]; exact hp)]
 ·show (s.out ++ [ye q m p s]).Pairwise zjW
  rw [List.pairwise_append]
  refine ⟨h.rel, List.pairwise_singleton _ _, fun a ha b hb => ?_⟩
  rw [List.mem_singleton] at hb
  subst hb
  obtain ⟨j, hj, rfl⟩ := List.getElem_of_mem ha
  rw [← zi hj]
  have g := h.ops j hj
  refine ⟨⟨g.c0.2, fun hd => ⟨by show _ ≠ (s.time : Int); have := (g.d hd).2; omega, fun hd2 => by cases hd2⟩, fun he => ?_⟩, fun h1 h2 => ?_⟩
  ·have he' : (nth s.out j).p = nth s.pr p := he
   cases hd : (nth s.out j).done with
   | true => exact ⟨rfl, by show _ ≤ (s.time : Int); have := (g.d hd).2; omega⟩
   | false =>
    rcases (g.n hd).2 with h2 | h2
    ·rw [he', hp3, hop1] at h2; omega
    ·rw [he', hp3] at h2; omega
  ·have hw' : hsW (xu q m) = true := h2
   show _ < if hsW (xu q m) = true then (s.fresh : Int) else 0
   rw [if_pos hw']
   exact g.arg.2
theorem Xp.effM {q : Bool} {i : Nat} {s : HS} (h : Xp q i s) (p : Nat) : Xp q i (zW p s) := by
 obtain ⟨h1, h2, h3, h4, h5, h6, h7, h8, h9⟩ := Ym p s
 refine ⟨by rw [h3]; exact h.o3, by rw [h2]; exact h.p3, by rw [h6]; exact h.e3, by rw [h7]; exact h.r3, by rw [h8]; exact h.n2, by rw [h9]; exact h.q2, by rw [h4]; exact h.ti, by rw [h1]; exact h.li, by rw [h5]; exact h.f1, by rw [h5]; exact h.fi, by rw [h2]; exact h.pr, by rw [h1, h2, h3]; exact h.opn, by rw [h3]; exact h.neg, fun j hj => ?_, by rw [h1]; exact h.rel⟩
 rw [h1] at hj ⊢
 have g := h.ops j hj
 exact ⟨g.p0, g.k, g.key, by rw [h4]; exact g.c0, by rw [h5]; exact g.arg, g.w, by rw [h2]; exact g.pp, by rw [h4]; exact g.d, by rw [h2, h3]; exact g.n⟩
theorem Xp.lost {q : Bool} {i : Nat} {s : HS} (h : Xp q i s) {p : Nat} (hp : p < 3) : Xp q (i + 1) (WL p s) := by
 have hpr := h.pr p hp
 have prx : ∀ x, x < 3 → nth s.pr x ≤ nth (s.pr.set p (nth s.pr p + 3)) x := fun x hx => by
  by_cases hx2 : p = x
  ·subst hx2; rw [zh (by rw [h.p3]; exact hx)]; omega
  ·rw [zf hx2]; exact Int.le_refl _
 refine ⟨by simp [WL, h.o3], by simp [WL, h.p3], h.e3, h.r3, h.n2, h.q2, Nat.le_succ_of_le h.ti, Nat.le_succ_of_le h.li, h.f1, Nat.le_succ_of_le h.fi, fun x hx => ?_, fun x hx h0 => ?_, fun x hx => ?_, fun j hj => ?_, h.rel⟩
 ·show 0 ≤ nth (s.pr.set p (nth s.pr p + 3)) x ∧ nth (s.pr.set p (nth s.pr p + 3)) x % 3 = x ∧ nth (s.pr.set p (nth s.pr p + 3)) x ≤ 3 * ((i + 1 : Nat) : Int) + 2
  by_cases hx2 : p = x
  ·subst hx2; rw [zh (by rw [h.p3]; exact hx)]; omega
  ·rw [zf hx2]
   have := h.pr x hx
   omega
 ·have h0' : 0 ≤ nth (s.op.set p (-1)) x := h0
  show (nth (s.op.set p (-1)) x).toNat < s.out.length ∧ (nth s.out (nth (s.op.set p (-1)) x).toNat).p = nth (s.pr.set p (nth s.pr p + 3)) x ∧ (nth s.out (nth (s.op.set p (-1)) x).toNat).done = false
  by_cases hx2 : p = x
  ·subst hx2; rw [zh (by rw [h.o3]; exact hx)] at h0'; omega
  ·rw [zf hx2] at h0' ⊢
   rw [zf hx2]
   exact h.opn x hx h0'
 ·show -1 ≤ nth (s.op.set p (-1)) x
  by_cases hx2 : p = x
  ·subst hx2; rw [zh (by rw [h.o3]; exact hx)]; omega
  ·rw [zf hx2]; exact h.neg x hx
 ·have g := h.ops j hj
  have hx3 : ((nth s.out j).p % 3).toNat < 3 := by omega
  refine ⟨g.p0, g.k, g.key, g.c0, g.arg, g.w, Int.le_trans g.pp (prx _ hx3), g.d, fun hd => ⟨(g.n hd).1, ?_⟩⟩
  show nth (s.op.set p (-1)) ((nth s.out j).p % 3).toNat = (j : Int) ∨ (nth s.out j).p < nth (s.pr.set p (nth s.pr p + 3)) ((nth s.out j).p % 3).toNat
  by_cases hx2 : p = ((nth s.out j).p % 3).toNat
  ·right
   rw [← hx2, zh (by rw [h.p3]; exact hp)]
   have := g.pp
   rw [← hx2] at this
   omega
  ·rw [zf hx2, zf hx2]
   exact (g.n hd).2
theorem Xp.done {q : Bool} {i : Nat} {s : HS} (h : Xp q i s) {p : Nat} (hp : p < 3) (hop : 0 ≤ nth s.op p) : Xp q (i + 1) (zT p s) := by
 obtain ⟨hj0, hpj, hdj⟩ := h.opn p hp hop
 have hpr := h.pr p hp
 generalize hjj : (nth s.op p).toNat = j0 at hj0 hpj hdj
 have hout : (zT p s).out = s.out.set j0 { nth s.out j0 with done := true, res := nth s.rs p, ret := (s.time : Int) } := by unfold zT; rw [hjj]
 have hlen : (zT p s).out.length = s.out.length := by rw [hout]; simp
 have same : nth (zT p s).out j0 = { nth s.out j0 with done := true, res := nth s.rs p, ret := (s.time : Int) } := by rw [hout, zh hj0]
 have oth : ∀ j, j0 ≠ j → nth (zT p s).out j = nth s.out j := fun j hj => by rw [hout, zf hj]
 have gj := h.ops j0 hj0
 have hp3 : ((nth s.out j0).p % 3).toNat = p := by rw [hpj]; omega
 refine ⟨by simp [zT, h.o3], h.p3, h.e3, h.r3, h.n2, h.q2, Nat.succ_le_succ h.ti, by rw [hlen]; exact Nat.le_succ_of_le h.li, h.f1, Nat.le_succ_of_le h.fi, fun x hx => ?_, fun x hx h0 => ?_, fun x hx => ?_, fun j hj => ?_, ?_⟩
 ·obtain ⟨a, b, c⟩ := h.pr x hx
  exact ⟨a, b, by show nth s.pr x ≤ _; omega⟩
 ·have h0' : 0 ≤ nth (s.op.set p (-1)) x := h0
  rw [hlen]
  show (nth (s.op.set p (-1)) x).toNat < s.out.length ∧ (nth (zT p s).out (nth (s.op.set p (-1)) x).toNat).p = nth s.pr x ∧ (nth (zT p s).out (nth (s.op.set p (-1)) x).toNat).done = false
  by_cases hx2 : p = x
  ·subst hx2; rw [zh (by rw [h.o3]; exact hx)] at h0'; omega
  ·rw [zf hx2] at h0' ⊢
   obtain ⟨a, b, c⟩ := h.opn x hx h0'
   have hne : j0 ≠ (nth s.op x).toNat := fun e => by
    rw [← e, hpj] at b
    have := h.pr x hx
    omega
   rw [oth _ hne]
   exact ⟨a, b, c⟩
 ·show -1 ≤ nth (s.op.set p (-1)) x
  by_cases hx2 : p = x
  ·subst hx2; rw [zh (by rw [h.o3]; exact hx)]; omega
  ·rw [zf hx2]; exact h.neg x hx
 ·rw [hlen] at hj
  by_cases hjx : j0 = j
  ·subst hjx
   rw [same]
   refine ⟨gj.p0, gj.k, gj.key, ⟨gj.c0.1, by show _ < ((s.time + 1 : Nat) : Int); have := gj.c0.2; dsimp only; omega⟩, gj.arg, gj.w, gj.pp, fun _ => ⟨gj.c0.2, by show (s.time : Int) < ((s.time + 1 : Nat) : Int); omega⟩, fun hd => by cases hd⟩
  ·rw [oth j hjx]
   have g := h.ops j hj
   refine ⟨g.p0, g.k, g.key, ⟨g.c0.1, by show _ < ((s.time + 1 : Nat) : Int); have := g.c0.2; omega⟩, g.arg, g.w, g.pp, fun hd => ⟨(g.d hd).1, by show _ < ((s.time + 1 : Nat) : Int); have := (g.d hd).2; omega⟩, fun hd => ⟨(g.n hd).1, ?_⟩⟩
   show nth (s.op.set p (-1)) ((nth s.out j).p % 3).toNat = (j : Int) ∨ _
   rcases (g.n hd).2 with h2 | h2
   ·by_cases hx2 : p = ((nth s.out j).p % 3).toNat
    ·rw [← hx2] at h2
     rw [h2] at hjj
     simp at hjj
     exact absurd hjj.symm hjx
    ·left; rw [zf hx2]; exact h2
   ·exact .inr h2
 ·rw [List.pairwise_iff_getElem]
  intro a b ha hb hab
  rw [hlen] at ha hb
  rw [← zi (by rw [hlen]; exact ha), ← zi (by rw [hlen]; exact hb)]
  have hp0 := List.pairwise_iff_getElem.1 h.rel a b ha hb hab
  rw [← zi ha, ← zi hb] at hp0
  by_cases ea : j0 = a
  ·subst ea
   rw [same, oth b (by omega)]
   have gb := h.ops b hb
   have := gb.c0
   refine ⟨⟨hp0.1.1, fun _ => ⟨by show (s.time : Int) ≠ _; omega, fun hd => by show _ ≠ (s.time : Int); have := (gb.d hd).2; omega⟩, fun he => ?_⟩, hp0.2⟩
   have := (hp0.1.2.2 he).1
   rw [hdj] at this; cases this
  ·by_cases eb : j0 = b
   ·subst eb
    rw [same, oth a (by omega)]
    have ga := h.ops a ha
    exact ⟨⟨hp0.1.1, fun hd => ⟨(hp0.1.2.1 hd).1, fun _ => by show (s.time : Int) ≠ _; have := (ga.d hd).2; omega⟩, hp0.1.2.2⟩, hp0.2⟩
   ·rw [oth a ea, oth b eb]
    exact hp0
theorem Xp.later {q : Bool} {i : Nat} {s : HS} (h : Xp q i s) : Xp q (i + 1) s :=
 ⟨h.o3, h.p3, h.e3, h.r3, h.n2, h.q2, Nat.le_succ_of_le h.ti, Nat.le_succ_of_le h.li, h.f1, Nat.le_succ_of_le h.fi, fun p hp => by have := h.pr p hp; omega, h.opn, h.neg, h.ops, h.rel⟩
theorem Xp.step {q : Bool} {i : Nat} {s : HS} (h : Xp q i s) (x : Int) : Xp q (i + 1) (WM q x s) := by
 unfold WM
 have hn : 0 ≤ zX x 1000000 := YF (by decide)
 have hp : (zX x 1000000 % 3).toNat < 3 := by omega
 split
 ·rename_i hop
  exact h.open (by omega) hp hop
 ·rename_i hop
  have h1 := h.effM (zX x 1000000 % 3).toNat
  have he : (zW (zX x 1000000 % 3).toNat s).op = s.op := (Ym _ _).2.2.1
  unfold zf2
  split
  ·exact h1.lost hp
  ·split
   ·exact h1.done hp (by rw [he]; omega)
   ·exact h1.later
theorem zjY {o : OpV} {q : Bool} (h : o.k = xu q 0 ∨ o.k = xu q 1) : (q = true ∧ (o.k = 3 ∨ o.k = 4)) ∨ (q = false ∧ (o.k = 0 ∨ o.k = 1)) := by
 cases q <;> simp [xu] at h <;> simp <;> omega
end Go.Proofs.Ytbeebjdnapkhhaa
/-
 The verdicts of layer 24, at plain values, and their laws.
-/
namespace Go.Proofs.Ytbeebjdnapkhhaa
set_option linter.unusedVariables false
open Go.RowKit

structure zkR where
 chk : Int
 cls : Int
 arg : Int
 order : List Int
 deriving DecidableEq, Inhabited
def zkR.fv (v : zkR) : List FV := [.int .i64 v.chk, .int .i64 v.cls, .int .i64 v.arg, .list 1 (v.order.map zJ), .nil]
/-! ### what the indices mean -/
/-! ### the domain, told by pairs -/
/-! ### class and argument do not speak of indices -/
/-! ### the missing -/
/-! ### a history that holds delivers once -/
end Go.Proofs.Ytbeebjdnapkhhaa
/-
 Histories of queues that take effect between call and return deliver every element once, after its push was called.
-/
namespace Go.Proofs.Ytbeebjdnapkhhaa
set_option linter.unusedVariables false

/-! ### lists made from a range -/
theorem Xx {n : Nat} {f g : Nat → Option Int} (h : ∀ q, q < n → g q = f q) : (List.range n).filterMap g = (List.range n).filterMap f := by
 induction n with
 | zero => rfl
 | succ n ih =>
  rw [List.range_succ, List.filterMap_append, List.filterMap_append, ih fun q hq => h q (by omega)]
  simp [List.filterMap_cons, h n (by omega)]
theorem zfK {n p : Nat} {f g : Nat → Option Int} {x : Int} (hp : p < n) (hf : f p = none) (hg : g p = some x) (ho : ∀ q, q < n → q ≠ p → g q = f q) : ((List.range n).filterMap g).Perm (x :: (List.range n).filterMap f) := by
 induction n with
 | zero => omega
 | succ n ih =>
  rw [List.range_succ, List.filterMap_append, List.filterMap_append]
  by_cases e : p = n
  ·subst e
   rw [Xx (f := f) (g := g) fun q hq => ho q (by omega) (by omega)]
   simp [hf, hg]
  ·have := ih (by omega) fun q hq hne => ho q (by omega) hne
   simp only [List.filterMap_cons, List.filterMap_nil, ho n (by omega) (fun e' => e e'.symm)]
   exact this.append_right _
theorem zi3 {n p : Nat} {f g : Nat → Option Int} (hg : g p = none) (ho : ∀ q, q < n → q ≠ p → g q = f q) : ((List.range n).filterMap g).Sublist ((List.range n).filterMap f) := by
 induction n with
 | zero => exact List.Sublist.refl _
 | succ n ih =>
  rw [List.range_succ, List.filterMap_append, List.filterMap_append]
  refine (ih fun q hq hne => ho q (by omega) hne).append ?_
  by_cases e : n = p
  ·subst e; simp [hg]
  ·rw [show List.filterMap g [n] = List.filterMap f [n] by simp [List.filterMap_cons, ho n (by omega) e]]
   exact List.Sublist.refl _

/-! ### where the elements are -/
def zfo (c : Int) (o : OpV) : Option Int := if zgd o = true ∧ o.key = c then some o.res else none
def XF (s : HS) (c : Int) (p : Nat) : Option Int :=
 if 0 ≤ nth s.op p ∧ nth s.ef p = true ∧ (nth s.out (nth s.op p).toNat).k = 4 ∧ (nth s.out (nth s.op p).toNat).key = c ∧ nth s.rs p ≠ 0 then some (nth s.rs p) else none
def ziy (l : List OpV) (c : Int) : List Int := (List.range l.length).filterMap fun j => zfo c (nth l j)
def WX (s : HS) (c : Int) : List Int := (List.range 3).filterMap (XF s c)
def WQ (s : HS) (c : Nat) : List Int := nth s.qs c ++ (ziy s.out c ++ WX s c)

structure Vp (s : HS) : Prop where
 nd : ∀ c, c < 2 → (WQ s c).Nodup
 src : ∀ c, c < 2 → ∀ x ∈ WQ s c, ∃ j, j < s.out.length ∧ xk (c : Int) x (nth s.out j) = true ∧ ∀ p, p < 3 → nth s.op p = (j : Int) → nth s.ef p = true
 dst : ∀ j, j < s.out.length → zgd (nth s.out j) = true → ∃ i, i < s.out.length ∧ xk (nth s.out j).key (nth s.out j).res (nth s.out i) = true ∧ (nth s.out i).call < (nth s.out j).ret
theorem YP {key v : Int} {o : OpV} : xk key v o = true ↔ o.k = 3 ∧ o.key = key ∧ o.arg = v := by simp [xk]
theorem ZX {o : OpV} : zgd o = true ↔ o.k = 4 ∧ o.done = true ∧ o.res ≠ 0 := by simp [zgd, and_assoc]
theorem Xp.other {q : Bool} {i : Nat} {s : HS} (h : Xp q i s) {p x : Nat} (hp : p < 3) (hx : x < 3) (hne : p ≠ x) (h0 : 0 ≤ nth s.op p) (h1 : 0 ≤ nth s.op x) : (nth s.op p).toNat ≠ (nth s.op x).toNat := fun e => by
 have a := (h.opn p hp h0).2.1
 have b := (h.opn x hx h1).2.1
 rw [e, b] at a
 have := h.pr p hp
 have := h.pr x hx
 omega
theorem Vp.one {s : HS} (h : Vp s) {q : Bool} {i : Nat} (hI : Xp q i s) {c : Nat} (hc : c < 2) {x : Int} (hx : x ∈ WQ s c) : 1 ≤ x := by
 obtain ⟨j, hj, hp, _⟩ := h.src c hc x hx
 rw [YP] at hp
 have := (hI.ops j hj).w (by rw [hp.1]; rfl)
 omega

theorem Vp.open {q : Bool} {i : Nat} {s : HS} (hI : Xp q i s) (h : Vp s) (m : Int) {p : Nat} (hp : p < 3) (hop : nth s.op p < 0) : Vp (xb q m p s) := by
 have lst : nth (s.out ++ [ye q m p s]) s.out.length = ye q m p s := xd
 have old : ∀ j, j < s.out.length → nth (s.out ++ [ye q m p s]) j = nth s.out j := fun j hj => yM hj
 have eD : ∀ c : Int, ziy (s.out ++ [ye q m p s]) c = ziy s.out c := fun c => by
  unfold ziy
  rw [List.length_append, List.length_singleton, List.range_succ, List.filterMap_append]
  rw [Xx (f := fun j => zfo c (nth s.out j)) fun j hj => by rw [old j hj]]
  have : zfo c (ye q m p s) = none := by unfold zfo; rw [if_neg]; rintro ⟨h1, _⟩; rw [ZX] at h1; cases h1.2.1
  simp [lst, this]
 have eH : ∀ c : Int, WX (xb q m p s) c = WX s c := fun c => by
  unfold WX
  refine Xx fun x hx => ?_
  show XF (xb q m p s) c x = XF s c x
  by_cases hx2 : p = x
  ·subst hx2
   unfold XF
   rw [if_neg, if_neg]
   ·rintro ⟨h1, _⟩; omega
   ·rintro ⟨_, h1, _⟩
    have h1' : nth (s.ef.set p false) p = true := h1
    rw [zh (by rw [hI.e3]; exact hx)] at h1'; cases h1'
  ·have e1 : nth (xb q m p s).op x = nth s.op x := zf hx2
   have e2 : nth (xb q m p s).ef x = nth s.ef x := zf hx2
   unfold XF
   rw [e1, e2]
   by_cases h0 : 0 ≤ nth s.op x
   ·have e3 : nth (xb q m p s).out (nth s.op x).toNat = nth s.out (nth s.op x).toNat := old _ (hI.opn x hx h0).1
    rw [e3]; rfl
   ·rw [if_neg (fun hh => h0 hh.1), if_neg (fun hh => h0 hh.1)]
 have eT : ∀ c, WQ (xb q m p s) c = WQ s c := fun c => by
  show nth s.qs c ++ (ziy (s.out ++ [ye q m p s]) c ++ WX (xb q m p s) c) = _
  rw [eD, eH]; rfl
 refine ⟨fun c hc => by rw [eT]; exact h.nd c hc, fun c hc x hx => ?_, fun j hj hd => ?_⟩
 ·rw [eT] at hx
  obtain ⟨j, hj, h1, h2⟩ := h.src c hc x hx
  refine ⟨j, by show j < (s.out ++ [ye q m p s]).length; simp; omega, by show xk _ _ (nth (s.out ++ [ye q m p s]) j) = true; rw [old j hj]; exact h1, fun y hy he => ?_⟩
  have he' : nth (s.op.set p (s.out.length : Int)) y = (j : Int) := he
  show nth (s.ef.set p false) y = true
  by_cases hy2 : p = y
  ·subst hy2; rw [zh (by rw [hI.o3]; exact hy)] at he'; omega
  ·rw [zf hy2] at he' ⊢; exact h2 y hy he'
 ·have hj' : j < s.out.length + 1 := by simpa [xb] using hj
  have hd' : zgd (nth (s.out ++ [ye q m p s]) j) = true := hd
  rcases Nat.lt_or_ge j s.out.length with h1 | h1
  ·rw [old j h1] at hd'
   obtain ⟨k, hk, h2, h3⟩ := h.dst j h1 hd'
   refine ⟨k, by show k < (s.out ++ [ye q m p s]).length; simp; omega, ?_⟩
   show xk (nth (s.out ++ [ye q m p s]) j).key (nth (s.out ++ [ye q m p s]) j).res (nth (s.out ++ [ye q m p s]) k) = true ∧ (nth (s.out ++ [ye q m p s]) k).call < (nth (s.out ++ [ye q m p s]) j).ret
   rw [old j h1, old k hk]
   exact ⟨h2, h3⟩
  ·have : j = s.out.length := by omega
   subst this
   rw [lst, ZX] at hd'; cases hd'.2.1
theorem Vp.lost {q : Bool} {i : Nat} {s : HS} (hI : Xp q i s) (h : Vp s) {p : Nat} (hp : p < 3) : Vp (WL p s) := by
 have sT : ∀ c, (WQ (WL p s) c).Sublist (WQ s c) := fun c => by
  refine (List.Sublist.refl _).append ((List.Sublist.refl _).append ?_)
  refine zi3 (p := p) ?_ fun x hx hne => ?_
  ·unfold XF
   rw [if_neg]
   rintro ⟨h1, _⟩
   have h1' : 0 ≤ nth (s.op.set p (-1)) p := h1
   rw [zh (by rw [hI.o3]; exact hp)] at h1'; omega
  ·have e1 : nth (WL p s).op x = nth s.op x := zf (fun e => hne e.symm)
   unfold XF
   rw [e1]; rfl
 refine ⟨fun c hc => (sT c).nodup (h.nd c hc), fun c hc x hx => ?_, h.dst⟩
 obtain ⟨j, hj, h1, h2⟩ := h.src c hc x ((sT c).subset hx)
 refine ⟨j, hj, h1, fun y hy he => ?_⟩
 have he' : nth (s.op.set p (-1)) y = (j : Int) := he
 by_cases hy2 : p = y
 ·subst hy2; rw [zh (by rw [hI.o3]; exact hy)] at he'; omega
 ·rw [zf hy2] at he'; exact h2 y hy he'
theorem Vp.done {q : Bool} {i : Nat} {s : HS} (hI : Xp q i s) (h : Vp s) {p : Nat} (hp : p < 3) (hop : 0 ≤ nth s.op p) (hef : nth s.ef p = true) : Vp (zT p s) := by
 obtain ⟨hj0, hpj, hdj⟩ := hI.opn p hp hop
 generalize hjj : (nth s.op p).toNat = j0 at hj0 hpj hdj
 have hout : (zT p s).out = s.out.set j0 { nth s.out j0 with done := true, res := nth s.rs p, ret := (s.time : Int) } := by unfold zT; rw [hjj]
 have hlen : (zT p s).out.length = s.out.length := by rw [hout]; simp
 have same : nth (zT p s).out j0 = { nth s.out j0 with done := true, res := nth s.rs p, ret := (s.time : Int) } := by rw [hout, zh hj0]
 have oth : ∀ j, j0 ≠ j → nth (zT p s).out j = nth s.out j := fun j hj => by rw [hout, zf hj]
 have fld : ∀ j, (nth (zT p s).out j).k = (nth s.out j).k ∧ (nth (zT p s).out j).key = (nth s.out j).key ∧ (nth (zT p s).out j).arg = (nth s.out j).arg ∧ (nth (zT p s).out j).call = (nth s.out j).call := fun j => by
  by_cases e : j0 = j
  ·subst e; rw [same]; exact ⟨rfl, rfl, rfl, rfl⟩
  ·rw [oth j e]; exact ⟨rfl, rfl, rfl, rfl⟩
 have push : ∀ a b j, xk a b (nth (zT p s).out j) = xk a b (nth s.out j) := fun a b j => by
  unfold xk; obtain ⟨e1, e2, e3, _⟩ := fld j; rw [e1, e2, e3]
 have eq0 : ∀ c : Int, zfo c (nth (zT p s).out j0) = XF s c p := fun c => by
  rw [same]
  unfold zfo XF
  rw [hjj]
  by_cases hh : (nth s.out j0).k = 4 ∧ (nth s.out j0).key = c ∧ nth s.rs p ≠ 0
  ·rw [if_pos ⟨ZX.2 ⟨hh.1, rfl, hh.2.2⟩, hh.2.1⟩, if_pos ⟨hop, hef, hh⟩]
  ·rw [if_neg, if_neg]
   ·rintro ⟨_, _, h3⟩; exact hh h3
   ·rintro ⟨h1, h2⟩
    rw [ZX] at h1
    exact hh ⟨h1.1, h2, h1.2.2⟩
 have old0 : ∀ c : Int, zfo c (nth s.out j0) = none := fun c => by
  unfold zfo; rw [if_neg]; rintro ⟨h1, _⟩; rw [ZX, hdj] at h1; cases h1.2.1
 have newH : ∀ c : Int, XF (zT p s) c p = none := fun c => by
  unfold XF
  rw [if_neg]
  rintro ⟨h1, _⟩
  have h1' : 0 ≤ nth (s.op.set p (-1)) p := h1
  rw [zh (by rw [hI.o3]; exact hp)] at h1'; omega
 have othH : ∀ (c : Int) x, x < 3 → x ≠ p → XF (zT p s) c x = XF s c x := fun c x hx hne => by
  have e1 : nth (zT p s).op x = nth s.op x := zf (fun e => hne e.symm)
  unfold XF
  rw [e1]
  by_cases h0 : 0 ≤ nth s.op x
  ·have := hI.other hp hx (fun e => hne e.symm) hop h0
   rw [hjj] at this
   rw [oth _ this]; rfl
  ·rw [if_neg (fun hh => h0 hh.1), if_neg (fun hh => h0 hh.1)]
 have pT : ∀ c : Nat, (WQ (zT p s) c).Perm (WQ s c) := fun c => by
  refine List.Perm.append_left _ ?_
  unfold ziy WX
  rw [hlen]
  cases hx : XF s c p with
  | none =>
   rw [Xx (f := fun j => zfo c (nth s.out j)) (g := fun j => zfo c (nth (zT p s).out j)) fun j hj => ?_, Xx (f := XF s c) (g := XF (zT p s) c) fun x hx2 => ?_]
   ·by_cases e : x = p
    ·subst e; rw [newH, hx]
    ·exact othH c x hx2 e
   ·by_cases e : j0 = j
    ·subst e; rw [eq0, hx, old0]
    ·rw [oth j e]
  | some v =>
   have a := zfK (n := s.out.length) (p := j0) (f := fun j => zfo c (nth s.out j)) (g := fun j => zfo c (nth (zT p s).out j)) (x := v) hj0 (old0 c) (by rw [eq0, hx]) fun j hj hne => by rw [oth j (fun e => hne e.symm)]
   have b := zfK (n := 3) (p := p) (f := XF (zT p s) c) (g := XF s c) (x := v) hp (newH c) hx fun x hx2 hne => (othH c x hx2 hne).symm
   refine (a.append_right _).trans ?_
   refine List.Perm.trans ?_ (b.append_left _).symm
   rw [List.cons_append]
   exact List.perm_middle.symm
 refine ⟨fun c hc => (pT c).nodup_iff.2 (h.nd c hc), fun c hc x hx => ?_, fun j hj hd => ?_⟩
 ·obtain ⟨j, hj, h1, h2⟩ := h.src c hc x ((pT c).mem_iff.1 hx)
  refine ⟨j, by rw [hlen]; exact hj, by rw [push]; exact h1, fun y hy he => ?_⟩
  have he' : nth (s.op.set p (-1)) y = (j : Int) := he
  by_cases hy2 : p = y
  ·subst hy2; rw [zh (by rw [hI.o3]; exact hy)] at he'; omega
  ·rw [zf hy2] at he'; exact h2 y hy he'
 ·rw [hlen] at hj ⊢
  by_cases e : j0 = j
  ·subst e
   have hk := hI.ops j0 hj0
   have hkey := hk.key
   have hd2 := hd
   rw [same, ZX] at hd2
   have hm : nth s.rs p ∈ WQ s (nth s.out j0).key.toNat := by
    refine List.mem_append_right _ (List.mem_append_right _ ?_)
    refine List.mem_filterMap.2 ⟨p, by simpa using hp, ?_⟩
    unfold XF
    rw [hjj, if_pos ⟨hop, hef, hd2.1, by omega, hd2.2.2⟩]
   obtain ⟨k, hk1, hk2, _⟩ := h.src _ (by omega) _ hm
   refine ⟨k, hk1, ?_, ?_⟩
   ·rw [push, same]
    dsimp only
    rw [show (((nth s.out j0).key.toNat : Nat) : Int) = (nth s.out j0).key by omega] at hk2
    exact hk2
   ·rw [(fld k).2.2.2, same]
    exact (hI.ops k hk1).c0.2
  ·rw [oth j e] at hd ⊢
   obtain ⟨k, hk1, hk2, hk3⟩ := h.dst j hj hd
   exact ⟨k, hk1, by rw [push]; exact hk2, by rw [(fld k).2.2.2]; exact hk3⟩

theorem zgu {l : List OpV} (h : l.Pairwise fun a b => hsW a.k = true → hsW b.k = true → a.arg < b.arg) {i j : Nat} (hi : i < l.length) (hj : j < l.length) (h1 : (nth l i).k = 3) (h2 : (nth l j).k = 3) (e : (nth l i).arg = (nth l j).arg) : i = j := by
 have key : ∀ a b, a < b → b < l.length → (nth l a).k = 3 → (nth l b).k = 3 → (nth l a).arg < (nth l b).arg := fun a b hab hb ha3 hb3 => by
  have := List.pairwise_iff_getElem.1 h a b (by omega) hb hab
  rw [← zi hb, ← zi (show a < l.length by omega)] at this
  exact this (by rw [ha3]; rfl) (by rw [hb3]; rfl)
 rcases Nat.lt_trichotomy i j with h3 | h3 | h3
 ·have := key i j h3 hj h1 h2; omega
 ·exact h3
 ·have := key j i h3 hi h2 h1; omega
theorem Vp.eff {i : Nat} {s : HS} (hI : Xp true i s) (h : Vp s) {p : Nat} (hp : p < 3) (hop : 0 ≤ nth s.op p) (hef : nth s.ef p ≠ true) : Vp (Zn (nth s.out (nth s.op p).toNat) p s) := by
 obtain ⟨hj0, hpj, hdj⟩ := hI.opn p hp hop
 have hO := hI.ops _ hj0
 have hk := hO.k
 have hkey := hO.key
 have hk34 : (nth s.out (nth s.op p).toNat).k = 3 ∨ (nth s.out (nth s.op p).toNat).k = 4 := by rcases hk with e | e <;> rw [e] <;> simp [xu]
 have s1 := ZW (nth s.out (nth s.op p).toNat) p s
 have hold : ∀ c : Int, XF s c p = none := fun c => by unfold XF; rw [if_neg]; rintro ⟨_, h1, _⟩; exact hef h1
 generalize ho : nth s.out (nth s.op p).toNat = o at s1 hO hk34 hkey
 have main : ∀ (rs' : List Int) (qs' : List (List Int)), (∀ x, x ≠ p → nth rs' x = nth s.rs x) → (∀ c, c < 2 → (WQ { s with ef := s.ef.set p true, rs := rs', qs := qs' } c).Nodup ∧ ∀ x ∈ WQ { s with ef := s.ef.set p true, rs := rs', qs := qs' } c, x ∈ WQ s c ∨ (xk (c : Int) x o = true)) →
   Vp { s with ef := s.ef.set p true, rs := rs', qs := qs' } := fun rs' qs' hr ht => by
  have efx : ∀ y, y < 3 → nth s.ef y = true → nth (s.ef.set p true) y = true := fun y hy he => by
   by_cases e : p = y
   ·subst e; rw [zh (by rw [hI.e3]; exact hy)]
   ·rw [zf e]; exact he
  refine ⟨fun c hc => (ht c hc).1, fun c hc x hx => ?_, h.dst⟩
  rcases (ht c hc).2 x hx with h1 | h1
  ·obtain ⟨j, hj, h2, h3⟩ := h.src c hc x h1
   exact ⟨j, hj, h2, fun y hy he => efx y hy (h3 y hy he)⟩
  ·refine ⟨(nth s.op p).toNat, hj0, by show xk _ _ (nth s.out _) = true; rw [ho]; exact h1, fun y hy he => ?_⟩
   show nth (s.ef.set p true) y = true
   by_cases e : p = y
   ·subst e; rw [zh (by rw [hI.e3]; exact hy)]
   ·have he' : nth s.op y = ((nth s.op p).toNat : Int) := he
    exact absurd (by omega) (hI.other hp hy e hop (by omega))
 have othH : ∀ (rs' : List Int) (qs' : List (List Int)), (∀ x, x ≠ p → nth rs' x = nth s.rs x) → ∀ (c : Int) x, x < 3 → x ≠ p → XF { s with ef := s.ef.set p true, rs := rs', qs := qs' } c x = XF s c x := fun rs' qs' hr c x hx hne => by
  unfold XF
  dsimp only
  rw [zf (fun e => hne e.symm), hr x hne]
 have sameT : ∀ (rs' : List Int), (∀ x, x ≠ p → nth rs' x = nth s.rs x) → (o.k = 3 ∨ nth rs' p = 0) → ∀ (qs' : List (List Int)) (c : Int), WX { s with ef := s.ef.set p true, rs := rs', qs := qs' } c = WX s c := fun rs' hr h0 qs' c => by
  unfold WX
  refine Xx fun x hx => ?_
  by_cases e : x = p
  ·subst e
   rw [hold]
   unfold XF
   rw [if_neg]
   rintro ⟨_, _, h3, _, h5⟩
   have h3' : (nth s.out (nth s.op x).toNat).k = 4 := h3
   rw [ho] at h3'
   rcases h0 with h0 | h0
   ·omega
   ·exact h5 h0
  ·exact othH rs' qs' hr c x hx e
 have setR : ∀ v x, x ≠ p → nth (s.rs.set p v) x = nth s.rs x := fun v x hx => zf (fun e => hx e.symm)
 have setP : ∀ v, nth (s.rs.set p v) p = v := fun v => zh (by rw [hI.r3]; exact hp)
 have hkn : o.key.toNat < 2 := by omega
 unfold Zn
 rw [if_neg (by rcases hk34 with e | e <;> omega), if_neg (by rcases hk34 with e | e <;> omega)]
 rcases hk34 with e3 | e4
 ·rw [if_pos e3]
  refine main _ _ (setR 0) fun c hc => ?_
  have eT : WQ { s with ef := s.ef.set p true, rs := s.rs.set p 0, qs := s.qs.set o.key.toNat (nth s.qs o.key.toNat ++ [o.arg]) } c = nth (s.qs.set o.key.toNat (nth s.qs o.key.toNat ++ [o.arg])) c ++ (ziy s.out c ++ WX s c) := by
   unfold WQ
   dsimp only
   rw [sameT _ (setR 0) (.inl e3)]
  rw [eT]
  by_cases ec : o.key.toNat = c
  ·subst ec
   rw [zh (by rw [hI.q2]; exact hc)]
   have hnm : o.arg ∉ WQ s o.key.toNat := fun hm => by
    obtain ⟨j, hj, h1, h2⟩ := h.src _ hc _ hm
    rw [YP] at h1
    have : j = (nth s.op p).toNat := zgu (hI.rel.imp fun hab => hab.2) hj hj0 h1.1 (by rw [ho]; exact e3) (by rw [ho]; exact h1.2.2)
    exact hef (h2 p hp (by omega))
   have pm : (nth s.qs o.key.toNat ++ [o.arg] ++ (ziy s.out (o.key.toNat : Nat) ++ WX s (o.key.toNat : Nat))).Perm (o.arg :: WQ s o.key.toNat) := by
    rw [List.append_assoc]
    exact List.perm_middle
   refine ⟨pm.nodup_iff.2 (List.nodup_cons.2 ⟨hnm, h.nd _ hc⟩), fun x hx => ?_⟩
   rcases List.mem_cons.1 (pm.mem_iff.1 hx) with rfl | hx
   ·exact .inr (YP.2 ⟨e3, by omega, rfl⟩)
   ·exact .inl hx
  ·rw [zf ec]
   exact ⟨h.nd c hc, fun x hx => .inl hx⟩
 ·rw [if_neg (by omega)]
  cases hq : nth s.qs o.key.toNat with
  | nil =>
   refine main _ _ (setR 0) fun c hc => ?_
   have eT : WQ { s with ef := s.ef.set p true, rs := s.rs.set p 0 } c = WQ s c := by
    unfold WQ
    dsimp only
    rw [sameT _ (setR 0) (.inr (setP 0)) s.qs]
   rw [eT]
   exact ⟨h.nd c hc, fun x hx => .inl hx⟩
  | cons x r =>
   refine main _ _ (setR x) fun c hc => ?_
   by_cases ec : o.key.toNat = c
   ·subst ec
    have hx1 : 1 ≤ x := h.one hI hc (List.mem_append_left _ (by rw [hq]; exact List.mem_cons_self))
    have pm : (WQ { s with ef := s.ef.set p true, rs := s.rs.set p x, qs := s.qs.set o.key.toNat r } o.key.toNat).Perm (WQ s o.key.toNat) := by
     unfold WQ
     dsimp only
     rw [zh (by rw [hI.q2]; exact hc), hq]
     have b := zfK (n := 3) (p := p) (f := XF s (o.key.toNat : Nat)) (g := XF { s with ef := s.ef.set p true, rs := s.rs.set p x, qs := s.qs.set o.key.toNat r } (o.key.toNat : Nat)) (x := x) hp (hold _)
      (by unfold XF; dsimp only; rw [if_pos ⟨hop, zh (by rw [hI.e3]; exact hp), by rw [ho]; exact e4, by rw [ho]; omega, by rw [setP]; omega⟩, setP]) fun y hy hne => othH _ _ (setR x) _ y hy hne
     refine List.Perm.trans ((b.append_left _).append_left _) ?_
     rw [List.cons_append]
     refine (List.Perm.append_left _ List.perm_middle).trans ?_
     exact List.perm_middle
    exact ⟨pm.nodup_iff.2 (h.nd _ hc), fun y hy => .inl (pm.mem_iff.1 hy)⟩
   ·have eT : WQ { s with ef := s.ef.set p true, rs := s.rs.set p x, qs := s.qs.set o.key.toNat r } c = WQ s c := by
     unfold WQ
     dsimp only
     rw [zf ec]
     congr 2
     unfold WX
     refine Xx fun y hy => ?_
     by_cases e : y = p
     ·subst e
      rw [hold]
      unfold XF
      dsimp only
      rw [if_neg]
      rintro ⟨_, _, _, h4, _⟩
      rw [ho] at h4
      omega
     ·exact othH _ _ (setR x) _ y hy e
    rw [eT]
    exact ⟨h.nd c hc, fun y hy => .inl hy⟩
theorem Vp.step {i : Nat} {s : HS} (hI : Xp true i s) (h : Vp s) (x : Int) : Vp (WM true x s) := by
 unfold WM
 have hn : 0 ≤ zX x 1000000 := YF (by decide)
 have hp : (zX x 1000000 % 3).toNat < 3 := by omega
 split
 ·rename_i hop
  exact Vp.open hI h _ hp hop
 ·rename_i hop
  have h1 := hI.effM (zX x 1000000 % 3).toNat
  have he : (zW (zX x 1000000 % 3).toNat s).op = s.op := (Ym _ _).2.2.1
  have h2 : Vp (zW (zX x 1000000 % 3).toNat s) ∧ nth (zW (zX x 1000000 % 3).toNat s).ef (zX x 1000000 % 3).toNat = true := by
   unfold zW
   split
   ·rename_i h3; exact ⟨h, h3⟩
   ·rename_i h3
    exact ⟨Vp.eff hI h hp (by omega) h3, by rw [(ZW _ _ _).2.2.2.2.2.1, zh (by rw [hI.e3]; exact hp)]⟩
  unfold zf2
  split
  ·exact Vp.lost h1 h2.1 hp
  ·split
   ·exact Vp.done h1 h2.1 hp (by rw [he]; omega) h2.2
   ·exact h2.1
/-! ### the history -/
end Go.Proofs.Ytbeebjdnapkhhaa
/-
 The keys of layer 24's maps: an element of a queue.
-/
namespace Go.Proofs.Ytbeebjdnapkhhaa
set_option linter.unusedVariables false
open Go.RowKit

end Go.Proofs.Ytbeebjdnapkhhaa
/-
 The maps of layer 24 and what is looked up there, at plain values.
-/
namespace Go.Proofs.Ytbeebjdnapkhhaa
set_option linter.unusedVariables false
open Go.RowKit

end Go.Proofs.Ytbeebjdnapkhhaa
