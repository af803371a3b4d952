/-
  Some texts as one: HistQ, FmOnce2, FmOnce3, FmOnce4, OncePlain, HistQ2, OnceKey, FmOnce5.
-/
import Derived.Test.YtbeebjdnapkhhaaZG
import Derived.Test.YtbeebjdnapkhhaaZKeyTwo
/-
 The generator of histories of layer 21, at plain values, and that what it makes are histories.
-/
namespace Go.Proofs.Ytbeebjdnapkhhaa
set_option linter.unusedVariables false

structure HS where
 out : List OpV
 pr : List Int
 op : List Int
 ef : List Bool
 rs : List Int
 now : List Int
 qs : List (List Int)
 time : Nat
 fresh : Nat
 deriving Inhabited

def zdZ : HS := ⟨[], [0, 1, 2], [-1, -1, -1], [false, false, false], [0, 0, 0], [0, 0], [[], []], 0, 1⟩
def yJ (q : Bool) (m : Int) : Int := if q = true then 3 + m % 2 else m % 2
def hsW (kd : Int) : Bool := decide (kd = 1) || decide (kd = 3)
def xy (q : Bool) (m : Int) (p : Nat) (s : HS) : OpV := ⟨nth s.pr p, yJ q m, m / 2 % 2, if hsW (yJ q m) = true then (s.fresh : Int) else 0, 0, (s.time : Int), 0, false⟩
def xc (q : Bool) (m : Int) (p : Nat) (s : HS) : HS :=
 { s with out := s.out ++ [xy q m p s], op := s.op.set p (s.out.length : Int), ef := s.ef.set p false, time := s.time + 1, fresh := if hsW (yJ q m) = true then s.fresh + 1 else s.fresh }
def YH (o : OpV) (p : Nat) (s : HS) : HS :=
 if o.k = 1 then { s with ef := s.ef.set p true, rs := s.rs.set p 0, now := s.now.set o.key.toNat o.arg }
 else if o.k = 0 then { s with ef := s.ef.set p true, rs := s.rs.set p (nth s.now o.key.toNat) }
 else if o.k = 3 then { s with ef := s.ef.set p true, rs := s.rs.set p 0, qs := s.qs.set o.key.toNat (nth s.qs o.key.toNat ++ [o.arg]) }
 else match nth s.qs o.key.toNat with
  | [] => { s with ef := s.ef.set p true, rs := s.rs.set p 0 }
  | x :: r => { s with ef := s.ef.set p true, rs := s.rs.set p x, qs := s.qs.set o.key.toNat r }
def zX (p : Nat) (s : HS) : HS := if nth s.ef p = true then s else YH (nth s.out (nth s.op p).toNat) p s
def Uc (p : Nat) (s : HS) : HS := { s with pr := s.pr.set p (nth s.pr p + 3), op := s.op.set p (-1) }
def yf (p : Nat) (s : HS) : HS :=
 { s with out := s.out.set (nth s.op p).toNat { nth s.out (nth s.op p).toNat with done := true, res := nth s.rs p, ret := (s.time : Int) }, op := s.op.set p (-1), time := s.time + 1 }
def zdi (m : Int) (p : Nat) (s : HS) : HS := if m % 8 = 7 then Uc p s else if 0 < m % 3 then yf p s else s
def xE (q : Bool) (x : Int) (s : HS) : HS :=
 if nth s.op (zP x 1000000 % 3).toNat < 0 then xc q (zP x 1000000 / 3) (zP x 1000000 % 3).toNat s
 else zdi (zP x 1000000 / 3) (zP x 1000000 % 3).toNat (zX (zP x 1000000 % 3).toNat s)
def Wx (q : Bool) (l : List Int) : Nat → HS
 | 0 => zdZ
 | i + 1 => xE q (nth l i) (Wx q l i)
def Zr (t : Nat) (o : OpV) : OpV := if o.done = true then o else { o with ret := (t : Int) }
def Xw (q : Bool) (l : List Int) : List OpV := (Wx q l (min l.length 60)).out.map (Zr (Wx q l (min l.length 60)).time)

theorem Ww (o : OpV) (p : Nat) (s : HS) : (YH o p s).out = s.out ∧ (YH o p s).pr = s.pr ∧ (YH o p s).op = s.op ∧ (YH o p s).time = s.time ∧ (YH o p s).fresh = s.fresh ∧ (YH o p s).ef = s.ef.set p true ∧ (YH o p s).rs.length = s.rs.length ∧ (YH o p s).now.length = s.now.length ∧ (YH o p s).qs.length = s.qs.length := by
 unfold YH
 split
 ·simp
 ·split
  ·simp
  ·split
   ·simp
   ·split <;> simp
theorem Xx (p : Nat) (s : HS) : (zX p s).out = s.out ∧ (zX p s).pr = s.pr ∧ (zX p s).op = s.op ∧ (zX p s).time = s.time ∧ (zX p s).fresh = s.fresh ∧ (zX p s).ef.length = s.ef.length ∧ (zX p s).rs.length = s.rs.length ∧ (zX p s).now.length = s.now.length ∧ (zX p s).qs.length = s.qs.length := by
 unfold zX
 split
 ·simp
 ·obtain ⟨h1, h2, h3, h4, h5, h6, h7, h8, h9⟩ := Ww (nth s.out (nth s.op p).toNat) p s
  exact ⟨h1, h2, h3, h4, h5, by rw [h6]; simp, h7, h8, h9⟩

structure OpG (q : Bool) (s : HS) (j : Nat) (o : OpV) : Prop where
 p0 : 0 ≤ o.p
 k : o.k = yJ q 0 ∨ o.k = yJ q 1
 key : 0 ≤ o.key ∧ o.key ≤ 1
 c0 : 0 ≤ o.call ∧ o.call < s.time
 arg : 0 ≤ o.arg ∧ o.arg < s.fresh
 w : hsW o.k = true → 1 ≤ o.arg
 pp : o.p ≤ nth s.pr (o.p % 3).toNat
 d : o.done = true → o.call < o.ret ∧ o.ret < s.time
 n : o.done = false → o.res = 0 ∧ (nth s.op (o.p % 3).toNat = j ∨ o.p < nth s.pr (o.p % 3).toNat)
def zjI (a b : OpV) : Prop := zjH a b ∧ (hsW a.k = true → hsW b.k = true → a.arg < b.arg)
structure Xr (q : Bool) (i : Nat) (s : HS) : Prop where
 o3 : s.op.length = 3
 p3 : s.pr.length = 3
 e3 : s.ef.length = 3
 r3 : s.rs.length = 3
 n2 : s.now.length = 2
 q2 : s.qs.length = 2
 ti : s.time ≤ i
 li : s.out.length ≤ i
 f1 : 1 ≤ s.fresh
 fi : s.fresh ≤ i + 1
 pr : ∀ p, p < 3 → 0 ≤ nth s.pr p ∧ nth s.pr p % 3 = p ∧ nth s.pr p ≤ 3 * i + 2
 opn : ∀ p, p < 3 → 0 ≤ nth s.op p → (nth s.op p).toNat < s.out.length ∧ (nth s.out (nth s.op p).toNat).p = nth s.pr p ∧ (nth s.out (nth s.op p).toNat).done = false
 neg : ∀ p, p < 3 → -1 ≤ nth s.op p
 ops : ∀ j, j < s.out.length → OpG q s j (nth s.out j)
 rel : s.out.Pairwise zjI
theorem Xr.init (q : Bool) : Xr q 0 zdZ := by
 have h3 : ∀ p, p < 3 → p = 0 ∨ p = 1 ∨ p = 2 := fun p hp => by omega
 refine ⟨rfl, rfl, rfl, rfl, rfl, rfl, Nat.le_refl _, Nat.le_refl _, Nat.le_refl _, Nat.le_refl _, fun p hp => ?_, fun p hp h => ?_, fun p hp => ?_, fun j hj => ?_, .nil⟩
 ·rcases h3 p hp with rfl | rfl | rfl <;> decide
 ·rcases h3 p hp with rfl | rfl | rfl <;> exact absurd h (by decide)
 ·rcases h3 p hp with rfl | rfl | rfl <;> decide
 ·exact absurd hj (Nat.not_lt_zero _)

theorem zf9 (q : Bool) {m : Int} (hm : 0 ≤ m) : yJ q m = yJ q 0 ∨ yJ q m = yJ q 1 := by
 unfold yJ
 cases q <;> simp <;> omega
theorem Xr.open {q : Bool} {i : Nat} {s : HS} (h : Xr q i s) {m : Int} (hm : 0 ≤ m) {p : Nat} (hp : p < 3) (hop : nth s.op p < 0) : Xr q (i + 1) (xc q m p s) := by
 have hop1 : nth s.op p = -1 := by have := h.neg p hp; omega
 have hpr := h.pr p hp
 have lst : nth (s.out ++ [xy q m p s]) s.out.length = xy q m p s := ZG
 have old : ∀ j, j < s.out.length → nth (s.out ++ [xy q m p s]) j = nth s.out j := fun j hj => Zm hj
 have hfr : (xc q m p s).fresh = if hsW (yJ q m) = true then s.fresh + 1 else s.fresh := rfl
 have hfl : s.fresh ≤ (xc q m p s).fresh := by rw [hfr]; split <;> omega
 have hp3 : ((nth s.pr p) % 3).toNat = p := by omega
 refine ⟨by simp [xc, h.o3], h.p3, by simp [xc, h.e3], h.r3, h.n2, h.q2, Nat.succ_le_succ h.ti, by simp [xc]; exact h.li, Nat.le_trans h.f1 hfl, ?_, fun x hx => ?_, fun x hx h0 => ?_, fun x hx => ?_, fun j hj => ?_, ?_⟩
 ·rw [hfr]; have := h.fi; split <;> omega
 ·obtain ⟨a, b, c⟩ := h.pr x hx
  exact ⟨a, b, by show nth s.pr x ≤ _; omega⟩
 ·show (nth (s.op.set p (s.out.length : Int)) x).toNat < (s.out ++ [xy q m p s]).length ∧ (nth (s.out ++ [xy q m p s]) (nth (s.op.set p (s.out.length : Int)) x).toNat).p = nth s.pr x ∧ (nth (s.out ++ [xy q m p s]) (nth (s.op.set p (s.out.length : Int)) x).toNat).done = false
  by_cases hx2 : p = x
  ·subst hx2
   rw [zq (by rw [h.o3]; exact hx), Int.toNat_natCast, lst]
   exact ⟨by simp, rfl, rfl⟩
  ·have h0' : 0 ≤ nth (s.op.set p (s.out.length : Int)) x := h0
   rw [zj hx2] at h0' ⊢
   obtain ⟨a, b, c⟩ := h.opn x hx h0'
   rw [old _ a]
   exact ⟨by simp; omega, b, c⟩
 ·show -1 ≤ nth (s.op.set p (s.out.length : Int)) x
  by_cases hx2 : p = x
  ·subst hx2; rw [zq (by rw [h.o3]; exact hx)]; omega
  ·rw [zj hx2]; exact h.neg x hx
 ·show OpG q _ j (nth (s.out ++ [xy q m p s]) j)
  have hj' : j < s.out.length + 1 := by simpa [xc] using hj
  rcases Nat.lt_or_ge j s.out.length with h1 | h1
  ·rw [old j h1]
   have g := h.ops j h1
   refine ⟨g.p0, g.k, g.key, ⟨g.c0.1, by show _ < ((s.time + 1 : Nat) : Int); have := g.c0.2; omega⟩, ⟨g.arg.1, by have := g.arg.2; omega⟩, g.w, g.pp, fun hd => ⟨(g.d hd).1, by show _ < ((s.time + 1 : Nat) : Int); have := (g.d hd).2; omega⟩, fun hd => ⟨(g.n hd).1, ?_⟩⟩
   show nth (s.op.set p (s.out.length : Int)) _ = (j : Int) ∨ _
   rcases (g.n hd).2 with h2 | h2
   ·by_cases hx2 : p = ((nth s.out j).p % 3).toNat
    ·rw [← hx2, hop1] at h2; omega
    ·left; rw [zj hx2]; exact h2
   ·exact .inr h2
  ·have : j = s.out.length := by omega
   subst this
   rw [lst]
   have hf : (xy q m p s).arg = if hsW (yJ q m) = true then (s.fresh : Int) else 0 := rfl
   have hf1 := h.f1
   refine ⟨hpr.1, zf9 q hm, ⟨by show 0 ≤ m / 2 % 2; omega, by show m / 2 % 2 ≤ 1; omega⟩, ⟨by show 0 ≤ (s.time : Int); omega, by show (s.time : Int) < ((s.time + 1 : Nat) : Int); omega⟩, ⟨by rw [hf]; split <;> omega, by rw [hf, hfr]; split <;> omega⟩, fun hw => ?_, ?_, (fun hd => by cases hd), fun _ => ⟨rfl, .inl ?_⟩⟩
   ·have hw' : hsW (yJ q m) = true := hw
    rw [hf, if_pos hw']; omega
   ·show nth s.pr p ≤ nth s.pr (nth s.pr p % 3).toNat
    rw [hp3]; exact Int.le_refl _
   ·show nth (s.op.set p (s.out.length : Int)) (nth s.pr p % 3).toNat = _
    rw [hp3, zq (by rw [h.o3]; exact hp)]
 ·show (s.out ++ [xy q m p s]).Pairwise zjI
  rw [List.pairwise_append]
  refine ⟨h.rel, List.pairwise_singleton _ _, fun a ha b hb => ?_⟩
  rw [List.mem_singleton] at hb
  subst hb
  obtain ⟨j, hj, rfl⟩ := List.getElem_of_mem ha
  rw [← zm hj]
  have g := h.ops j hj
  refine ⟨⟨g.c0.2, fun hd => ⟨by show _ ≠ (s.time : Int); have := (g.d hd).2; omega, fun hd2 => by cases hd2⟩, fun he => ?_⟩, fun h1 h2 => ?_⟩
  ·have he' : (nth s.out j).p = nth s.pr p := he
   cases hd : (nth s.out j).done with
   | true => exact ⟨rfl, by show _ ≤ (s.time : Int); have := (g.d hd).2; omega⟩
   | false =>
    rcases (g.n hd).2 with h2 | h2
    ·rw [he', hp3, hop1] at h2; omega
    ·rw [he', hp3] at h2; omega
  ·have hw' : hsW (yJ q m) = true := h2
   show _ < if hsW (yJ q m) = true then (s.fresh : Int) else 0
   rw [if_pos hw']
   exact g.arg.2
theorem Xr.effM {q : Bool} {i : Nat} {s : HS} (h : Xr q i s) (p : Nat) : Xr q i (zX p s) := by
 obtain ⟨h1, h2, h3, h4, h5, h6, h7, h8, h9⟩ := Xx p s
 refine ⟨by rw [h3]; exact h.o3, by rw [h2]; exact h.p3, by rw [h6]; exact h.e3, by rw [h7]; exact h.r3, by rw [h8]; exact h.n2, by rw [h9]; exact h.q2, by rw [h4]; exact h.ti, by rw [h1]; exact h.li, by rw [h5]; exact h.f1, by rw [h5]; exact h.fi, by rw [h2]; exact h.pr, by rw [h1, h2, h3]; exact h.opn, by rw [h3]; exact h.neg, fun j hj => ?_, by rw [h1]; exact h.rel⟩
 rw [h1] at hj ⊢
 have g := h.ops j hj
 exact ⟨g.p0, g.k, g.key, by rw [h4]; exact g.c0, by rw [h5]; exact g.arg, g.w, by rw [h2]; exact g.pp, by rw [h4]; exact g.d, by rw [h2, h3]; exact g.n⟩
theorem Xr.lost {q : Bool} {i : Nat} {s : HS} (h : Xr q i s) {p : Nat} (hp : p < 3) : Xr q (i + 1) (Uc p s) := by
 have hpr := h.pr p hp
 have prx : ∀ x, x < 3 → nth s.pr x ≤ nth (s.pr.set p (nth s.pr p + 3)) x := fun x hx => by
  by_cases hx2 : p = x
  ·subst hx2; rw [zq (by rw [h.p3]; exact hx)]; omega
  ·rw [zj hx2]; exact Int.le_refl _
 refine ⟨by simp [Uc, h.o3], by simp [Uc, h.p3], h.e3, h.r3, h.n2, h.q2, Nat.le_succ_of_le h.ti, Nat.le_succ_of_le h.li, h.f1, Nat.le_succ_of_le h.fi, fun x hx => ?_, fun x hx h0 => ?_, fun x hx => ?_, fun j hj => ?_, h.rel⟩
 ·show 0 ≤ nth (s.pr.set p (nth s.pr p + 3)) x ∧ nth (s.pr.set p (nth s.pr p + 3)) x % 3 = x ∧ nth (s.pr.set p (nth s.pr p + 3)) x ≤ 3 * ((i + 1 : Nat) : Int) + 2
  by_cases hx2 : p = x
  ·subst hx2; rw [zq (by rw [h.p3]; exact hx)]; omega
  ·rw [zj hx2]
   have := h.pr x hx
   omega
 ·have h0' : 0 ≤ nth (s.op.set p (-1)) x := h0
  show (nth (s.op.set p (-1)) x).toNat < s.out.length ∧ (nth s.out (nth (s.op.set p (-1)) x).toNat).p = nth (s.pr.set p (nth s.pr p + 3)) x ∧ (nth s.out (nth (s.op.set p (-1)) x).toNat).done = false
  by_cases hx2 : p = x
  ·subst hx2; rw [zq (by rw [h.o3]; exact hx)] at h0'; omega
  ·rw [zj hx2] at h0' ⊢
   rw [zj hx2]
   exact h.opn x hx h0'
 ·show -1 ≤ nth (s.op.set p (-1)) x
  by_cases hx2 : p = x
  ·subst hx2; rw [zq (by rw [h.o3]; exact hx)]; omega
  ·rw [zj hx2]; exact h.neg x hx
 ·have g := h.ops j hj
  have hx3 : ((nth s.out j).p % 3).toNat < 3 := by omega
  refine ⟨g.p0, g.k, g.key, g.c0, g.arg, g.w, Int.le_trans g.pp (prx _ hx3), g.d, fun hd => ⟨(g.n hd).1, ?_⟩⟩
  show nth (s.op.set p (-1)) ((nth s.out j).p % 3).toNat = (j : Int) ∨ (nth s.out j).p < nth (s.pr.set p (nth s.pr p + 3)) ((nth s.out j).p % 3).toNat
  by_cases hx2 : p = ((nth s.out j).p % 3).toNat
  ·right
   rw [← hx2, zq (by rw [h.p3]; exact hp)]
   have := g.pp
   rw [← hx2] at this
   omega
  ·rw [zj hx2, zj hx2]
   exact (g.n hd).2
theorem Xr.done {q : Bool} {i : Nat} {s : HS} (h : Xr q i s) {p : Nat} (hp : p < 3) (hop : 0 ≤ nth s.op p) : Xr q (i + 1) (yf p s) := by
 obtain ⟨hj0, hpj, hdj⟩ := h.opn p hp hop
 have hpr := h.pr p hp
 generalize hjj : (nth s.op p).toNat = j0 at hj0 hpj hdj
 have hout : (yf p s).out = s.out.set j0 { nth s.out j0 with done := true, res := nth s.rs p, ret := (s.time : Int) } := by unfold yf; rw [hjj]
 have hlen : (yf p s).out.length = s.out.length := by rw [hout]; simp
 have same : nth (yf p s).out j0 = { nth s.out j0 with done := true, res := nth s.rs p, ret := (s.time : Int) } := by rw [hout, zq hj0]
 have oth : ∀ j, j0 ≠ j → nth (yf p s).out j = nth s.out j := fun j hj => by rw [hout, zj hj]
 have gj := h.ops j0 hj0
 have hp3 : ((nth s.out j0).p % 3).toNat = p := by rw [hpj]; omega
 refine ⟨by simp [yf, h.o3], h.p3, h.e3, h.r3, h.n2, h.q2, Nat.succ_le_succ h.ti, by rw [hlen]; exact Nat.le_succ_of_le h.li, h.f1, Nat.le_succ_of_le h.fi, fun x hx => ?_, fun x hx h0 => ?_, fun x hx => ?_, fun j hj => ?_, ?_⟩
 ·obtain ⟨a, b, c⟩ := h.pr x hx
  exact ⟨a, b, by show nth s.pr x ≤ _; omega⟩
 ·have h0' : 0 ≤ nth (s.op.set p (-1)) x := h0
  rw [hlen]
  show (nth (s.op.set p (-1)) x).toNat < s.out.length ∧ (nth (yf p s).out (nth (s.op.set p (-1)) x).toNat).p = nth s.pr x ∧ (nth (yf p s).out (nth (s.op.set p (-1)) x).toNat).done = false
  by_cases hx2 : p = x
  ·subst hx2; rw [zq (by rw [h.o3]; exact hx)] at h0'; omega
  ·rw [zj hx2] at h0' ⊢
   obtain ⟨a, b, c⟩ := h.opn x hx h0'
   have hne : j0 ≠ (nth s.op x).toNat := fun e => by
    rw [← e, hpj] at b
    have := h.pr x hx
    omega
   rw [oth _ hne]
   exact ⟨a, b, c⟩
 ·show -1 ≤ nth (s.op.set p (-1)) x
  by_cases hx2 : p = x
  ·subst hx2; rw [zq (by rw [h.o3]; exact hx)]; omega
  ·rw [zj hx2]; exact h.neg x hx
 ·rw [hlen] at hj
  by_cases hjx : j0 = j
  ·subst hjx
   rw [same]
   refine ⟨gj.p0, gj.k, gj.key, ⟨gj.c0.1, by show _ < ((s.time + 1 : Nat) : Int); have := gj.c0.2; dsimp only; omega⟩, gj.arg, gj.w, gj.pp, fun _ => ⟨gj.c0.2, by show (s.time : Int) < ((s.time + 1 : Nat) : Int); omega⟩, fun hd => by cases hd⟩
  ·rw [oth j hjx]
   have g := h.ops j hj
   refine ⟨g.p0, g.k, g.key, ⟨g.c0.1, by show _ < ((s.time + 1 : Nat) : Int); have := g.c0.2; omega⟩, g.arg, g.w, g.pp, fun hd => ⟨(g.d hd).1, by show _ < ((s.time + 1 : Nat) : Int); have := (g.d hd).2; omega⟩, fun hd => ⟨(g.n hd).1, ?_⟩⟩
   show nth (s.op.set p (-1)) ((nth s.out j).p % 3).toNat = (j : Int) ∨ _
   rcases (g.n hd).2 with h2 | h2
   ·by_cases hx2 : p = ((nth s.out j).p % 3).toNat
    ·rw [← hx2] at h2
     rw [h2] at hjj
     simp at hjj
     exact absurd hjj.symm hjx
    ·left; rw [zj hx2]; exact h2
   ·exact .inr h2
 ·rw [List.pairwise_iff_getElem]
  intro a b ha hb hab
  rw [hlen] at ha hb
  rw [← zm (by rw [hlen]; exact ha), ← zm (by rw [hlen]; exact hb)]
  have hp0 := List.pairwise_iff_getElem.1 h.rel a b ha hb hab
  rw [← zm ha, ← zm hb] at hp0
  by_cases ea : j0 = a
  ·subst ea
   rw [same, oth b (by omega)]
   have gb := h.ops b hb
   have := gb.c0
   refine ⟨⟨hp0.1.1, fun _ => ⟨by show (s.time : Int) ≠ _; omega, fun hd => by show _ ≠ (s.time : Int); have := (gb.d hd).2; omega⟩, fun he => ?_⟩, hp0.2⟩
   have := (hp0.1.2.2 he).1
   rw [hdj] at this; cases this
  ·by_cases eb : j0 = b
   ·subst eb
    rw [same, oth a (by omega)]
    have ga := h.ops a ha
    exact ⟨⟨hp0.1.1, fun hd => ⟨(hp0.1.2.1 hd).1, fun _ => by show (s.time : Int) ≠ _; have := (ga.d hd).2; omega⟩, hp0.1.2.2⟩, hp0.2⟩
   ·rw [oth a ea, oth b eb]
    exact hp0
theorem Xr.later {q : Bool} {i : Nat} {s : HS} (h : Xr q i s) : Xr q (i + 1) s :=
 ⟨h.o3, h.p3, h.e3, h.r3, h.n2, h.q2, Nat.le_succ_of_le h.ti, Nat.le_succ_of_le h.li, h.f1, Nat.le_succ_of_le h.fi, fun p hp => by have := h.pr p hp; omega, h.opn, h.neg, h.ops, h.rel⟩
theorem Xr.step {q : Bool} {i : Nat} {s : HS} (h : Xr q i s) (x : Int) : Xr q (i + 1) (xE q x s) := by
 unfold xE
 have hn : 0 ≤ zP x 1000000 := xN (by decide)
 have hp : (zP x 1000000 % 3).toNat < 3 := by omega
 split
 ·rename_i hop
  exact h.open (by omega) hp hop
 ·rename_i hop
  have h1 := h.effM (zP x 1000000 % 3).toNat
  have he : (zX (zP x 1000000 % 3).toNat s).op = s.op := (Xx _ _).2.2.1
  unfold zdi
  split
  ·exact h1.lost hp
  ·split
   ·exact h1.done hp (by rw [he]; omega)
   ·exact h1.later
theorem Yi (q : Bool) (l : List Int) : ∀ i, Xr q i (Wx q l i)
 | 0 => Xr.init q
 | i + 1 => (Yi q l i).step _

theorem zjK {o : OpV} {q : Bool} (h : o.k = yJ q 0 ∨ o.k = yJ q 1) : (q = true ∧ (o.k = 3 ∨ o.k = 4)) ∨ (q = false ∧ (o.k = 0 ∨ o.k = 1)) := by
 cases q <;> simp [yJ] at h <;> simp <;> omega
structure OpH (q : Bool) (o : OpV) : Prop where
 k : (q = true ∧ (o.k = 3 ∨ o.k = 4)) ∨ (q = false ∧ (o.k = 0 ∨ o.k = 1))
 key : 0 ≤ o.key ∧ o.key ≤ 1
 arg : 0 ≤ o.arg ∧ o.arg ≤ 60
 w : hsW o.k = true → 1 ≤ o.arg
 p : 0 ≤ o.p ∧ o.p ≤ 200
 call : 0 ≤ o.call ∧ o.call ≤ 60
 ret : 0 ≤ o.ret ∧ o.ret ≤ 60
theorem ZQ (t : Nat) (o : OpV) : (Zr t o).p = o.p ∧ (Zr t o).k = o.k ∧ (Zr t o).key = o.key ∧ (Zr t o).arg = o.arg ∧ (Zr t o).res = o.res ∧ (Zr t o).call = o.call ∧ (Zr t o).done = o.done ∧ (o.done = true → (Zr t o).ret = o.ret) ∧ (o.done = false → (Zr t o).ret = t) := by
 unfold Zr
 cases h : o.done <;> simp [h]
theorem zce (q : Bool) (l : List Int) : (Xw q l).length ≤ 60 := by
 have := (Yi q l (min l.length 60)).li
 unfold Xw
 rw [List.length_map]
 omega
theorem zdY (q : Bool) (l : List Int) : ∀ o ∈ Xw q l, OpH q o := fun o ho => by
 obtain ⟨x, hx, rfl⟩ := List.mem_map.1 ho
 obtain ⟨j, hj, rfl⟩ := List.getElem_of_mem hx
 have h := Yi q l (min l.length 60)
 generalize Wx q l (min l.length 60) = s at h hj
 have g := h.ops j hj
 rw [zm hj] at g
 obtain ⟨e1, e2, e3, e4, e5, e6, e7, e8, e9⟩ := ZQ s.time s.out[j]
 have hp3 := h.pr (s.out[j].p % 3).toNat (by omega)
 have ht := h.ti
 have hf := h.fi
 refine ⟨by rw [e2]; exact zjK g.k, by rw [e3]; exact g.key, by rw [e4]; have := g.arg; omega, by rw [e2, e4]; exact g.w, by rw [e1]; have := g.pp; have := g.p0; omega, by rw [e6]; have := g.c0; omega, ?_⟩
 cases hd : s.out[j].done with
 | true => rw [e8 hd]; have := g.d hd; have := g.c0; omega
 | false => rw [e9 hd]; omega
theorem zhF (q : Bool) (l : List Int) : WFH (Xw q l) := by
 have h := Yi q l (min l.length 60)
 refine ⟨Nat.le_trans (zce q l) (by decide), fun o ho => ?_, ?_⟩
 ·have hO := zdY q l o ho
  obtain ⟨x, hx, rfl⟩ := List.mem_map.1 ho
  obtain ⟨j, hj, rfl⟩ := List.getElem_of_mem hx
  generalize Wx q l (min l.length 60) = s at h hj hO ⊢
  have g := h.ops j hj
  rw [zm hj] at g
  obtain ⟨e1, e2, e3, e4, e5, e6, e7, e8, e9⟩ := ZQ s.time s.out[j]
  have hk := hO.k
  simp only [wfB, Bool.and_eq_true, Bool.or_eq_true, decide_eq_true_eq]
  refine ⟨⟨⟨⟨⟨hO.p.1, by omega⟩, by omega⟩, hO.call.1⟩, ?_⟩, ?_⟩
  ·rw [e6]
   cases hd : s.out[j].done with
   | true => rw [e8 hd]; exact (g.d hd).1
   | false => rw [e9 hd]; exact g.c0.2
  ·rw [e7, e5]
   cases hd : s.out[j].done with
   | true => exact .inl rfl
   | false => exact .inr (g.n hd).1
 ·unfold Xw
  generalize Wx q l (min l.length 60) = s at h ⊢
  rw [List.pairwise_map]
  refine h.rel.imp fun {a b} hab => ?_
  obtain ⟨a1, a2, a3, a4, a5, a6, a7, a8, a9⟩ := ZQ s.time a
  obtain ⟨b1, b2, b3, b4, b5, b6, b7, b8, b9⟩ := ZQ s.time b
  obtain ⟨⟨h1, h2, h3⟩, _⟩ := hab
  refine ⟨by rw [a6, b6]; exact h1, fun hd => ?_, fun he => ?_⟩
  ·rw [a7] at hd
   rw [a8 hd, b6, b7]
   exact ⟨(h2 hd).1, fun hd2 => by rw [b8 hd2]; exact (h2 hd).2 hd2⟩
  ·rw [a1, b1] at he
   obtain ⟨h4, h5⟩ := h3 he
   rw [a7, a8 h4, b6]
   exact ⟨h4, h5⟩
end Go.Proofs.Ytbeebjdnapkhhaa
/-
 Functions of layer 24, at plain values: Push, First, Domain.
-/
namespace Go.Proofs.Ytbeebjdnapkhhaa
set_option linter.unusedVariables false
open Go.RowKit

def xh (key v : Int) (o : OpV) : Bool := decide (o.k = 3) && (decide (o.key = key) && decide (o.arg = v))
end Go.Proofs.Ytbeebjdnapkhhaa
/-
 The domain of layer 24, at plain values.
-/
namespace Go.Proofs.Ytbeebjdnapkhhaa
set_option linter.unusedVariables false
open Go.RowKit

def zkk (l : List OpV) (i : Nat) : Prop := ((nth l i).k = 4 ∨ ((nth l i).k = 3 ∧ (nth l i).arg ≠ 0 ∧ ∀ j, j < i → xh (nth l i).key (nth l i).arg (nth l j) = false))
def zjz (l : List OpV) : Prop := ∀ i, i < l.length → zkk l i
instance (l : List OpV) (i : Nat) : Decidable (zkk l i) := by unfold zkk; infer_instance
instance (l : List OpV) : Decidable (zjz l) := by unfold zjz; infer_instance

end Go.Proofs.Ytbeebjdnapkhhaa
/-
 simproofref24.Missing, at plain values.
-/
namespace Go.Proofs.Ytbeebjdnapkhhaa
set_option linter.unusedVariables false
open Go.RowKit

end Go.Proofs.Ytbeebjdnapkhhaa
/-
 The verdicts of layer 24, at plain values, and their laws.
-/
namespace Go.Proofs.Ytbeebjdnapkhhaa
set_option linter.unusedVariables false
open Go.RowKit

structure zks where
 chk : Int
 cls : Int
 arg : Int
 order : List Int
 deriving DecidableEq, Inhabited
def zks.fv (v : zks) : List FV := [.int .i64 v.chk, .int .i64 v.cls, .int .i64 v.arg, .list 1 (v.order.map zG), .nil]
/-! ### what the indices mean -/
/-! ### the domain, told by pairs -/
/-! ### class and argument do not speak of indices -/
/-! ### the missing -/
/-! ### a history that holds delivers once -/
end Go.Proofs.Ytbeebjdnapkhhaa
/-
 Histories of queues that take effect between call and return deliver every element once, after its push was called.
-/
namespace Go.Proofs.Ytbeebjdnapkhhaa
set_option linter.unusedVariables false

/-! ### lists made from a range -/
theorem Xv {n : Nat} {f g : Nat → Option Int} (h : ∀ q, q < n → g q = f q) : (List.range n).filterMap g = (List.range n).filterMap f := by
 induction n with
 | zero => rfl
 | succ n ih =>
  rw [List.range_succ, List.filterMap_append, List.filterMap_append, ih fun q hq => h q (by omega)]
  simp [List.filterMap_cons, h n (by omega)]
theorem zfP {n p : Nat} {f g : Nat → Option Int} {x : Int} (hp : p < n) (hf : f p = none) (hg : g p = some x) (ho : ∀ q, q < n → q ≠ p → g q = f q) : ((List.range n).filterMap g).Perm (x :: (List.range n).filterMap f) := by
 induction n with
 | zero => omega
 | succ n ih =>
  rw [List.range_succ, List.filterMap_append, List.filterMap_append]
  by_cases e : p = n
  ·subst e
   rw [Xv (f := f) (g := g) fun q hq => ho q (by omega) (by omega)]
   simp [hf, hg]
  ·have := ih (by omega) fun q hq hne => ho q (by omega) hne
   simp only [List.filterMap_cons, List.filterMap_nil, ho n (by omega) (fun e' => e e'.symm)]
   exact this.append_right _
theorem ziX {n p : Nat} {f g : Nat → Option Int} (hg : g p = none) (ho : ∀ q, q < n → q ≠ p → g q = f q) : ((List.range n).filterMap g).Sublist ((List.range n).filterMap f) := by
 induction n with
 | zero => exact List.Sublist.refl _
 | succ n ih =>
  rw [List.range_succ, List.filterMap_append, List.filterMap_append]
  refine (ih fun q hq hne => ho q (by omega) hne).append ?_
  by_cases e : n = p
  ·subst e; simp [hg]
  ·rw [show List.filterMap g [n] = List.filterMap f [n] by simp [List.filterMap_cons, ho n (by omega) e]]
   exact List.Sublist.refl _

/-! ### where the elements are -/
def zfu (c : Int) (o : OpV) : Option Int := if zgh o = true ∧ o.key = c then some o.res else none
def XF (s : HS) (c : Int) (p : Nat) : Option Int :=
 if 0 ≤ nth s.op p ∧ nth s.ef p = true ∧ (nth s.out (nth s.op p).toNat).k = 4 ∧ (nth s.out (nth s.op p).toNat).key = c ∧ nth s.rs p ≠ 0 then some (nth s.rs p) else none
def ziw (l : List OpV) (c : Int) : List Int := (List.range l.length).filterMap fun j => zfu c (nth l j)
def WZ (s : HS) (c : Int) : List Int := (List.range 3).filterMap (XF s c)
def WS (s : HS) (c : Nat) : List Int := nth s.qs c ++ (ziw s.out c ++ WZ s c)

structure WV (s : HS) : Prop where
 nd : ∀ c, c < 2 → (WS s c).Nodup
 src : ∀ c, c < 2 → ∀ x ∈ WS s c, ∃ j, j < s.out.length ∧ xh (c : Int) x (nth s.out j) = true ∧ ∀ p, p < 3 → nth s.op p = (j : Int) → nth s.ef p = true
 dst : ∀ j, j < s.out.length → zgh (nth s.out j) = true → ∃ i, i < s.out.length ∧ xh (nth s.out j).key (nth s.out j).res (nth s.out i) = true ∧ (nth s.out i).call < (nth s.out j).ret
theorem WV.init : WV zdZ := by
 have h2 : ∀ c, c < 2 → c = 0 ∨ c = 1 := fun c hc => by omega
 refine ⟨fun c hc => ?_, fun c hc x hx => ?_, fun j hj => absurd hj (Nat.not_lt_zero _)⟩
 ·rcases h2 c hc with rfl | rfl <;> decide
 ·rcases h2 c hc with rfl | rfl <;> exact absurd hx (by show ¬ x ∈ ([] : List Int); simp)

theorem YK {key v : Int} {o : OpV} : xh key v o = true ↔ o.k = 3 ∧ o.key = key ∧ o.arg = v := by simp [xh]
theorem ZR {o : OpV} : zgh o = true ↔ o.k = 4 ∧ o.done = true ∧ o.res ≠ 0 := by simp [zgh, and_assoc]
theorem Xr.other {q : Bool} {i : Nat} {s : HS} (h : Xr q i s) {p x : Nat} (hp : p < 3) (hx : x < 3) (hne : p ≠ x) (h0 : 0 ≤ nth s.op p) (h1 : 0 ≤ nth s.op x) : (nth s.op p).toNat ≠ (nth s.op x).toNat := fun e => by
 have a := (h.opn p hp h0).2.1
 have b := (h.opn x hx h1).2.1
 rw [e, b] at a
 have := h.pr p hp
 have := h.pr x hx
 omega
theorem WV.one {s : HS} (h : WV s) {q : Bool} {i : Nat} (hI : Xr q i s) {c : Nat} (hc : c < 2) {x : Int} (hx : x ∈ WS s c) : 1 ≤ x := by
 obtain ⟨j, hj, hp, _⟩ := h.src c hc x hx
 rw [YK] at hp
 have := (hI.ops j hj).w (by rw [hp.1]; rfl)
 omega

theorem WV.open {q : Bool} {i : Nat} {s : HS} (hI : Xr q i s) (h : WV s) (m : Int) {p : Nat} (hp : p < 3) (hop : nth s.op p < 0) : WV (xc q m p s) := by
 have lst : nth (s.out ++ [xy q m p s]) s.out.length = xy q m p s := ZG
 have old : ∀ j, j < s.out.length → nth (s.out ++ [xy q m p s]) j = nth s.out j := fun j hj => Zm hj
 have eD : ∀ c : Int, ziw (s.out ++ [xy q m p s]) c = ziw s.out c := fun c => by
  unfold ziw
  rw [List.length_append, List.length_singleton, List.range_succ, List.filterMap_append]
  rw [Xv (f := fun j => zfu c (nth s.out j)) fun j hj => by rw [old j hj]]
  have : zfu c (xy q m p s) = none := by unfold zfu; rw [if_neg]; rintro ⟨h1, _⟩; rw [ZR] at h1; cases h1.2.1
  simp [lst, this]
 have eH : ∀ c : Int, WZ (xc q m p s) c = WZ s c := fun c => by
  unfold WZ
  refine Xv fun x hx => ?_
  show XF (xc q m p s) c x = XF s c x
  by_cases hx2 : p = x
  ·subst hx2
   unfold XF
   rw [if_neg, if_neg]
   ·rintro ⟨h1, _⟩; omega
   ·rintro ⟨_, h1, _⟩
    have h1' : nth (s.ef.set p false) p = true := h1
    rw [zq (by rw [hI.e3]; exact hx)] at h1'; cases h1'
  ·have e1 : nth (xc q m p s).op x = nth s.op x := zj hx2
   have e2 : nth (xc q m p s).ef x = nth s.ef x := zj hx2
   unfold XF
   rw [e1, e2]
   by_cases h0 : 0 ≤ nth s.op x
   ·have e3 : nth (xc q m p s).out (nth s.op x).toNat = nth s.out (nth s.op x).toNat := old _ (hI.opn x hx h0).1
    rw [e3]; rfl
   ·rw [if_neg (fun hh => h0 hh.1), if_neg (fun hh => h0 hh.1)]
 have eT : ∀ c, WS (xc q m p s) c = WS s c := fun c => by
  show nth s.qs c ++ (ziw (s.out ++ [xy q m p s]) c ++ WZ (xc q m p s) c) = _
  rw [eD, eH]; rfl
 refine ⟨fun c hc => by rw [eT]; exact h.nd c hc, fun c hc x hx => ?_, fun j hj hd => ?_⟩
 ·rw [eT] at hx
  obtain ⟨j, hj, h1, h2⟩ := h.src c hc x hx
  refine ⟨j, by show j < (s.out ++ [xy q m p s]).length; simp; omega, by show xh _ _ (nth (s.out ++ [xy q m p s]) j) = true; rw [old j hj]; exact h1, fun y hy he => ?_⟩
  have he' : nth (s.op.set p (s.out.length : Int)) y = (j : Int) := he
  show nth (s.ef.set p false) y = true
  by_cases hy2 : p = y
  ·subst hy2; rw [zq (by rw [hI.o3]; exact hy)] at he'; omega
  ·rw [zj hy2] at he' ⊢; exact h2 y hy he'
 ·have hj' : j < s.out.length + 1 := by simpa [xc] using hj
  have hd' : zgh (nth (s.out ++ [xy q m p s]) j) = true := hd
  rcases Nat.lt_or_ge j s.out.length with h1 | h1
  ·rw [old j h1] at hd'
   obtain ⟨k, hk, h2, h3⟩ := h.dst j h1 hd'
   refine ⟨k, by show k < (s.out ++ [xy q m p s]).length; simp; omega, ?_⟩
   show xh (nth (s.out ++ [xy q m p s]) j).key (nth (s.out ++ [xy q m p s]) j).res (nth (s.out ++ [xy q m p s]) k) = true ∧ (nth (s.out ++ [xy q m p s]) k).call < (nth (s.out ++ [xy q m p s]) j).ret
   rw [old j h1, old k hk]
   exact ⟨h2, h3⟩
  ·have : j = s.out.length := by omega
   subst this
   rw [lst, ZR] at hd'; cases hd'.2.1
theorem WV.lost {q : Bool} {i : Nat} {s : HS} (hI : Xr q i s) (h : WV s) {p : Nat} (hp : p < 3) : WV (Uc p s) := by
 have sT : ∀ c, (WS (Uc p s) c).Sublist (WS s c) := fun c => by
  refine (List.Sublist.refl _).append ((List.Sublist.refl _).append ?_)
  refine ziX (p := p) ?_ fun x hx hne => ?_
  ·unfold XF
   rw [if_neg]
   rintro ⟨h1, _⟩
   have h1' : 0 ≤ nth (s.op.set p (-1)) p := h1
   rw [zq (by rw [hI.o3]; exact hp)] at h1'; omega
  ·have e1 : nth (Uc p s).op x = nth s.op x := zj (fun e => hne e.symm)
   unfold XF
   rw [e1]; rfl
 refine ⟨fun c hc => (sT c).nodup (h.nd c hc), fun c hc x hx => ?_, h.dst⟩
 obtain ⟨j, hj, h1, h2⟩ := h.src c hc x ((sT c).subset hx)
 refine ⟨j, hj, h1, fun y hy he => ?_⟩
 have he' : nth (s.op.set p (-1)) y = (j : Int) := he
 by_cases hy2 : p = y
 ·subst hy2; rw [zq (by rw [hI.o3]; exact hy)] at he'; omega
 ·rw [zj hy2] at he'; exact h2 y hy he'
theorem WV.done {q : Bool} {i : Nat} {s : HS} (hI : Xr q i s) (h : WV s) {p : Nat} (hp : p < 3) (hop : 0 ≤ nth s.op p) (hef : nth s.ef p = true) : WV (yf p s) := by
 obtain ⟨hj0, hpj, hdj⟩ := hI.opn p hp hop
 generalize hjj : (nth s.op p).toNat = j0 at hj0 hpj hdj
 have hout : (yf p s).out = s.out.set j0 { nth s.out j0 with done := true, res := nth s.rs p, ret := (s.time : Int) } := by unfold yf; rw [hjj]
 have hlen : (yf p s).out.length = s.out.length := by rw [hout]; simp
 have same : nth (yf p s).out j0 = { nth s.out j0 with done := true, res := nth s.rs p, ret := (s.time : Int) } := by rw [hout, zq hj0]
 have oth : ∀ j, j0 ≠ j → nth (yf p s).out j = nth s.out j := fun j hj => by rw [hout, zj hj]
 have fld : ∀ j, (nth (yf p s).out j).k = (nth s.out j).k ∧ (nth (yf p s).out j).key = (nth s.out j).key ∧ (nth (yf p s).out j).arg = (nth s.out j).arg ∧ (nth (yf p s).out j).call = (nth s.out j).call := fun j => by
  by_cases e : j0 = j
  ·subst e; rw [same]; exact ⟨rfl, rfl, rfl, rfl⟩
  ·rw [oth j e]; exact ⟨rfl, rfl, rfl, rfl⟩
 have push : ∀ a b j, xh a b (nth (yf p s).out j) = xh a b (nth s.out j) := fun a b j => by
  unfold xh; obtain ⟨e1, e2, e3, _⟩ := fld j; rw [e1, e2, e3]
 have eq0 : ∀ c : Int, zfu c (nth (yf p s).out j0) = XF s c p := fun c => by
  rw [same]
  unfold zfu XF
  rw [hjj]
  by_cases hh : (nth s.out j0).k = 4 ∧ (nth s.out j0).key = c ∧ nth s.rs p ≠ 0
  ·rw [if_pos ⟨ZR.2 ⟨hh.1, rfl, hh.2.2⟩, hh.2.1⟩, if_pos ⟨hop, hef, hh⟩]
  ·rw [if_neg, if_neg]
   ·rintro ⟨_, _, h3⟩; exact hh h3
   ·rintro ⟨h1, h2⟩
    rw [ZR] at h1
    exact hh ⟨h1.1, h2, h1.2.2⟩
 have old0 : ∀ c : Int, zfu c (nth s.out j0) = none := fun c => by
  unfold zfu; rw [if_neg]; rintro ⟨h1, _⟩; rw [ZR, hdj] at h1; cases h1.2.1
 have newH : ∀ c : Int, XF (yf p s) c p = none := fun c => by
  unfold XF
  rw [if_neg]
  rintro ⟨h1, _⟩
  have h1' : 0 ≤ nth (s.op.set p (-1)) p := h1
  rw [zq (by rw [hI.o3]; exact hp)] at h1'; omega
 have othH : ∀ (c : Int) x, x < 3 → x ≠ p → XF (yf p s) c x = XF s c x := fun c x hx hne => by
  have e1 : nth (yf p s).op x = nth s.op x := zj (fun e => hne e.symm)
  unfold XF
  rw [e1]
  by_cases h0 : 0 ≤ nth s.op x
  ·have := hI.other hp hx (fun e => hne e.symm) hop h0
   rw [hjj] at this
   rw [oth _ this]; rfl
  ·rw [if_neg (fun hh => h0 hh.1), if_neg (fun hh => h0 hh.1)]
 have pT : ∀ c : Nat, (WS (yf p s) c).Perm (WS s c) := fun c => by
  refine List.Perm.append_left _ ?_
  unfold ziw WZ
  rw [hlen]
  cases hx : XF s c p with
  | none =>
   rw [Xv (f := fun j => zfu c (nth s.out j)) (g := fun j => zfu c (nth (yf p s).out j)) fun j hj => ?_, Xv (f := XF s c) (g := XF (yf p s) c) fun x hx2 => ?_]
   ·by_cases e : x = p
    ·subst e; rw [newH, hx]
    ·exact othH c x hx2 e
   ·by_cases e : j0 = j
    ·subst e; rw [eq0, hx, old0]
    ·rw [oth j e]
  | some v =>
   have a := zfP (n := s.out.length) (p := j0) (f := fun j => zfu c (nth s.out j)) (g := fun j => zfu c (nth (yf p s).out j)) (x := v) hj0 (old0 c) (by rw [eq0, hx]) fun j hj hne => by rw [oth j (fun e => hne e.symm)]
   have b := zfP (n := 3) (p := p) (f := XF (yf p s) c) (g := XF s c) (x := v) hp (newH c) hx fun x hx2 hne => (othH c x hx2 hne).symm
   refine (a.append_right _).trans ?_
   refine List.Perm.trans ?_ (b.append_left _).symm
   rw [List.cons_append]
   exact List.perm_middle.symm
 refine ⟨fun c hc => (pT c).nodup_iff.2 (h.nd c hc), fun c hc x hx => ?_, fun j hj hd => ?_⟩
 ·obtain ⟨j, hj, h1, h2⟩ := h.src c hc x ((pT c).mem_iff.1 hx)
  refine ⟨j, by rw [hlen]; exact hj, by rw [push]; exact h1, fun y hy he => ?_⟩
  have he' : nth (s.op.set p (-1)) y = (j : Int) := he
  by_cases hy2 : p = y
  ·subst hy2; rw [zq (by rw [hI.o3]; exact hy)] at he'; omega
  ·rw [zj hy2] at he'; exact h2 y hy he'
 ·rw [hlen] at hj ⊢
  by_cases e : j0 = j
  ·subst e
   have hk := hI.ops j0 hj0
   have hkey := hk.key
   have hd2 := hd
   rw [same, ZR] at hd2
   have hm : nth s.rs p ∈ WS s (nth s.out j0).key.toNat := by
    refine List.mem_append_right _ (List.mem_append_right _ ?_)
    refine List.mem_filterMap.2 ⟨p, by simpa using hp, ?_⟩
    unfold XF
    rw [hjj, if_pos ⟨hop, hef, hd2.1, by omega, hd2.2.2⟩]
   obtain ⟨k, hk1, hk2, _⟩ := h.src _ (by omega) _ hm
   refine ⟨k, hk1, ?_, ?_⟩
   ·rw [push, same]
    dsimp only
    rw [show (((nth s.out j0).key.toNat : Nat) : Int) = (nth s.out j0).key by omega] at hk2
    exact hk2
   ·rw [(fld k).2.2.2, same]
    exact (hI.ops k hk1).c0.2
  ·rw [oth j e] at hd ⊢
   obtain ⟨k, hk1, hk2, hk3⟩ := h.dst j hj hd
   exact ⟨k, hk1, by rw [push]; exact hk2, by rw [(fld k).2.2.2]; exact hk3⟩

theorem zgy {l : List OpV} (h : l.Pairwise fun a b => hsW a.k = true → hsW b.k = true → a.arg < b.arg) {i j : Nat} (hi : i < l.length) (hj : j < l.length) (h1 : (nth l i).k = 3) (h2 : (nth l j).k = 3) (e : (nth l i).arg = (nth l j).arg) : i = j := by
 have key : ∀ a b, a < b → b < l.length → (nth l a).k = 3 → (nth l b).k = 3 → (nth l a).arg < (nth l b).arg := fun a b hab hb ha3 hb3 => by
  have := List.pairwise_iff_getElem.1 h a b (by omega) hb hab
  rw [← zm hb, ← zm (show a < l.length by omega)] at this
  exact this (by rw [ha3]; rfl) (by rw [hb3]; rfl)
 rcases Nat.lt_trichotomy i j with h3 | h3 | h3
 ·have := key i j h3 hj h1 h2; omega
 ·exact h3
 ·have := key j i h3 hi h2 h1; omega
theorem WV.eff {i : Nat} {s : HS} (hI : Xr true i s) (h : WV s) {p : Nat} (hp : p < 3) (hop : 0 ≤ nth s.op p) (hef : nth s.ef p ≠ true) : WV (YH (nth s.out (nth s.op p).toNat) p s) := by
 obtain ⟨hj0, hpj, hdj⟩ := hI.opn p hp hop
 have hO := hI.ops _ hj0
 have hk := hO.k
 have hkey := hO.key
 have hk34 : (nth s.out (nth s.op p).toNat).k = 3 ∨ (nth s.out (nth s.op p).toNat).k = 4 := by rcases hk with e | e <;> rw [e] <;> simp [yJ]
 have s1 := Ww (nth s.out (nth s.op p).toNat) p s
 have hold : ∀ c : Int, XF s c p = none := fun c => by unfold XF; rw [if_neg]; rintro ⟨_, h1, _⟩; exact hef h1
 generalize ho : nth s.out (nth s.op p).toNat = o at s1 hO hk34 hkey
 have main : ∀ (rs' : List Int) (qs' : List (List Int)), (∀ x, x ≠ p → nth rs' x = nth s.rs x) → (∀ c, c < 2 → (WS { s with ef := s.ef.set p true, rs := rs', qs := qs' } c).Nodup ∧ ∀ x ∈ WS { s with ef := s.ef.set p true, rs := rs', qs := qs' } c, x ∈ WS s c ∨ (xh (c : Int) x o = true)) →
   WV { s with ef := s.ef.set p true, rs := rs', qs := qs' } := fun rs' qs' hr ht => by
  have efx : ∀ y, y < 3 → nth s.ef y = true → nth (s.ef.set p true) y = true := fun y hy he => by
   by_cases e : p = y
   ·subst e; rw [zq (by rw [hI.e3]; exact hy)]
   ·rw [zj e]; exact he
  refine ⟨fun c hc => (ht c hc).1, fun c hc x hx => ?_, h.dst⟩
  rcases (ht c hc).2 x hx with h1 | h1
  ·obtain ⟨j, hj, h2, h3⟩ := h.src c hc x h1
   exact ⟨j, hj, h2, fun y hy he => efx y hy (h3 y hy he)⟩
  ·refine ⟨(nth s.op p).toNat, hj0, by show xh _ _ (nth s.out _) = true; rw [ho]; exact h1, fun y hy he => ?_⟩
   show nth (s.ef.set p true) y = true
   by_cases e : p = y
   ·subst e; rw [zq (by rw [hI.e3]; exact hy)]
   ·have he' : nth s.op y = ((nth s.op p).toNat : Int) := he
    exact absurd (by omega) (hI.other hp hy e hop (by omega))
 have othH : ∀ (rs' : List Int) (qs' : List (List Int)), (∀ x, x ≠ p → nth rs' x = nth s.rs x) → ∀ (c : Int) x, x < 3 → x ≠ p → XF { s with ef := s.ef.set p true, rs := rs', qs := qs' } c x = XF s c x := fun rs' qs' hr c x hx hne => by
  unfold XF
  dsimp only
  rw [zj (fun e => hne e.symm), hr x hne]
 have sameT : ∀ (rs' : List Int), (∀ x, x ≠ p → nth rs' x = nth s.rs x) → (o.k = 3 ∨ nth rs' p = 0) → ∀ (qs' : List (List Int)) (c : Int), WZ { s with ef := s.ef.set p true, rs := rs', qs := qs' } c = WZ s c := fun rs' hr h0 qs' c => by
  unfold WZ
  refine Xv fun x hx => ?_
  by_cases e : x = p
  ·subst e
   rw [hold]
   unfold XF
   rw [if_neg]
   rintro ⟨_, _, h3, _, h5⟩
   have h3' : (nth s.out (nth s.op x).toNat).k = 4 := h3
   rw [ho] at h3'
   rcases h0 with h0 | h0
   ·omega
   ·exact h5 h0
  ·exact othH rs' qs' hr c x hx e
 have setR : ∀ v x, x ≠ p → nth (s.rs.set p v) x = nth s.rs x := fun v x hx => zj (fun e => hx e.symm)
 have setP : ∀ v, nth (s.rs.set p v) p = v := fun v => zq (by rw [hI.r3]; exact hp)
 have hkn : o.key.toNat < 2 := by omega
 unfold YH
 rw [if_neg (by rcases hk34 with e | e <;> omega), if_neg (by rcases hk34 with e | e <;> omega)]
 rcases hk34 with e3 | e4
 ·rw [if_pos e3]
  refine main _ _ (setR 0) fun c hc => ?_
  have eT : WS { s with ef := s.ef.set p true, rs := s.rs.set p 0, qs := s.qs.set o.key.toNat (nth s.qs o.key.toNat ++ [o.arg]) } c = nth (s.qs.set o.key.toNat (nth s.qs o.key.toNat ++ [o.arg])) c ++ (ziw s.out c ++ WZ s c) := by
   unfold WS
   dsimp only
   rw [sameT _ (setR 0) (.inl e3)]
  rw [eT]
  by_cases ec : o.key.toNat = c
  ·subst ec
   rw [zq (by rw [hI.q2]; exact hc)]
   have hnm : o.arg ∉ WS s o.key.toNat := fun hm => by
    obtain ⟨j, hj, h1, h2⟩ := h.src _ hc _ hm
    rw [YK] at h1
    have : j = (nth s.op p).toNat := zgy (hI.rel.imp fun hab => hab.2) hj hj0 h1.1 (by rw [ho]; exact e3) (by rw [ho]; exact h1.2.2)
    exact hef (h2 p hp (by omega))
   have pm : (nth s.qs o.key.toNat ++ [o.arg] ++ (ziw s.out (o.key.toNat : Nat) ++ WZ s (o.key.toNat : Nat))).Perm (o.arg :: WS s o.key.toNat) := by
    rw [List.append_assoc]
    exact List.perm_middle
   refine ⟨pm.nodup_iff.2 (List.nodup_cons.2 ⟨hnm, h.nd _ hc⟩), fun x hx => ?_⟩
   rcases List.mem_cons.1 (pm.mem_iff.1 hx) with rfl | hx
   ·exact .inr (YK.2 ⟨e3, by omega, rfl⟩)
   ·exact .inl hx
  ·rw [zj ec]
   exact ⟨h.nd c hc, fun x hx => .inl hx⟩
 ·rw [if_neg (by omega)]
  cases hq : nth s.qs o.key.toNat with
  | nil =>
   refine main _ _ (setR 0) fun c hc => ?_
   have eT : WS { s with ef := s.ef.set p true, rs := s.rs.set p 0 } c = WS s c := by
    unfold WS
    dsimp only
    rw [sameT _ (setR 0) (.inr (setP 0)) s.qs]
   rw [eT]
   exact ⟨h.nd c hc, fun x hx => .inl hx⟩
  | cons x r =>
   refine main _ _ (setR x) fun c hc => ?_
   by_cases ec : o.key.toNat = c
   ·subst ec
    have hx1 : 1 ≤ x := h.one hI hc (List.mem_append_left _ (by rw [hq]; exact List.mem_cons_self))
    have pm : (WS { s with ef := s.ef.set p true, rs := s.rs.set p x, qs := s.qs.set o.key.toNat r } o.key.toNat).Perm (WS s o.key.toNat) := by
     unfold WS
     dsimp only
     rw [zq (by rw [hI.q2]; exact hc), hq]
     have b := zfP (n := 3) (p := p) (f := XF s (o.key.toNat : Nat)) (g := XF { s with ef := s.ef.set p true, rs := s.rs.set p x, qs := s.qs.set o.key.toNat r } (o.key.toNat : Nat)) (x := x) hp (hold _)
      (by unfold XF; dsimp only; rw [if_pos ⟨hop, zq (by rw [hI.e3]; exact hp), by rw [ho]; exact e4, by rw [ho]; omega, by rw [setP]; omega⟩, setP]) fun y hy hne => othH _ _ (setR x) _ y hy hne
     refine List.Perm.trans ((b.append_left _).append_left _) ?_
     rw [List.cons_append]
     refine (List.Perm.append_left _ List.perm_middle).trans ?_
     exact List.perm_middle
    exact ⟨pm.nodup_iff.2 (h.nd _ hc), fun y hy => .inl (pm.mem_iff.1 hy)⟩
   ·have eT : WS { s with ef := s.ef.set p true, rs := s.rs.set p x, qs := s.qs.set o.key.toNat r } c = WS s c := by
     unfold WS
     dsimp only
     rw [zj ec]
     congr 2
     unfold WZ
     refine Xv fun y hy => ?_
     by_cases e : y = p
     ·subst e
      rw [hold]
      unfold XF
      dsimp only
      rw [if_neg]
      rintro ⟨_, _, _, h4, _⟩
      rw [ho] at h4
      omega
     ·exact othH _ _ (setR x) _ y hy e
    rw [eT]
    exact ⟨h.nd c hc, fun y hy => .inl hy⟩
theorem WV.step {i : Nat} {s : HS} (hI : Xr true i s) (h : WV s) (x : Int) : WV (xE true x s) := by
 unfold xE
 have hn : 0 ≤ zP x 1000000 := xN (by decide)
 have hp : (zP x 1000000 % 3).toNat < 3 := by omega
 split
 ·rename_i hop
  exact WV.open hI h _ hp hop
 ·rename_i hop
  have h1 := hI.effM (zP x 1000000 % 3).toNat
  have he : (zX (zP x 1000000 % 3).toNat s).op = s.op := (Xx _ _).2.2.1
  have h2 : WV (zX (zP x 1000000 % 3).toNat s) ∧ nth (zX (zP x 1000000 % 3).toNat s).ef (zP x 1000000 % 3).toNat = true := by
   unfold zX
   split
   ·rename_i h3; exact ⟨h, h3⟩
   ·rename_i h3
    exact ⟨WV.eff hI h hp (by omega) h3, by rw [(Ww _ _ _).2.2.2.2.2.1, zq (by rw [hI.e3]; exact hp)]⟩
  unfold zdi
  split
  ·exact WV.lost h1 h2.1 hp
  ·split
   ·exact WV.done h1 h2.1 hp (by rw [he]; omega) h2.2
   ·exact h2.1
/-! ### the history -/
end Go.Proofs.Ytbeebjdnapkhhaa
/-
 The keys of layer 24's maps: an element of a queue.
-/
namespace Go.Proofs.Ytbeebjdnapkhhaa
set_option linter.unusedVariables false
open Go.RowKit

end Go.Proofs.Ytbeebjdnapkhhaa
/-
 The maps of layer 24 and what is looked up there, at plain values.
-/
namespace Go.Proofs.Ytbeebjdnapkhhaa
set_option linter.unusedVariables false
open Go.RowKit

end Go.Proofs.Ytbeebjdnapkhhaa
