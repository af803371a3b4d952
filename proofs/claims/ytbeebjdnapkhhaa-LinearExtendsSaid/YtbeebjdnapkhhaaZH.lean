/-
  Some texts as one: HistQ, FmOnce2, FmOnce3, FmOnce4, OncePlain, HistQ2, OnceKey, FmOnce5.
-/
import Derived.Test.YtbeebjdnapkhhaaZG
import Derived.Test.YtbeebjdnapkhhaaZKeyTwo
/-
 The generator of histories of layer 21, at plain values, and that what it makes are histories.
-/
namespace Go.Proofs.Ytbeebjdnapkhhaa
set_option linter.unusedVariables false

structure HS where
 out : List OpV
 pr : List Int
 op : List Int
 ef : List Bool
 rs : List Int
 now : List Int
 qs : List (List Int)
 time : Nat
 fresh : Nat
 deriving Inhabited

def zcF : HS := ⟨[], [0, 1, 2], [-1, -1, -1], [false, false, false], [0, 0, 0], [0, 0], [[], []], 0, 1⟩
def yM (q : Bool) (m : Int) : Int := if q = true then 3 + m % 2 else m % 2
def hsW (kd : Int) : Bool := decide (kd = 1) || decide (kd = 3)
def yt (q : Bool) (m : Int) (p : Nat) (s : HS) : OpV := ⟨nth s.pr p, yM q m, m / 2 % 2, if hsW (yM q m) = true then (s.fresh : Int) else 0, 0, (s.time : Int), 0, false⟩
def yQ (q : Bool) (m : Int) (p : Nat) (s : HS) : HS :=
 { s with out := s.out ++ [yt q m p s], op := s.op.set p (s.out.length : Int), ef := s.ef.set p false, time := s.time + 1, fresh := if hsW (yM q m) = true then s.fresh + 1 else s.fresh }
def xX (o : OpV) (p : Nat) (s : HS) : HS :=
 if o.k = 1 then { s with ef := s.ef.set p true, rs := s.rs.set p 0, now := s.now.set o.key.toNat o.arg }
 else if o.k = 0 then { s with ef := s.ef.set p true, rs := s.rs.set p (nth s.now o.key.toNat) }
 else if o.k = 3 then { s with ef := s.ef.set p true, rs := s.rs.set p 0, qs := s.qs.set o.key.toNat (nth s.qs o.key.toNat ++ [o.arg]) }
 else match nth s.qs o.key.toNat with
  | [] => { s with ef := s.ef.set p true, rs := s.rs.set p 0 }
  | x :: r => { s with ef := s.ef.set p true, rs := s.rs.set p x, qs := s.qs.set o.key.toNat r }
def zT (p : Nat) (s : HS) : HS := if nth s.ef p = true then s else xX (nth s.out (nth s.op p).toNat) p s
def WY (p : Nat) (s : HS) : HS := { s with pr := s.pr.set p (nth s.pr p + 3), op := s.op.set p (-1) }
def yb (p : Nat) (s : HS) : HS :=
 { s with out := s.out.set (nth s.op p).toNat { nth s.out (nth s.op p).toNat with done := true, res := nth s.rs p, ret := (s.time : Int) }, op := s.op.set p (-1), time := s.time + 1 }
def zcE (m : Int) (p : Nat) (s : HS) : HS := if m % 8 = 7 then WY p s else if 0 < m % 3 then yb p s else s
def xy (q : Bool) (x : Int) (s : HS) : HS :=
 if nth s.op (zL x 1000000 % 3).toNat < 0 then yQ q (zL x 1000000 / 3) (zL x 1000000 % 3).toNat s
 else zcE (zL x 1000000 / 3) (zL x 1000000 % 3).toNat (zT (zL x 1000000 % 3).toNat s)
def WF (q : Bool) (l : List Int) : Nat → HS
 | 0 => zcF
 | i + 1 => xy q (nth l i) (WF q l i)
def Zu (t : Nat) (o : OpV) : OpV := if o.done = true then o else { o with ret := (t : Int) }
def XF (q : Bool) (l : List Int) : List OpV := (WF q l (min l.length 60)).out.map (Zu (WF q l (min l.length 60)).time)

theorem ZP (o : OpV) (p : Nat) (s : HS) : (xX o p s).out = s.out ∧ (xX o p s).pr = s.pr ∧ (xX o p s).op = s.op ∧ (xX o p s).time = s.time ∧ (xX o p s).fresh = s.fresh ∧ (xX o p s).ef = s.ef.set p true ∧ (xX o p s).rs.length = s.rs.length ∧ (xX o p s).now.length = s.now.length ∧ (xX o p s).qs.length = s.qs.length := by
 unfold xX
 split
 ·simp
 ·split
  ·simp
  ·split
   ·simp
   ·split <;> simp
theorem Yn (p : Nat) (s : HS) : (zT p s).out = s.out ∧ (zT p s).pr = s.pr ∧ (zT p s).op = s.op ∧ (zT p s).time = s.time ∧ (zT p s).fresh = s.fresh ∧ (zT p s).ef.length = s.ef.length ∧ (zT p s).rs.length = s.rs.length ∧ (zT p s).now.length = s.now.length ∧ (zT p s).qs.length = s.qs.length := by
 unfold zT
 split
 ·simp
 ·obtain ⟨h1, h2, h3, h4, h5, h6, h7, h8, h9⟩ := ZP (nth s.out (nth s.op p).toNat) p s
  exact ⟨h1, h2, h3, h4, h5, by rw [h6]; simp, h7, h8, h9⟩

structure OpG (q : Bool) (s : HS) (j : Nat) (o : OpV) : Prop where
 p0 : 0 ≤ o.p
 k : o.k = yM q 0 ∨ o.k = yM q 1
 key : 0 ≤ o.key ∧ o.key ≤ 1
 c0 : 0 ≤ o.call ∧ o.call < s.time
 arg : 0 ≤ o.arg ∧ o.arg < s.fresh
 w : hsW o.k = true → 1 ≤ o.arg
 pp : o.p ≤ nth s.pr (o.p % 3).toNat
 d : o.done = true → o.call < o.ret ∧ o.ret < s.time
 n : o.done = false → o.res = 0 ∧ (nth s.op (o.p % 3).toNat = j ∨ o.p < nth s.pr (o.p % 3).toNat)
def zko (a b : OpV) : Prop := zkn a b ∧ (hsW a.k = true → hsW b.k = true → a.arg < b.arg)
structure YB (q : Bool) (i : Nat) (s : HS) : Prop where
 o3 : s.op.length = 3
 p3 : s.pr.length = 3
 e3 : s.ef.length = 3
 r3 : s.rs.length = 3
 n2 : s.now.length = 2
 q2 : s.qs.length = 2
 ti : s.time ≤ i
 li : s.out.length ≤ i
 f1 : 1 ≤ s.fresh
 fi : s.fresh ≤ i + 1
 pr : ∀ p, p < 3 → 0 ≤ nth s.pr p ∧ nth s.pr p % 3 = p ∧ nth s.pr p ≤ 3 * i + 2
 opn : ∀ p, p < 3 → 0 ≤ nth s.op p → (nth s.op p).toNat < s.out.length ∧ (nth s.out (nth s.op p).toNat).p = nth s.pr p ∧ (nth s.out (nth s.op p).toNat).done = false
 neg : ∀ p, p < 3 → -1 ≤ nth s.op p
 ops : ∀ j, j < s.out.length → OpG q s j (nth s.out j)
 rel : s.out.Pairwise zko
theorem YB.init (q : Bool) : YB q 0 zcF := by
 have h3 : ∀ p, p < 3 → p = 0 ∨ p = 1 ∨ p = 2 := fun p hp => by omega
 refine ⟨rfl, rfl, rfl, rfl, rfl, rfl, Nat.le_refl _, Nat.le_refl _, Nat.le_refl _, Nat.le_refl _, fun p hp => ?_, fun p hp h => ?_, fun p hp => ?_, fun j hj => ?_, .nil⟩
 ·rcases h3 p hp with rfl | rfl | rfl <;> decide
 ·rcases h3 p hp with rfl | rfl | rfl <;> exact absurd h (by decide)
 ·rcases h3 p hp with rfl | rfl | rfl <;> decide
 ·exact absurd hj (Nat.not_lt_zero _)

theorem zgD (q : Bool) {m : Int} (hm : 0 ≤ m) : yM q m = yM q 0 ∨ yM q m = yM q 1 := by
 unfold yM
 cases q <;> simp <;> omega
theorem YB.open {q : Bool} {i : Nat} {s : HS} (h : YB q i s) {m : Int} (hm : 0 ≤ m) {p : Nat} (hp : p < 3) (hop : nth s.op p < 0) : YB q (i + 1) (yQ q m p s) := by
 have hop1 : nth s.op p = -1 := by have := h.neg p hp; omega
 have hpr := h.pr p hp
 have lst : nth (s.out ++ [yt q m p s]) s.out.length = yt q m p s := xn
 have old : ∀ j, j < s.out.length → nth (s.out ++ [yt q m p s]) j = nth s.out j := fun j hj => yS hj
 have hfr : (yQ q m p s).fresh = if hsW (yM q m) = true then s.fresh + 1 else s.fresh := rfl
 have hfl : s.fresh ≤ (yQ q m p s).fresh := by rw [hfr]; split <;> omega
 have hp3 : ((nth s.pr p) % 3).toNat = p := by omega
 refine ⟨by simp [yQ, h.o3], h.p3, by simp [yQ, h.e3], h.r3, h.n2, h.q2, Nat.succ_le_succ h.ti, by simp [yQ]; exact h.li, Nat.le_trans h.f1 hfl, ?_, fun x hx => ?_, fun x hx h0 => ?_, fun x hx => ?_, fun j hj => ?_, ?_⟩
 ·rw [hfr]; have := h.fi; split <;> omega
 ·obtain ⟨a, b, c⟩ := h.pr x hx
  exact ⟨a, b, by show nth s.pr x ≤ _; omega⟩
 ·show (nth (s.op.set p (s.out.length : Int)) x).toNat < (s.out ++ [yt q m p s]).length ∧ (nth (s.out ++ [yt q m p s]) (nth (s.op.set p (s.out.length : Int)) x).toNat).p = nth s.pr x ∧ (nth (s.out ++ [yt q m p s]) (nth (s.op.set p (s.out.length : Int)) x).toNat).done = false
  by_cases hx2 : p = x
  ·subst hx2
   rw [zh (by rw [h.o3]; exact hx), Int.toNat_natCast, lst]
   exact ⟨by simp, rfl, rfl⟩
  ·have h0' : 0 ≤ nth (s.op.set p (s.out.length : Int)) x := h0
   rw [zg hx2] at h0' ⊢
   obtain ⟨a, b, c⟩ := h.opn x hx h0'
   rw [old _ a]
   exact ⟨by simp; omega, b, c⟩
 ·show -1 ≤ nth (s.op.set p (s.out.length : Int)) x
  by_cases hx2 : p = x
  ·subst hx2; rw [zh (by rw [h.o3]; exact hx)]; omega
  ·rw [zg hx2]; exact h.neg x hx
 ·show OpG q _ j (nth (s.out ++ [yt q m p s]) j)
  have hj' : j < s.out.length + 1 := by simpa [yQ] using hj
  rcases Nat.lt_or_ge j s.out.length with h1 | h1
  ·rw [old j h1]
   have g := h.ops j h1
   refine ⟨g.p0, g.k, g.key, ⟨g.c0.1, by show _ < ((s.time + 1 : Nat) : Int); have := g.c0.2; omega⟩, ⟨g.arg.1, by have := g.arg.2; omega⟩, g.w, g.pp, fun hd => ⟨(g.d hd).1, by show _ < ((s.time + 1 : Nat) : Int); have := (g.d hd).2; omega⟩, fun hd => ⟨(g.n hd).1, ?_⟩⟩
   show nth (s.op.set p (s.out.length : Int)) _ = (j : Int) ∨ _
   rcases (g.n hd).2 with h2 | h2
   ·by_cases hx2 : p = ((nth s.out j).p % 3).toNat
    ·rw [← hx2, hop1] at h2; omega
    ·left; rw [zg hx2]; exact h2
   ·exact .inr h2
  ·have : j = s.out.length := by omega
   subst this
   rw [lst]
   have hf : (yt q m p s).arg = if hsW (yM q m) = true then (s.fresh : Int) else 0 := rfl
   have hf1 := h.f1
   refine ⟨hpr.1, zgD q hm, ⟨by show 0 ≤ m / 2 % 2; omega, by show m / 2 % 2 ≤ 1; omega⟩, ⟨by show 0 ≤ (s.time : Int); omega, by show (s.time : Int) < ((s.time + 1 : Nat) : Int); omega⟩, ⟨by rw [hf]; split <;> omega, by rw [hf, hfr]; split <;> omega⟩, fun hw => ?_, ?_, (fun hd => by cases hd), fun _ => ⟨rfl, .inl ?_⟩⟩
   ·have hw' : hsW (yM q m) = true := hw
    rw [hf, if_pos hw']; omega
   ·show nth s.pr p ≤ nth s.pr (nth s.pr p % 3).toNat
    rw [hp3]; exact Int.le_refl _
   ·show nth (s.op.set p (s.out.length : Int)) (nth s.pr p % 3).toNat = _
    rw [hp3, zh (by rw [h.o3]; exact hp)]
 ·show (s.out ++ [yt q m p s]).Pairwise zko
  rw [List.pairwise_append]
  refine ⟨h.rel, List.pairwise_singleton _ _, fun a ha b hb => ?_⟩
  rw [List.mem_singleton] at hb
  subst hb
  obtain ⟨j, hj, rfl⟩ := List.getElem_of_mem ha
  rw [← zi hj]
  have g := h.ops j hj
  refine ⟨⟨g.c0.2, fun hd => ⟨by show _ ≠ (s.time : Int); have := (g.d hd).2; omega, fun hd2 => by cases hd2⟩, fun he => ?_⟩, fun h1 h2 => ?_⟩
  ·have he' : (nth s.out j).p = nth s.pr p := he
   cases hd : (nth s.out j).done with
   | true => exact ⟨rfl, by show _ ≤ (s.time : Int); have := (g.d hd).2; omega⟩
   | false =>
    rcases (g.n hd).2 with h2 | h2
    ·rw [he', hp3, hop1] at h2; omega
    ·rw [he', hp3] at h2; omega
  ·have hw' : hsW (yM q m) = true := h2
   show _ < if hsW (yM q m) = true then (s.fresh : Int) else 0
   rw [if_pos hw']
   exact g.arg.2
theorem YB.effM {q : Bool} {i : Nat} {s : HS} (h : YB q i s) (p : Nat) : YB q i (zT p s) := by
 obtain ⟨h1, h2, h3, h4, h5, h6, h7, h8, h9⟩ := Yn p s
 refine ⟨by rw [h3]; exact h.o3, by rw [h2]; exact h.p3, by rw [h6]; exact h.e3, by rw [h7]; exact h.r3, by rw [h8]; exact h.n2, by rw [h9]; exact h.q2, by rw [h4]; exact h.ti, by rw [h1]; exact h.li, by rw [h5]; exact h.f1, by rw [h5]; exact h.fi, by rw [h2]; exact h.pr, by rw [h1, h2, h3]; exact h.opn, by rw [h3]; exact h.neg, fun j hj => ?_, by rw [h1]; exact h.rel⟩
 rw [h1] at hj ⊢
 have g := h.ops j hj
 exact ⟨g.p0, g.k, g.key, by rw [h4]; exact g.c0, by rw [h5]; exact g.arg, g.w, by rw [h2]; exact g.pp, by rw [h4]; exact g.d, by rw [h2, h3]; exact g.n⟩
theorem YB.lost {q : Bool} {i : Nat} {s : HS} (h : YB q i s) {p : Nat} (hp : p < 3) : YB q (i + 1) (WY p s) := by
 have hpr := h.pr p hp
 have prx : ∀ x, x < 3 → nth s.pr x ≤ nth (s.pr.set p (nth s.pr p + 3)) x := fun x hx => by
  by_cases hx2 : p = x
  ·subst hx2; rw [zh (by rw [h.p3]; exact hx)]; omega
  ·rw [zg hx2]; exact Int.le_refl _
 refine ⟨by simp [WY, h.o3], by simp [WY, h.p3], h.e3, h.r3, h.n2, h.q2, Nat.le_succ_of_le h.ti, Nat.le_succ_of_le h.li, h.f1, Nat.le_succ_of_le h.fi, fun x hx => ?_, fun x hx h0 => ?_, fun x hx => ?_, fun j hj => ?_, h.rel⟩
 ·show 0 ≤ nth (s.pr.set p (nth s.pr p + 3)) x ∧ nth (s.pr.set p (nth s.pr p + 3)) x % 3 = x ∧ nth (s.pr.set p (nth s.pr p + 3)) x ≤ 3 * ((i + 1 : Nat) : Int) + 2
  by_cases hx2 : p = x
  ·subst hx2; rw [zh (by rw [h.p3]; exact hx)]; omega
  ·rw [zg hx2]
   have := h.pr x hx
   omega
 ·have h0' : 0 ≤ nth (s.op.set p (-1)) x := h0
  show (nth (s.op.set p (-1)) x).toNat < s.out.length ∧ (nth s.out (nth (s.op.set p (-1)) x).toNat).p = nth (s.pr.set p (nth s.pr p + 3)) x ∧ (nth s.out (nth (s.op.set p (-1)) x).toNat).done = false
  by_cases hx2 : p = x
  ·subst hx2; rw [zh (by rw [h.o3]; exact hx)] at h0'; omega
  ·rw [zg hx2] at h0' ⊢
   rw [zg hx2]
   exact h.opn x hx h0'
 ·show -1 ≤ nth (s.op.set p (-1)) x
  by_cases hx2 : p = x
  ·subst hx2; rw [zh (by rw [h.o3]; exact hx)]; omega
  ·rw [zg hx2]; exact h.neg x hx
 ·have g := h.ops j hj
  have hx3 : ((nth s.out j).p % 3).toNat < 3 := by omega
  refine ⟨g.p0, g.k, g.key, g.c0, g.arg, g.w, Int.le_trans g.pp (prx _ hx3), g.d, fun hd => ⟨(g.n hd).1, ?_⟩⟩
  show nth (s.op.set p (-1)) ((nth s.out j).p % 3).toNat = (j : Int) ∨ (nth s.out j).p < nth (s.pr.set p (nth s.pr p + 3)) ((nth s.out j).p % 3).toNat
  by_cases hx2 : p = ((nth s.out j).p % 3).toNat
  ·right
   rw [← hx2, zh (by rw [h.p3]; exact hp)]
   have := g.pp
   rw [← hx2] at this
   omega
  ·rw [zg hx2, zg hx2]
   exact (g.n hd).2
theorem YB.done {q : Bool} {i : Nat} {s : HS} (h : YB q i s) {p : Nat} (hp : p < 3) (hop : 0 ≤ nth s.op p) : YB q (i + 1) (yb p s) := by
 obtain ⟨hj0, hpj, hdj⟩ := h.opn p hp hop
 have hpr := h.pr p hp
 generalize hjj : (nth s.op p).toNat = j0 at hj0 hpj hdj
 have hout : (yb p s).out = s.out.set j0 { nth s.out j0 with done := true, res := nth s.rs p, ret := (s.time : Int) } := by unfold yb; rw [hjj]
 have hlen : (yb p s).out.length = s.out.length := by rw [hout]; simp
 have same : nth (yb p s).out j0 = { nth s.out j0 with done := true, res := nth s.rs p, ret := (s.time : Int) } := by rw [hout, zh hj0]
 have oth : ∀ j, j0 ≠ j → nth (yb p s).out j = nth s.out j := fun j hj => by rw [hout, zg hj]
 have gj := h.ops j0 hj0
 have hp3 : ((nth s.out j0).p % 3).toNat = p := by rw [hpj]; omega
 refine ⟨by simp [yb, h.o3], h.p3, h.e3, h.r3, h.n2, h.q2, Nat.succ_le_succ h.ti, by rw [hlen]; exact Nat.le_succ_of_le h.li, h.f1, Nat.le_succ_of_le h.fi, fun x hx => ?_, fun x hx h0 => ?_, fun x hx => ?_, fun j hj => ?_, ?_⟩
 ·obtain ⟨a, b, c⟩ := h.pr x hx
  exact ⟨a, b, by show nth s.pr x ≤ _; omega⟩
 ·have h0' : 0 ≤ nth (s.op.set p (-1)) x := h0
  rw [hlen]
  show (nth (s.op.set p (-1)) x).toNat < s.out.length ∧ (nth (yb p s).out (nth (s.op.set p (-1)) x).toNat).p = nth s.pr x ∧ (nth (yb p s).out (nth (s.op.set p (-1)) x).toNat).done = false
  by_cases hx2 : p = x
  ·subst hx2; rw [zh (by rw [h.o3]; exact hx)] at h0'; omega
  ·rw [zg hx2] at h0' ⊢
   obtain ⟨a, b, c⟩ := h.opn x hx h0'
   have hne : j0 ≠ (nth s.op x).toNat := fun e => by
    rw [← e, hpj] at b
    have := h.pr x hx
    omega
   rw [oth _ hne]
   exact ⟨a, b, c⟩
 ·show -1 ≤ nth (s.op.set p (-1)) x
  by_cases hx2 : p = x
  ·subst hx2; rw [zh (by rw [h.o3]; exact hx)]; omega
  ·rw [zg hx2]; exact h.neg x hx
 ·rw [hlen] at hj
  by_cases hjx : j0 = j
  ·subst hjx
   rw [same]
   refine ⟨gj.p0, gj.k, gj.key, ⟨gj.c0.1, by show _ < ((s.time + 1 : Nat) : Int); have := gj.c0.2; dsimp only; omega⟩, gj.arg, gj.w, gj.pp, fun _ => ⟨gj.c0.2, by show (s.time : Int) < ((s.time + 1 : Nat) : Int); omega⟩, fun hd => by cases hd⟩
  ·rw [oth j hjx]
   have g := h.ops j hj
   refine ⟨g.p0, g.k, g.key, ⟨g.c0.1, by show _ < ((s.time + 1 : Nat) : Int); have := g.c0.2; omega⟩, g.arg, g.w, g.pp, fun hd => ⟨(g.d hd).1, by show _ < ((s.time + 1 : Nat) : Int); have := (g.d hd).2; omega⟩, fun hd => ⟨(g.n hd).1, ?_⟩⟩
   show nth (s.op.set p (-1)) ((nth s.out j).p % 3).toNat = (j : Int) ∨ _
   rcases (g.n hd).2 with h2 | h2
   ·by_cases hx2 : p = ((nth s.out j).p % 3).toNat
    ·rw [← hx2] at h2
     rw [h2] at hjj
     simp at hjj
     exact absurd hjj.symm hjx
    ·left; rw [zg hx2]; exact h2
   ·exact .inr h2
 ·rw [List.pairwise_iff_getElem]
  intro a b ha hb hab
  rw [hlen] at ha hb
  rw [← zi (by rw [hlen]; exact ha), ← zi (by rw [hlen]; exact hb)]
  have hp0 := List.pairwise_iff_getElem.1 h.rel a b ha hb hab
  rw [← zi ha, ← zi hb] at hp0
  by_cases ea : j0 = a
  ·subst ea
   rw [same, oth b (by omega)]
   have gb := h.ops b hb
   have := gb.c0
   refine ⟨⟨hp0.1.1, fun _ => ⟨by show (s.time : Int) ≠ _; omega, fun hd => by show _ ≠ (s.time : Int); have := (gb.d hd).2; omega⟩, fun he => ?_⟩, hp0.2⟩
   have := (hp0.1.2.2 he).1
   rw [hdj] at this; cases this
  ·by_cases eb : j0 = b
   ·subst eb
    rw [same, oth a (by omega)]
    have ga := h.ops a ha
    exact ⟨⟨hp0.1.1, fun hd => ⟨(hp0.1.2.1 hd).1, fun _ => by show (s.time : Int) ≠ _; have := (ga.d hd).2; omega⟩, hp0.1.2.2⟩, hp0.2⟩
   ·rw [oth a ea, oth b eb]
    exact hp0
theorem YB.later {q : Bool} {i : Nat} {s : HS} (h : YB q i s) : YB q (i + 1) s :=
 ⟨h.o3, h.p3, h.e3, h.r3, h.n2, h.q2, Nat.le_succ_of_le h.ti, Nat.le_succ_of_le h.li, h.f1, Nat.le_succ_of_le h.fi, fun p hp => by have := h.pr p hp; omega, h.opn, h.neg, h.ops, h.rel⟩
theorem YB.step {q : Bool} {i : Nat} {s : HS} (h : YB q i s) (x : Int) : YB q (i + 1) (xy q x s) := by
 unfold xy
 have hn : 0 ≤ zL x 1000000 := xE (by decide)
 have hp : (zL x 1000000 % 3).toNat < 3 := by omega
 split
 ·rename_i hop
  exact h.open (by omega) hp hop
 ·rename_i hop
  have h1 := h.effM (zL x 1000000 % 3).toNat
  have he : (zT (zL x 1000000 % 3).toNat s).op = s.op := (Yn _ _).2.2.1
  unfold zcE
  split
  ·exact h1.lost hp
  ·split
   ·exact h1.done hp (by rw [he]; omega)
   ·exact h1.later
theorem Yo (q : Bool) (l : List Int) : ∀ i, YB q i (WF q l i)
 | 0 => YB.init q
 | i + 1 => (Yo q l i).step _

theorem zi6 {o : OpV} {q : Bool} (h : o.k = yM q 0 ∨ o.k = yM q 1) : (q = true ∧ (o.k = 3 ∨ o.k = 4)) ∨ (q = false ∧ (o.k = 0 ∨ o.k = 1)) := by
 cases q <;> simp [yM] at h <;> simp <;> omega
structure OpH (q : Bool) (o : OpV) : Prop where
 k : (q = true ∧ (o.k = 3 ∨ o.k = 4)) ∨ (q = false ∧ (o.k = 0 ∨ o.k = 1))
 key : 0 ≤ o.key ∧ o.key ≤ 1
 arg : 0 ≤ o.arg ∧ o.arg ≤ 60
 w : hsW o.k = true → 1 ≤ o.arg
 p : 0 ≤ o.p ∧ o.p ≤ 200
 call : 0 ≤ o.call ∧ o.call ≤ 60
 ret : 0 ≤ o.ret ∧ o.ret ≤ 60
theorem ZQ (t : Nat) (o : OpV) : (Zu t o).p = o.p ∧ (Zu t o).k = o.k ∧ (Zu t o).key = o.key ∧ (Zu t o).arg = o.arg ∧ (Zu t o).res = o.res ∧ (Zu t o).call = o.call ∧ (Zu t o).done = o.done ∧ (o.done = true → (Zu t o).ret = o.ret) ∧ (o.done = false → (Zu t o).ret = t) := by
 unfold Zu
 cases h : o.done <;> simp [h]
theorem zcD (q : Bool) (l : List Int) : (XF q l).length ≤ 60 := by
 have := (Yo q l (min l.length 60)).li
 unfold XF
 rw [List.length_map]
 omega
theorem zeq (q : Bool) (l : List Int) : ∀ o ∈ XF q l, OpH q o := fun o ho => by
 obtain ⟨x, hx, rfl⟩ := List.mem_map.1 ho
 obtain ⟨j, hj, rfl⟩ := List.getElem_of_mem hx
 have h := Yo q l (min l.length 60)
 generalize WF q l (min l.length 60) = s at h hj
 have g := h.ops j hj
 rw [zi hj] at g
 obtain ⟨e1, e2, e3, e4, e5, e6, e7, e8, e9⟩ := ZQ s.time s.out[j]
 have hp3 := h.pr (s.out[j].p % 3).toNat (by omega)
 have ht := h.ti
 have hf := h.fi
 refine ⟨by rw [e2]; exact zi6 g.k, by rw [e3]; exact g.key, by rw [e4]; have := g.arg; omega, by rw [e2, e4]; exact g.w, by rw [e1]; have := g.pp; have := g.p0; omega, by rw [e6]; have := g.c0; omega, ?_⟩
 cases hd : s.out[j].done with
 | true => rw [e8 hd]; have := g.d hd; have := g.c0; omega
 | false => rw [e9 hd]; omega
theorem zia (q : Bool) (l : List Int) : WFH (XF q l) := by
 have h := Yo q l (min l.length 60)
 refine ⟨Nat.le_trans (zcD q l) (by decide), fun o ho => ?_, ?_⟩
 ·have hO := zeq q l o ho
  obtain ⟨x, hx, rfl⟩ := List.mem_map.1 ho
  obtain ⟨j, hj, rfl⟩ := List.getElem_of_mem hx
  generalize WF q l (min l.length 60) = s at h hj hO ⊢
  have g := h.ops j hj
  rw [zi hj] at g
  obtain ⟨e1, e2, e3, e4, e5, e6, e7, e8, e9⟩ := ZQ s.time s.out[j]
  have hk := hO.k
  simp only [wfB, Bool.and_eq_true, Bool.or_eq_true, decide_eq_true_eq]
  refine ⟨⟨⟨⟨⟨hO.p.1, by omega⟩, by omega⟩, hO.call.1⟩, ?_⟩, ?_⟩
  ·rw [e6]
   cases hd : s.out[j].done with
   | true => rw [e8 hd]; exact (g.d hd).1
   | false => rw [e9 hd]; exact g.c0.2
  ·rw [e7, e5]
   cases hd : s.out[j].done with
   | true => exact .inl rfl
   | false => exact .inr (g.n hd).1
 ·unfold XF
  generalize WF q l (min l.length 60) = s at h ⊢
  rw [List.pairwise_map]
  refine h.rel.imp fun {a b} hab => ?_
  obtain ⟨a1, a2, a3, a4, a5, a6, a7, a8, a9⟩ := ZQ s.time a
  obtain ⟨b1, b2, b3, b4, b5, b6, b7, b8, b9⟩ := ZQ s.time b
  obtain ⟨⟨h1, h2, h3⟩, _⟩ := hab
  refine ⟨by rw [a6, b6]; exact h1, fun hd => ?_, fun he => ?_⟩
  ·rw [a7] at hd
   rw [a8 hd, b6, b7]
   exact ⟨(h2 hd).1, fun hd2 => by rw [b8 hd2]; exact (h2 hd).2 hd2⟩
  ·rw [a1, b1] at he
   obtain ⟨h4, h5⟩ := h3 he
   rw [a7, a8 h4, b6]
   exact ⟨h4, h5⟩
end Go.Proofs.Ytbeebjdnapkhhaa
/-
 Functions of layer 24, at plain values: Push, First, Domain.
-/
namespace Go.Proofs.Ytbeebjdnapkhhaa
set_option linter.unusedVariables false
open Go.RowKit

def xq (key v : Int) (o : OpV) : Bool := decide (o.k = 3) && (decide (o.key = key) && decide (o.arg = v))
end Go.Proofs.Ytbeebjdnapkhhaa
/-
 The domain of layer 24, at plain values.
-/
namespace Go.Proofs.Ytbeebjdnapkhhaa
set_option linter.unusedVariables false
open Go.RowKit

def zkY (l : List OpV) (i : Nat) : Prop := ((nth l i).k = 4 ∨ ((nth l i).k = 3 ∧ (nth l i).arg ≠ 0 ∧ ∀ j, j < i → xq (nth l i).key (nth l i).arg (nth l j) = false))
def zke (l : List OpV) : Prop := ∀ i, i < l.length → zkY l i
instance (l : List OpV) (i : Nat) : Decidable (zkY l i) := by unfold zkY; infer_instance
instance (l : List OpV) : Decidable (zke l) := by unfold zke; infer_instance

end Go.Proofs.Ytbeebjdnapkhhaa
/-
 simproofref24.Missing, at plain values.
-/
namespace Go.Proofs.Ytbeebjdnapkhhaa
set_option linter.unusedVariables false
open Go.RowKit

end Go.Proofs.Ytbeebjdnapkhhaa
/-
 The verdicts of layer 24, at plain values, and their laws.
-/
namespace Go.Proofs.Ytbeebjdnapkhhaa
set_option linter.unusedVariables false
open Go.RowKit

structure zk6 where
 chk : Int
 cls : Int
 arg : Int
 order : List Int
 deriving DecidableEq, Inhabited
def zk6.fv (v : zk6) : List FV := [.int .i64 v.chk, .int .i64 v.cls, .int .i64 v.arg, .list 1 (v.order.map zF), .nil]
/-! ### what the indices mean -/
/-! ### the domain, told by pairs -/
/-! ### class and argument do not speak of indices -/
/-! ### the missing -/
/-! ### a history that holds delivers once -/
end Go.Proofs.Ytbeebjdnapkhhaa
/-
 Histories of queues that take effect between call and return deliver every element once, after its push was called.
-/
namespace Go.Proofs.Ytbeebjdnapkhhaa
set_option linter.unusedVariables false

/-! ### lists made from a range -/
theorem XE {n : Nat} {f g : Nat → Option Int} (h : ∀ q, q < n → g q = f q) : (List.range n).filterMap g = (List.range n).filterMap f := by
 induction n with
 | zero => rfl
 | succ n ih =>
  rw [List.range_succ, List.filterMap_append, List.filterMap_append, ih fun q hq => h q (by omega)]
  simp [List.filterMap_cons, h n (by omega)]
theorem zgk {n p : Nat} {f g : Nat → Option Int} {x : Int} (hp : p < n) (hf : f p = none) (hg : g p = some x) (ho : ∀ q, q < n → q ≠ p → g q = f q) : ((List.range n).filterMap g).Perm (x :: (List.range n).filterMap f) := by
 induction n with
 | zero => omega
 | succ n ih =>
  rw [List.range_succ, List.filterMap_append, List.filterMap_append]
  by_cases e : p = n
  ·subst e
   rw [XE (f := f) (g := g) fun q hq => ho q (by omega) (by omega)]
   simp [hf, hg]
  ·have := ih (by omega) fun q hq hne => ho q (by omega) hne
   simp only [List.filterMap_cons, List.filterMap_nil, ho n (by omega) (fun e' => e e'.symm)]
   exact this.append_right _
theorem zju {n p : Nat} {f g : Nat → Option Int} (hg : g p = none) (ho : ∀ q, q < n → q ≠ p → g q = f q) : ((List.range n).filterMap g).Sublist ((List.range n).filterMap f) := by
 induction n with
 | zero => exact List.Sublist.refl _
 | succ n ih =>
  rw [List.range_succ, List.filterMap_append, List.filterMap_append]
  refine (ih fun q hq hne => ho q (by omega) hne).append ?_
  by_cases e : n = p
  ·subst e; simp [hg]
  ·rw [show List.filterMap g [n] = List.filterMap f [n] by simp [List.filterMap_cons, ho n (by omega) e]]
   exact List.Sublist.refl _

/-! ### where the elements are -/
def zf1 (c : Int) (o : OpV) : Option Int := if zgL o = true ∧ o.key = c then some o.res else none
def XM (s : HS) (c : Int) (p : Nat) : Option Int :=
 if 0 ≤ nth s.op p ∧ nth s.ef p = true ∧ (nth s.out (nth s.op p).toNat).k = 4 ∧ (nth s.out (nth s.op p).toNat).key = c ∧ nth s.rs p ≠ 0 then some (nth s.rs p) else none
def zi4 (l : List OpV) (c : Int) : List Int := (List.range l.length).filterMap fun j => zf1 c (nth l j)
def Vj (s : HS) (c : Int) : List Int := (List.range 3).filterMap (XM s c)
def Va (s : HS) (c : Nat) : List Int := nth s.qs c ++ (zi4 s.out c ++ Vj s c)

structure Vd (s : HS) : Prop where
 nd : ∀ c, c < 2 → (Va s c).Nodup
 src : ∀ c, c < 2 → ∀ x ∈ Va s c, ∃ j, j < s.out.length ∧ xq (c : Int) x (nth s.out j) = true ∧ ∀ p, p < 3 → nth s.op p = (j : Int) → nth s.ef p = true
 dst : ∀ j, j < s.out.length → zgL (nth s.out j) = true → ∃ i, i < s.out.length ∧ xq (nth s.out j).key (nth s.out j).res (nth s.out i) = true ∧ (nth s.out i).call < (nth s.out j).ret
theorem Vd.init : Vd zcF := by
 have h2 : ∀ c, c < 2 → c = 0 ∨ c = 1 := fun c hc => by omega
 refine ⟨fun c hc => ?_, fun c hc x hx => ?_, fun j hj => absurd hj (Nat.not_lt_zero _)⟩
 ·rcases h2 c hc with rfl | rfl <;> decide
 ·rcases h2 c hc with rfl | rfl <;> exact absurd hx (by show ¬ x ∈ ([] : List Int); simp)

theorem YP {key v : Int} {o : OpV} : xq key v o = true ↔ o.k = 3 ∧ o.key = key ∧ o.arg = v := by simp [xq]
theorem ZT {o : OpV} : zgL o = true ↔ o.k = 4 ∧ o.done = true ∧ o.res ≠ 0 := by simp [zgL, and_assoc]
theorem YB.other {q : Bool} {i : Nat} {s : HS} (h : YB q i s) {p x : Nat} (hp : p < 3) (hx : x < 3) (hne : p ≠ x) (h0 : 0 ≤ nth s.op p) (h1 : 0 ≤ nth s.op x) : (nth s.op p).toNat ≠ (nth s.op x).toNat := fun e => by
 have a := (h.opn p hp h0).2.1
 have b := (h.opn x hx h1).2.1
 rw [e, b] at a
 have := h.pr p hp
 have := h.pr x hx
 omega
theorem Vd.one {s : HS} (h : Vd s) {q : Bool} {i : Nat} (hI : YB q i s) {c : Nat} (hc : c < 2) {x : Int} (hx : x ∈ Va s c) : 1 ≤ x := by
 obtain ⟨j, hj, hp, _⟩ := h.src c hc x hx
 rw [YP] at hp
 have := (hI.ops j hj).w (by rw [hp.1]; rfl)
 omega

theorem Vd.open {q : Bool} {i : Nat} {s : HS} (hI : YB q i s) (h : Vd s) (m : Int) {p : Nat} (hp : p < 3) (hop : nth s.op p < 0) : Vd (yQ q m p s) := by
 have lst : nth (s.out ++ [yt q m p s]) s.out.length = yt q m p s := xn
 have old : ∀ j, j < s.out.length → nth (s.out ++ [yt q m p s]) j = nth s.out j := fun j hj => yS hj
 have eD : ∀ c : Int, zi4 (s.out ++ [yt q m p s]) c = zi4 s.out c := fun c => by
  unfold zi4
  rw [List.length_append, List.length_singleton, List.range_succ, List.filterMap_append]
  rw [XE (f := fun j => zf1 c (nth s.out j)) fun j hj => by rw [old j hj]]
  have : zf1 c (yt q m p s) = none := by unfold zf1; rw [if_neg]; rintro ⟨h1, _⟩; rw [ZT] at h1; cases h1.2.1
  simp [lst, this]
 have eH : ∀ c : Int, Vj (yQ q m p s) c = Vj s c := fun c => by
  unfold Vj
  refine XE fun x hx => ?_
  show XM (yQ q m p s) c x = XM s c x
  by_cases hx2 : p = x
  ·subst hx2
   unfold XM
   rw [if_neg, if_neg]
   ·rintro ⟨h1, _⟩; omega
   ·rintro ⟨_, h1, _⟩
    have h1' : nth (s.ef.set p false) p = true := h1
    rw [zh (by rw [hI.e3]; exact hx)] at h1'; cases h1'
  ·have e1 : nth (yQ q m p s).op x = nth s.op x := zg hx2
   have e2 : nth (yQ q m p s).ef x = nth s.ef x := zg hx2
   unfold XM
   rw [e1, e2]
   by_cases h0 : 0 ≤ nth s.op x
   ·have e3 : nth (yQ q m p s).out (nth s.op x).toNat = nth s.out (nth s.op x).toNat := old _ (hI.opn x hx h0).1
    rw [e3]; rfl
   ·rw [if_neg (fun hh => h0 hh.1), if_neg (fun hh => h0 hh.1)]
 have eT : ∀ c, Va (yQ q m p s) c = Va s c := fun c => by
  show nth s.qs c ++ (zi4 (s.out ++ [yt q m p s]) c ++ Vj (yQ q m p s) c) = _
  rw [eD, eH]; rfl
 refine ⟨fun c hc => by rw [eT]; exact h.nd c hc, fun c hc x hx => ?_, fun j hj hd => ?_⟩
 ·rw [eT] at hx
  obtain ⟨j, hj, h1, h2⟩ := h.src c hc x hx
  refine ⟨j, by show j < (s.out ++ [yt q m p s]).length; simp; omega, by show xq _ _ (nth (s.out ++ [yt q m p s]) j) = true; rw [old j hj]; exact h1, fun y hy he => ?_⟩
  have he' : nth (s.op.set p (s.out.length : Int)) y = (j : Int) := he
  show nth (s.ef.set p false) y = true
  by_cases hy2 : p = y
  ·subst hy2; rw [zh (by rw [hI.o3]; exact hy)] at he'; omega
  ·rw [zg hy2] at he' ⊢; exact h2 y hy he'
 ·have hj' : j < s.out.length + 1 := by simpa [yQ] using hj
  have hd' : zgL (nth (s.out ++ [yt q m p s]) j) = true := hd
  rcases Nat.lt_or_ge j s.out.length with h1 | h1
  ·rw [old j h1] at hd'
   obtain ⟨k, hk, h2, h3⟩ := h.dst j h1 hd'
   refine ⟨k, by show k < (s.out ++ [yt q m p s]).length; simp; omega, ?_⟩
   show xq (nth (s.out ++ [yt q m p s]) j).key (nth (s.out ++ [yt q m p s]) j).res (nth (s.out ++ [yt q m p s]) k) = true ∧ (nth (s.out ++ [yt q m p s]) k).call < (nth (s.out ++ [yt q m p s]) j).ret
   rw [old j h1, old k hk]
   exact ⟨h2, h3⟩
  ·have : j = s.out.length := by omega
   subst this
   rw [lst, ZT] at hd'; cases hd'.2.1
theorem Vd.lost {q : Bool} {i : Nat} {s : HS} (hI : YB q i s) (h : Vd s) {p : Nat} (hp : p < 3) : Vd (WY p s) := by
 have sT : ∀ c, (Va (WY p s) c).Sublist (Va s c) := fun c => by
  refine (List.Sublist.refl _).append ((List.Sublist.refl _).append ?_)
  refine zju (p := p) ?_ fun x hx hne => ?_
  ·unfold XM
   rw [if_neg]
   rintro ⟨h1, _⟩
   have h1' : 0 ≤ nth (s.op.set p (-1)) p := h1
   rw [zh (by rw [hI.o3]; exact hp)] at h1'; omega
  ·have e1 : nth (WY p s).op x = nth s.op x := zg (fun e => hne e.symm)
   unfold XM
   rw [e1]; rfl
 refine ⟨fun c hc => (sT c).nodup (h.nd c hc), fun c hc x hx => ?_, h.dst⟩
 obtain ⟨j, hj, h1, h2⟩ := h.src c hc x ((sT c).subset hx)
 refine ⟨j, hj, h1, fun y hy he => ?_⟩
 have he' : nth (s.op.set p (-1)) y = (j : Int) := he
 by_cases hy2 : p = y
 ·subst hy2; rw [zh (by rw [hI.o3]; exact hy)] at he'; omega
 ·rw [zg hy2] at he'; exact h2 y hy he'
theorem Vd.done {q : Bool} {i : Nat} {s : HS} (hI : YB q i s) (h : Vd s) {p : Nat} (hp : p < 3) (hop : 0 ≤ nth s.op p) (hef : nth s.ef p = true) : Vd (yb p s) := by
 obtain ⟨hj0, hpj, hdj⟩ := hI.opn p hp hop
 generalize hjj : (nth s.op p).toNat = j0 at hj0 hpj hdj
 have hout : (yb p s).out = s.out.set j0 { nth s.out j0 with done := true, res := nth s.rs p, ret := (s.time : Int) } := by unfold yb; rw [hjj]
 have hlen : (yb p s).out.length = s.out.length := by rw [hout]; simp
 have same : nth (yb p s).out j0 = { nth s.out j0 with done := true, res := nth s.rs p, ret := (s.time : Int) } := by rw [hout, zh hj0]
 have oth : ∀ j, j0 ≠ j → nth (yb p s).out j = nth s.out j := fun j hj => by rw [hout, zg hj]
 have fld : ∀ j, (nth (yb p s).out j).k = (nth s.out j).k ∧ (nth (yb p s).out j).key = (nth s.out j).key ∧ (nth (yb p s).out j).arg = (nth s.out j).arg ∧ (nth (yb p s).out j).call = (nth s.out j).call := fun j => by
  by_cases e : j0 = j
  ·subst e; rw [same]; exact ⟨rfl, rfl, rfl, rfl⟩
  ·rw [oth j e]; exact ⟨rfl, rfl, rfl, rfl⟩
 have push : ∀ a b j, xq a b (nth (yb p s).out j) = xq a b (nth s.out j) := fun a b j => by
  unfold xq; obtain ⟨e1, e2, e3, _⟩ := fld j; rw [e1, e2, e3]
 have eq0 : ∀ c : Int, zf1 c (nth (yb p s).out j0) = XM s c p := fun c => by
  rw [same]
  unfold zf1 XM
  rw [hjj]
  by_cases hh : (nth s.out j0).k = 4 ∧ (nth s.out j0).key = c ∧ nth s.rs p ≠ 0
  ·rw [if_pos ⟨ZT.2 ⟨hh.1, rfl, hh.2.2⟩, hh.2.1⟩, if_pos ⟨hop, hef, hh⟩]
  ·rw [if_neg, if_neg]
   ·rintro ⟨_, _, h3⟩; exact hh h3
   ·rintro ⟨h1, h2⟩
    rw [ZT] at h1
    exact hh ⟨h1.1, h2, h1.2.2⟩
 have old0 : ∀ c : Int, zf1 c (nth s.out j0) = none := fun c => by
  unfold zf1; rw [if_neg]; rintro ⟨h1, _⟩; rw [ZT, hdj] at h1; cases h1.2.1
 have newH : ∀ c : Int, XM (yb p s) c p = none := fun c => by
  unfold XM
  rw [if_neg]
  rintro ⟨h1, _⟩
  have h1' : 0 ≤ nth (s.op.set p (-1)) p := h1
  rw [zh (by rw [hI.o3]; exact hp)] at h1'; omega
 have othH : ∀ (c : Int) x, x < 3 → x ≠ p → XM (yb p s) c x = XM s c x := fun c x hx hne => by
  have e1 : nth (yb p s).op x = nth s.op x := zg (fun e => hne e.symm)
  unfold XM
  rw [e1]
  by_cases h0 : 0 ≤ nth s.op x
  ·have := hI.other hp hx (fun e => hne e.symm) hop h0
   rw [hjj] at this
   rw [oth _ this]; rfl
  ·rw [if_neg (fun hh => h0 hh.1), if_neg (fun hh => h0 hh.1)]
 have pT : ∀ c : Nat, (Va (yb p s) c).Perm (Va s c) := fun c => by
  refine List.Perm.append_left _ ?_
  unfold zi4 Vj
  rw [hlen]
  cases hx : XM s c p with
  | none =>
   rw [XE (f := fun j => zf1 c (nth s.out j)) (g := fun j => zf1 c (nth (yb p s).out j)) fun j hj => ?_, XE (f := XM s c) (g := XM (yb p s) c) fun x hx2 => ?_]
   ·by_cases e : x = p
    ·subst e; rw [newH, hx]
    ·exact othH c x hx2 e
   ·by_cases e : j0 = j
    ·subst e; rw [eq0, hx, old0]
    ·rw [oth j e]
  | some v =>
   have a := zgk (n := s.out.length) (p := j0) (f := fun j => zf1 c (nth s.out j)) (g := fun j => zf1 c (nth (yb p s).out j)) (x := v) hj0 (old0 c) (by rw [eq0, hx]) fun j hj hne => by rw [oth j (fun e => hne e.symm)]
   have b := zgk (n := 3) (p := p) (f := XM (yb p s) c) (g := XM s c) (x := v) hp (newH c) hx fun x hx2 hne => (othH c x hx2 hne).symm
   refine (a.append_right _).trans ?_
   refine List.Perm.trans ?_ (b.append_left _).symm
   rw [List.cons_append]
   exact List.perm_middle.symm
 refine ⟨fun c hc => (pT c).nodup_iff.2 (h.nd c hc), fun c hc x hx => ?_, fun j hj hd => ?_⟩
 ·obtain ⟨j, hj, h1, h2⟩ := h.src c hc x ((pT c).mem_iff.1 hx)
  refine ⟨j, by rw [hlen]; exact hj, by rw [push]; exact h1, fun y hy he => ?_⟩
  have he' : nth (s.op.set p (-1)) y = (j : Int) := he
  by_cases hy2 : p = y
  ·subst hy2; rw [zh (by rw [hI.o3]; exact hy)] at he'; omega
  ·rw [zg hy2] at he'; exact h2 y hy he'
 ·rw [hlen] at hj ⊢
  by_cases e : j0 = j
  ·subst e
   have hk := hI.ops j0 hj0
   have hkey := hk.key
   have hd2 := hd
   rw [same, ZT] at hd2
   have hm : nth s.rs p ∈ Va s (nth s.out j0).key.toNat := by
    refine List.mem_append_right _ (List.mem_append_right _ ?_)
    refine List.mem_filterMap.2 ⟨p, by simpa using hp, ?_⟩
    unfold XM
    rw [hjj, if_pos ⟨hop, hef, hd2.1, by omega, hd2.2.2⟩]
   obtain ⟨k, hk1, hk2, _⟩ := h.src _ (by omega) _ hm
   refine ⟨k, hk1, ?_, ?_⟩
   ·rw [push, same]
    dsimp only
    rw [show (((nth s.out j0).key.toNat : Nat) : Int) = (nth s.out j0).key by omega] at hk2
    exact hk2
   ·rw [(fld k).2.2.2, same]
    exact (hI.ops k hk1).c0.2
  ·rw [oth j e] at hd ⊢
   obtain ⟨k, hk1, hk2, hk3⟩ := h.dst j hj hd
   exact ⟨k, hk1, by rw [push]; exact hk2, by rw [(fld k).2.2.2]; exact hk3⟩

theorem zg3 {l : List OpV} (h : l.Pairwise fun a b => hsW a.k = true → hsW b.k = true → a.arg < b.arg) {i j : Nat} (hi : i < l.length) (hj : j < l.length) (h1 : (nth l i).k = 3) (h2 : (nth l j).k = 3) (e : (nth l i).arg = (nth l j).arg) : i = j := by
 have key : ∀ a b, a < b → b < l.length → (nth l a).k = 3 → (nth l b).k = 3 → (nth l a).arg < (nth l b).arg := fun a b hab hb ha3 hb3 => by
  have := List.pairwise_iff_getElem.1 h a b (by omega) hb hab
  rw [← zi hb, ← zi (show a < l.length by omega)] at this
  exact this (by rw [ha3]; rfl) (by rw [hb3]; rfl)
 rcases Nat.lt_trichotomy i j with h3 | h3 | h3
 ·have := key i j h3 hj h1 h2; omega
 ·exact h3
 ·have := key j i h3 hi h2 h1; omega
theorem Vd.eff {i : Nat} {s : HS} (hI : YB true i s) (h : Vd s) {p : Nat} (hp : p < 3) (hop : 0 ≤ nth s.op p) (hef : nth s.ef p ≠ true) : Vd (xX (nth s.out (nth s.op p).toNat) p s) := by
 obtain ⟨hj0, hpj, hdj⟩ := hI.opn p hp hop
 have hO := hI.ops _ hj0
 have hk := hO.k
 have hkey := hO.key
 have hk34 : (nth s.out (nth s.op p).toNat).k = 3 ∨ (nth s.out (nth s.op p).toNat).k = 4 := by rcases hk with e | e <;> rw [e] <;> simp [yM]
 have s1 := ZP (nth s.out (nth s.op p).toNat) p s
 have hold : ∀ c : Int, XM s c p = none := fun c => by unfold XM; rw [if_neg]; rintro ⟨_, h1, _⟩; exact hef h1
 generalize ho : nth s.out (nth s.op p).toNat = o at s1 hO hk34 hkey
 have main : ∀ (rs' : List Int) (qs' : List (List Int)), (∀ x, x ≠ p → nth rs' x = nth s.rs x) → (∀ c, c < 2 → (Va { s with ef := s.ef.set p true, rs := rs', qs := qs' } c).Nodup ∧ ∀ x ∈ Va { s with ef := s.ef.set p true, rs := rs', qs := qs' } c, x ∈ Va s c ∨ (xq (c : Int) x o = true)) →
   Vd { s with ef := s.ef.set p true, rs := rs', qs := qs' } := fun rs' qs' hr ht => by
  have efx : ∀ y, y < 3 → nth s.ef y = true → nth (s.ef.set p true) y = true := fun y hy he => by
   by_cases e : p = y
   ·subst e; rw [zh (by rw [hI.e3]; exact hy)]
   ·rw [zg e]; exact he
  refine ⟨fun c hc => (ht c hc).1, fun c hc x hx => ?_, h.dst⟩
  rcases (ht c hc).2 x hx with h1 | h1
  ·obtain ⟨j, hj, h2, h3⟩ := h.src c hc x h1
   exact ⟨j, hj, h2, fun y hy he => efx y hy (h3 y hy he)⟩
  ·refine ⟨(nth s.op p).toNat, hj0, by show xq _ _ (nth s.out _) = true; rw [ho]; exact h1, fun y hy he => ?_⟩
   show nth (s.ef.set p true) y = true
   by_cases e : p = y
   ·subst e; rw [zh (by rw [hI.e3]; exact hy)]
   ·have he' : nth s.op y = ((nth s.op p).toNat : Int) := he
    exact absurd (by omega) (hI.other hp hy e hop (by omega))
 have othH : ∀ (rs' : List Int) (qs' : List (List Int)), (∀ x, x ≠ p → nth rs' x = nth s.rs x) → ∀ (c : Int) x, x < 3 → x ≠ p → XM { s with ef := s.ef.set p true, rs := rs', qs := qs' } c x = XM s c x := fun rs' qs' hr c x hx hne => by
  unfold XM
  dsimp only
  rw [zg (fun e => hne e.symm), hr x hne]
 have sameT : ∀ (rs' : List Int), (∀ x, x ≠ p → nth rs' x = nth s.rs x) → (o.k = 3 ∨ nth rs' p = 0) → ∀ (qs' : List (List Int)) (c : Int), Vj { s with ef := s.ef.set p true, rs := rs', qs := qs' } c = Vj s c := fun rs' hr h0 qs' c => by
  unfold Vj
  refine XE fun x hx => ?_
  by_cases e : x = p
  ·subst e
   rw [hold]
   unfold XM
   rw [if_neg]
   rintro ⟨_, _, h3, _, h5⟩
   have h3' : (nth s.out (nth s.op x).toNat).k = 4 := h3
   rw [ho] at h3'
   rcases h0 with h0 | h0
   ·omega
   ·exact h5 h0
  ·exact othH rs' qs' hr c x hx e
 have setR : ∀ v x, x ≠ p → nth (s.rs.set p v) x = nth s.rs x := fun v x hx => zg (fun e => hx e.symm)
 have setP : ∀ v, nth (s.rs.set p v) p = v := fun v => zh (by rw [hI.r3]; exact hp)
 have hkn : o.key.toNat < 2 := by omega
 unfold xX
 rw [if_neg (by rcases hk34 with e | e <;> omega), if_neg (by rcases hk34 with e | e <;> omega)]
 rcases hk34 with e3 | e4
 ·rw [if_pos e3]
  refine main _ _ (setR 0) fun c hc => ?_
  have eT : Va { s with ef := s.ef.set p true, rs := s.rs.set p 0, qs := s.qs.set o.key.toNat (nth s.qs o.key.toNat ++ [o.arg]) } c = nth (s.qs.set o.key.toNat (nth s.qs o.key.toNat ++ [o.arg])) c ++ (zi4 s.out c ++ Vj s c) := by
   unfold Va
   dsimp only
   rw [sameT _ (setR 0) (.inl e3)]
  rw [eT]
  by_cases ec : o.key.toNat = c
  ·subst ec
   rw [zh (by rw [hI.q2]; exact hc)]
   have hnm : o.arg ∉ Va s o.key.toNat := fun hm => by
    obtain ⟨j, hj, h1, h2⟩ := h.src _ hc _ hm
    rw [YP] at h1
    have : j = (nth s.op p).toNat := zg3 (hI.rel.imp fun hab => hab.2) hj hj0 h1.1 (by rw [ho]; exact e3) (by rw [ho]; exact h1.2.2)
    exact hef (h2 p hp (by omega))
   have pm : (nth s.qs o.key.toNat ++ [o.arg] ++ (zi4 s.out (o.key.toNat : Nat) ++ Vj s (o.key.toNat : Nat))).Perm (o.arg :: Va s o.key.toNat) := by
    rw [List.append_assoc]
    exact List.perm_middle
   refine ⟨pm.nodup_iff.2 (List.nodup_cons.2 ⟨hnm, h.nd _ hc⟩), fun x hx => ?_⟩
   rcases List.mem_cons.1 (pm.mem_iff.1 hx) with rfl | hx
   ·exact .inr (YP.2 ⟨e3, by omega, rfl⟩)
   ·exact .inl hx
  ·rw [zg ec]
   exact ⟨h.nd c hc, fun x hx => .inl hx⟩
 ·rw [if_neg (by omega)]
  cases hq : nth s.qs o.key.toNat with
  | nil =>
   refine main _ _ (setR 0) fun c hc => ?_
   have eT : Va { s with ef := s.ef.set p true, rs := s.rs.set p 0 } c = Va s c := by
    unfold Va
    dsimp only
    rw [sameT _ (setR 0) (.inr (setP 0)) s.qs]
   rw [eT]
   exact ⟨h.nd c hc, fun x hx => .inl hx⟩
  | cons x r =>
   refine main _ _ (setR x) fun c hc => ?_
   by_cases ec : o.key.toNat = c
   ·subst ec
    have hx1 : 1 ≤ x := h.one hI hc (List.mem_append_left _ (by rw [hq]; exact List.mem_cons_self))
    have pm : (Va { s with ef := s.ef.set p true, rs := s.rs.set p x, qs := s.qs.set o.key.toNat r } o.key.toNat).Perm (Va s o.key.toNat) := by
     unfold Va
     dsimp only
     rw [zh (by rw [hI.q2]; exact hc), hq]
     have b := zgk (n := 3) (p := p) (f := XM s (o.key.toNat : Nat)) (g := XM { s with ef := s.ef.set p true, rs := s.rs.set p x, qs := s.qs.set o.key.toNat r } (o.key.toNat : Nat)) (x := x) hp (hold _)
      (by unfold XM; dsimp only; rw [if_pos ⟨hop, zh (by rw [hI.e3]; exact hp), by rw [ho]; exact e4, by rw [ho]; omega, by rw [setP]; omega⟩, setP]) fun y hy hne => othH _ _ (setR x) _ y hy hne
     refine List.Perm.trans ((b.append_left _).append_left _) ?_
     rw [List.cons_append]
     refine (List.Perm.append_left _ List.perm_middle).trans ?_
     exact List.perm_middle
    exact ⟨pm.nodup_iff.2 (h.nd _ hc), fun y hy => .inl (pm.mem_iff.1 hy)⟩
   ·have eT : Va { s with ef := s.ef.set p true, rs := s.rs.set p x, qs := s.qs.set o.key.toNat r } c = Va s c := by
     unfold Va
     dsimp only
     rw [zg ec]
     congr 2
     unfold Vj
     refine XE fun y hy => ?_
     by_cases e : y = p
     ·subst e
      rw [hold]
      unfold XM
      dsimp only
      rw [if_neg]
      rintro ⟨_, _, _, h4, _⟩
      rw [ho] at h4
      omega
     ·exact othH _ _ (setR x) _ y hy e
    rw [eT]
    exact ⟨h.nd c hc, fun y hy => .inl hy⟩
theorem Vd.step {i : Nat} {s : HS} (hI : YB true i s) (h : Vd s) (x : Int) : Vd (xy true x s) := by
 unfold xy
 have hn : 0 ≤ zL x 1000000 := xE (by decide)
 have hp : (zL x 1000000 % 3).toNat < 3 := by omega
 split
 ·rename_i hop
  exact Vd.open hI h _ hp hop
 ·rename_i hop
  have h1 := hI.effM (zL x 1000000 % 3).toNat
  have he : (zT (zL x 1000000 % 3).toNat s).op = s.op := (Yn _ _).2.2.1
  have h2 : Vd (zT (zL x 1000000 % 3).toNat s) ∧ nth (zT (zL x 1000000 % 3).toNat s).ef (zL x 1000000 % 3).toNat = true := by
   unfold zT
   split
   ·rename_i h3; exact ⟨h, h3⟩
   ·rename_i h3
    exact ⟨Vd.eff hI h hp (by omega) h3, by rw [(ZP _ _ _).2.2.2.2.2.1, zh (by rw [hI.e3]; exact hp)]⟩
  unfold zcE
  split
  ·exact Vd.lost h1 h2.1 hp
  ·split
   ·exact Vd.done h1 h2.1 hp (by rw [he]; omega) h2.2
   ·exact h2.1
/-! ### the history -/
end Go.Proofs.Ytbeebjdnapkhhaa
/-
 The keys of layer 24's maps: an element of a queue.
-/
namespace Go.Proofs.Ytbeebjdnapkhhaa
set_option linter.unusedVariables false
open Go.RowKit

end Go.Proofs.Ytbeebjdnapkhhaa
/-
 The maps of layer 24 and what is looked up there, at plain values.
-/
namespace Go.Proofs.Ytbeebjdnapkhhaa
set_option linter.unusedVariables false
open Go.RowKit

end Go.Proofs.Ytbeebjdnapkhhaa
