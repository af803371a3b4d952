/-
  graph.Cycle and the reference find the same shortest cycle.
-/
import Derived.Test.YthjplkjpehdpfaaZK
import Derived.Test.YthjplkjpehdpfaaZM
import Derived.Test.YthjplkjpehdpfaaZFmCyc2
namespace Go.Proofs.Ythjplkjpehdpfaa
set_option linter.unusedVariables false

theorem zb1 {E : List (Nat × Nat)} {a b : Nat} : zbi E a b = true ↔ (b : Int) ∈ zj E a := by
 unfold zbi
 rw [List.any_eq_true, yQ]
 constructor
 ·rintro ⟨e, he, h⟩
  simp only [Bool.and_eq_true, decide_eq_true_eq] at h
  exact ⟨e, he, by omega, h.2⟩
 ·rintro ⟨e, he, h1, h2⟩
  exact ⟨e, he, by simp only [Bool.and_eq_true, decide_eq_true_eq]; omega⟩
def Wx (n : Nat) (E : List (Nat × Nat)) (s : Nat) : Nat → Nat → Prop
 | 0, _ => False
 | 1, v => (s : Int) ∈ zj E v
 | k + 2, v => ∃ w : Nat, w < n ∧ (w : Int) ∈ zj E v ∧ s < w ∧ Wx n E s (k + 1) w
def zet (E : List (Nat × Nat)) (O : List (List Int)) (tg ab k v w : Nat) : Prop := zbi E v w = true ∧ Zy O tg ab k v w ≠ []
theorem ZD {E : List (Nat × Nat)} {O : List (List Int)} {s k v : Nat} (hh : ∀ w, nth O w ≠ [] → ∃ r, nth O w = (w : Int) :: r) : ∀ j, (zdW E O s s k v j = [] ∧ ∀ w, w < j → ¬ zet E O s s k v w) ∨ ∃ w, w < j ∧ zet E O s s k v w ∧ (∀ u, u < w → ¬ zet E O s s k v u) ∧ zdW E O s s k v j = Zy O s s k v w
 | 0 => .inl ⟨rfl, fun w hw => by omega⟩
 | j + 1 => by
  rw [zcK]
  rcases ZD (E := E) (O := O) (s := s) (k := k) (v := v) hh j with ⟨e, h⟩ | ⟨w, h1, h2, h3, e⟩
  ·rw [e]
   unfold zeo
   by_cases hc : zet E O s s k v j
   ·rw [if_pos ⟨hc.1, hc.2, .inl rfl⟩]
    exact .inr ⟨j, Nat.lt_succ_self _, hc, fun u hu => h u hu, rfl⟩
   ·rw [if_neg (fun q => hc ⟨q.1, q.2.1⟩)]
    refine .inl ⟨rfl, fun w hw => ?_⟩
    by_cases hwj : w = j
    ·subst hwj; exact hc
    ·exact h w (by omega)
  ·rw [e]
   refine .inr ⟨w, by omega, h2, h3, ?_⟩
   unfold zeo
   refine if_neg fun q => ?_
   obtain ⟨q1, q2, q3⟩ := q
   rcases q3 with q3 | q3
   ·exact h2.2 q3
   ·have hw2 := h2.2
    unfold Zy at q2 q3 hw2
    by_cases hk : k = 1
    ·rw [if_pos hk] at q2 hw2
     rw [if_pos hk, if_pos hk] at q3
     by_cases e1 : j = s
     ·by_cases e2 : w = s
      ·omega
      ·rw [if_neg e2] at hw2; exact hw2 rfl
     ·rw [if_neg e1] at q2; exact q2 rfl
    ·rw [if_neg hk] at q2 hw2
     rw [if_neg hk, if_neg hk] at q3
     by_cases e1 : s < j ∧ nth O j ≠ []
     ·by_cases e2 : s < w ∧ nth O w ≠ []
      ·rw [if_pos e1, if_pos e2] at q3
       obtain ⟨r1, f1⟩ := hh j e1.2
       obtain ⟨r2, f2⟩ := hh w e2.2
       rw [f1, f2] at q3
       unfold zea at q3
       rw [if_pos rfl] at q3
       unfold zea at q3
       rw [if_neg (by omega)] at q3
       simp at q3
       omega
      ·rw [if_neg e2] at hw2; exact hw2 rfl
     ·rw [if_neg e1] at q2; exact q2 rfl
theorem WH {E : List (Nat × Nat)} {s n k v : Nat} (hv : v < n) : nth (yb E s s n (k + 1)) v = zdW E (yb E s s n k) s s (k + 1) v n := by
 have e : yb E s s n (k + 1) = (List.range n).map fun v => if v < n then zdW E (yb E s s n k) s s (k + 1) v n else [] := rfl
 rw [e, nth_eq (by simpa using hv)]
 simp [hv]
theorem YX {E : List (Nat × Nat)} {s n : Nat} : ∀ (k w : Nat), nth (yb E s s n k) w ≠ [] → w < n ∧ ∃ r, nth (yb E s s n k) w = (w : Int) :: r
 | 0, w, h => by
  refine absurd ?_ h
  rcases Nat.lt_or_ge w n with hw | hw
  ·rw [nth_eq (by simpa [yb] using hw)]; simp [yb]
  ·unfold nth; rw [List.getD_eq_getElem?_getD, List.getElem?_eq_none (by simpa [yb] using hw)]; rfl
 | k + 1, w, h => by
  have hw : w < n := by
   rcases Nat.lt_or_ge w n with hw | hw
   ·exact hw
   ·refine absurd ?_ h
    unfold nth; rw [List.getD_eq_getElem?_getD, List.getElem?_eq_none (by rw [za1]; exact hw)]; rfl
  refine ⟨hw, ?_⟩
  rw [WH hw] at h ⊢
  rcases ZD (E := E) (s := s) (k := k + 1) (v := w) (fun u hu => (YX k u hu).2) n with ⟨e, _⟩ | ⟨u, _, hc, _, e⟩
  ·exact absurd e h
  ·rw [e]
   have h2 := hc.2
   unfold Zy at h2 ⊢
   split at h2
   ·split at h2
    ·rename_i h3 h4
     rw [if_pos h3, if_pos h4]; exact ⟨_, rfl⟩
    ·exact absurd rfl h2
   ·split at h2
    ·rename_i h3 h4
     rw [if_neg h3, if_pos h4]; exact ⟨_, rfl⟩
    ·exact absurd rfl h2
theorem ZC {E : List (Nat × Nat)} {s n k v w : Nat} : zet E (yb E s s n k) s s (k + 1) v w ↔ (w : Int) ∈ zj E v ∧ if k = 0 then w = s else s < w ∧ nth (yb E s s n k) w ≠ [] := by
 unfold zet
 rw [zb1]
 refine and_congr Iff.rfl ?_
 unfold Zy
 by_cases hk : k = 0
 ·subst hk
  rw [if_pos rfl, if_pos rfl]
  by_cases e : w = s
  ·rw [if_pos e]; simp [e]
  ·rw [if_neg e]; simp [e]
 ·rw [if_neg (by omega), if_neg hk]
  by_cases e : s < w ∧ nth (yb E s s n k) w ≠ []
  ·rw [if_pos e]; simp [e.1, e.2]
  ·rw [if_neg e]
   constructor
   ·intro q; exact absurd rfl q
   ·intro q; exact absurd q e
theorem xY {n : Nat} {E : List (Nat × Nat)} (h : InN n E) {s : Nat} (hs : s < n) : ∀ (k v : Nat), v < n → (nth (yb E s s n (k + 1)) v ≠ [] ↔ Wx n E s (k + 1) v)
 | k, v, hv => by
  rw [WH hv]
  have hex : zdW E (yb E s s n k) s s (k + 1) v n ≠ [] ↔ ∃ w, w < n ∧ zet E (yb E s s n k) s s (k + 1) v w := by
   rcases ZD (E := E) (s := s) (k := k + 1) (v := v) (fun u hu => (YX k u hu).2) n with ⟨e, hno⟩ | ⟨u, h1, hc, _, e⟩
   ·constructor
    ·intro q; exact absurd e q
    ·rintro ⟨w, h1, h2⟩; exact absurd h2 (hno w h1)
   ·constructor
    ·intro _; exact ⟨u, h1, hc⟩
    ·intro _; rw [e]; exact hc.2
  rw [hex]
  cases k with
  | zero =>
   constructor
   ·rintro ⟨w, _, hc⟩
    obtain ⟨c1, c2⟩ := ZC.1 hc
    rw [if_pos rfl] at c2
    subst c2; exact c1
   ·intro hm
    exact ⟨s, hs, ZC.2 ⟨hm, by rw [if_pos rfl]⟩⟩
  | succ k =>
   constructor
   ·rintro ⟨w, hw, hc⟩
    obtain ⟨c1, c2⟩ := ZC.1 hc
    rw [if_neg (by omega)] at c2
    exact ⟨w, hw, c1, c2.1, (xY h hs k w hw).1 c2.2⟩
   ·rintro ⟨w, hw, hm, hsw, hx⟩
    exact ⟨w, hw, ZC.2 ⟨hm, by rw [if_neg (by omega)]; exact ⟨hsw, (xY h hs k w hw).2 hx⟩⟩⟩
section
variable {n : Nat} {E : List (Nat × Nat)} (h : InN n E) {s : Nat} (hs : s < n)
include h hs
theorem Wx.dist : ∀ (k w : Nat), w < n → s < w → Wx n E s (k + 1) w → 0 ≤ nth (zJ n E s) w ∧ nth (zJ n E s) w ≤ (k + 1 : Nat)
 | 0, w, hw, hsw, hx => by
  have h0 := za8 h hs
  have := YE h hs hs hw (show (s : Int) ∈ zj E w from hx) hsw (by omega)
  omega
 | k + 1, w, hw, hsw, hx => by
  obtain ⟨u, hu, hm, hsu, hxu⟩ := hx
  have h1 := Wx.dist k u hu hsu hxu
  have := YE h hs hu hw hm hsw h1.1
  omega
theorem zaw : ∀ (k w : Nat), w < n → nth (zJ n E s) w = (k + 1 : Nat) → s < w ∧ Wx n E s (k + 1) w
 | 0, w, hw, hd => by
  refine ⟨Yi h hs hw (by omega), ?_⟩
  obtain ⟨u, hu, hm, hdu⟩ := Xz h hs hw (by omega)
  have : u = s := Va h hs hu (by omega)
  subst this; exact hm
 | k + 1, w, hw, hd => by
  refine ⟨Yi h hs hw (by omega), ?_⟩
  obtain ⟨u, hu, hm, hdu⟩ := Xz h hs hw (by omega)
  obtain ⟨h1, h2⟩ := zaw k u hu (by omega)
  exact ⟨u, hu, hm, h1, h2⟩
end
theorem WA (d : List Int) (st : Int) : ∀ (row : List Int) (len : Int), 0 ≤ len → (0 < len → row.foldl (zQ d st) len ≤ len ∧ 0 < row.foldl (zQ d st) len) ∧ ∀ w ∈ row, st ≤ w → 0 ≤ nth d w.toNat → 0 < row.foldl (zQ d st) len ∧ row.foldl (zQ d st) len ≤ nth d w.toNat + 1
 | [], len, _ => ⟨fun h => ⟨Int.le_refl _, h⟩, fun w hw => by cases hw⟩
 | x :: row, len, h0 => by
  rw [List.foldl_cons]
  have hs : 0 ≤ zQ d st len x ∧ (0 < len → zQ d st len x ≤ len ∧ 0 < zQ d st len x) ∧ (st ≤ x → 0 ≤ nth d x.toNat → 0 < zQ d st len x ∧ zQ d st len x ≤ nth d x.toNat + 1) := by
   unfold zQ
   split <;> rename_i hc
   ·refine ⟨by omega, fun _ => ?_, fun _ _ => by omega⟩
    rcases hc.2 with h | h <;> omega
   ·refine ⟨h0, fun _ => by omega, fun h1 h2 => ?_⟩
    have : ¬ (len = 0 ∨ nth d x.toNat + 1 < len) := fun q => hc ⟨⟨h1, h2⟩, q⟩
    omega
  obtain ⟨i1, i2⟩ := WA d st row (zQ d st len x) hs.1
  refine ⟨fun h => ?_, fun w hw h1 h2 => ?_⟩
  ·have := hs.2.1 h
   have := i1 this.2
   omega
  ·rcases List.mem_cons.1 hw with rfl | hw
   ·have h3 := hs.2.2 h1 h2
    have := i1 h3.1
    omega
   ·exact i2 w hw h1 h2
theorem ZV {d : List Int} {st : Int} {row : List Int} {w : Int} (hw : w ∈ row) (h1 : st ≤ w) (h2 : 0 ≤ nth d w.toNat) : 0 < yN d st row ∧ yN d st row ≤ nth d w.toNat + 1 := (WA d st row 0 (Int.le_refl _)).2 w hw h1 h2
theorem Xc (p : Int → Bool) (r : List Int) : ∀ (k i j : Nat), Yl p r k i = (j : Int) → ∀ q, i ≤ q → q < j → p (nth r q) = false
 | 0, i, j, h, q, _, _ => by
  have : (-1 : Int) = j := h
  omega
 | k + 1, i, j, h, q, h1, h2 => by
  unfold Yl at h
  by_cases hp : p (nth r i) = true
  ·rw [if_pos hp] at h; omega
  ·rw [if_neg hp] at h
   by_cases e : q = i
   ·subst e; simpa using hp
   ·exact Xc p r k (i + 1) j h q (by omega) h2
section
variable {n : Nat} {E : List (Nat × Nat)} (h : InN n E) {s : Nat} (hs : s < n)
include h hs
theorem zb4 {L : Nat} (hx : Wx n E s (L + 1) s) : 0 < yN (zJ n E s) s (zj E s) ∧ yN (zJ n E s) s (zj E s) ≤ (L + 1 : Nat) := by
 cases L with
 | zero =>
  have h0 := za8 h hs
  have := ZV (d := zJ n E s) (st := s) (show (s : Int) ∈ zj E s from hx) (Int.le_refl _) (by rw [Int.toNat_natCast]; omega)
  rw [Int.toNat_natCast] at this
  omega
 | succ L =>
  obtain ⟨w, hw, hm, hsw, hxw⟩ := hx
  have hd := Wx.dist h hs L w hw hsw hxw
  have := ZV (d := zJ n E s) (st := s) hm (by omega) (by rw [Int.toNat_natCast]; omega)
  rw [Int.toNat_natCast] at this
  omega
theorem zcx {L : Nat} (hL : yN (zJ n E s) s (zj E s) = (L + 1 : Nat)) : Wx n E s (L + 1) s := by
 rcases YN (zJ n E s) s (zj E s) with e | ⟨w, hw, h1, h2, h3⟩
 ·omega
 ·have hin := zO h hw
  obtain ⟨w, rfl⟩ : ∃ w' : Nat, w = w' := ⟨w.toNat, by omega⟩
  rw [Int.toNat_natCast] at h2 h3
  cases L with
  | zero =>
   have : w = s := Va h hs (by omega) (by omega)
   subst this; exact hw
  | succ L =>
   obtain ⟨k1, k2⟩ := zaw h hs L w (by omega) (by omega)
   exact ⟨w, by omega, hw, k1, k2⟩
theorem zbz : ∀ (k v : Nat), v < n → Wx n E s (k + 1) v → (∀ w : Nat, (w : Int) ∈ zj E v → s < w → 0 ≤ nth (zJ n E s) w → (k : Int) ≤ nth (zJ n E s) w) → nth (yb E s s n (k + 1)) v = (v : Int) :: Yc E (zJ n E s) s k v
 | k, v, hv, hx, hmin => by
  have hne := (xY h hs k v hv).2 hx
  rw [WH hv] at hne ⊢
  rcases ZD (E := E) (s := s) (k := k + 1) (v := v) (fun u hu => (YX k u hu).2) n with ⟨e, _⟩ | ⟨u, hu, hc, hfirst, e⟩
  ·exact absurd e hne
  ·rw [e]
   obtain ⟨c1, c2⟩ := ZC.1 hc
   cases k with
   | zero =>
    rw [if_pos rfl] at c2
    unfold Zy
    rw [if_pos rfl, if_pos c2]; rfl
   | succ k =>
    rw [if_neg (by omega)] at c2
    have hxu := (xY h hs k u hu).1 c2.2
    have hdu := Wx.dist h hs k u hu c2.1 hxu
    have hmu := hmin u c1 c2.1 hdu.1
    have hdu' : nth (zJ n E s) u = (k + 1 : Nat) := by omega
    have hon : Yu (zJ n E s) s (k + 1 : Nat) u = true := by
     unfold Yu
     rw [decide_eq_true_eq, Int.toNat_natCast]
     exact ⟨by omega, hdu'⟩
    obtain ⟨j, hj, hfx, hpj⟩ := XI c1 hon
    have hin := zO h (zF hj)
    obtain ⟨x, hxn⟩ : ∃ x : Nat, nth (zj E v) j = x := ⟨(nth (zj E v) j).toNat, by omega⟩
    have hux : u = x := by
     rw [hxn] at hpj hin
     unfold Yu at hpj
     rw [decide_eq_true_eq, Int.toNat_natCast] at hpj
     have hxm : (x : Int) ∈ zj E v := by rw [← hxn]; exact zF hj
     obtain ⟨_, hwx⟩ := zaw h hs k x (by omega) hpj.2
     have hcx : zet E (yb E s s n (k + 1)) s s (k + 1 + 1) v x := ZC.2 ⟨hxm, by rw [if_neg (by omega)]; exact ⟨by omega, (xY h hs k x (by omega)).2 hwx⟩⟩
     rcases Nat.lt_trichotomy u x with hlt | heq | hgt
     ·-- u stands ahead of x in the row, and Vd takes the first
      obtain ⟨q, hq, hqu⟩ := List.getElem_of_mem c1
      have hqj : q < j := by
       rcases Nat.lt_or_ge q j with q1 | q1
       ·exact q1
       ·have hasc := List.pairwise_iff_getElem.1 (zaa E v)
        rcases Nat.lt_or_ge j q with q2 | q2
        ·have := hasc j q hj hq q2
         rw [← nth_eq hj, hxn, hqu] at this
         omega
        ·obtain rfl : q = j := by omega
         rw [nth_eq hq, hqu] at hxn
         omega
      have := Xc (Yu (zJ n E s) s (k + 1 : Nat)) (zj E v) (zj E v).length 0 j hfx q (Nat.zero_le _) hqj
      rw [nth_eq hq, hqu] at this
      rw [hon] at this; cases this
     ·exact heq
     ·exact absurd hcx (hfirst x hgt)
    have hstep : xF E (zJ n E s) s (k + 1 : Nat) v = u := by
     unfold xF
     rw [hfx, Int.toNat_natCast, hxn, hux, Int.toNat_natCast]
    show Zy (yb E s s n (k + 1)) s s (k + 1 + 1) v u = (v : Int) :: Yc E (zJ n E s) s (k + 1) v
    unfold Zy
    rw [if_neg (by omega), if_pos c2]
    have ih := zbz k u hu hxu fun w hw hsw h0 => by
     have hwin := zO h hw
     have := YE h hs (u := w) (v := u) (by omega) hu hw c2.1 h0
     omega
    rw [ih]
    show _ = (v : Int) :: ((xF E (zJ n E s) s (k + 1 : Nat) v : Nat) : Int) :: Yc E (zJ n E s) s k (xF E (zJ n E s) s (k + 1 : Nat) v)
    rw [hstep]
end
theorem zb3 (d : List Int) (st : Int) (row : List Int) : 0 ≤ yN d st row := by
 rcases YN d st row with e | ⟨w, _, _, h2, h3⟩ <;> omega
def lenOf (n : Nat) (E : List (Nat × Nat)) (s : Nat) : Int := yN (zJ n E s) s (zj E s)
section
variable {n : Nat} {E : List (Nat × Nat)} (h : InN n E)
include h
theorem VO {s : Nat} (hs : s < n) (h0 : lenOf n E s ≠ 0) : ∃ K : Nat, lenOf n E s = (K + 1 : Nat) ∧ K < n ∧ YF E n (K + 1) s = (s : Int) :: Yc E (zJ n E s) s K s := by
 obtain ⟨K, hK, hKn, _⟩ := ZW h hs h0
 refine ⟨K, hK, hKn, zbz h hs K s hs (zcx h hs hK) fun w hw hsw hd => ?_⟩
 have := ZV (d := zJ n E s) (st := s) hw (by omega) (by rw [Int.toNat_natCast]; exact hd)
 rw [Int.toNat_natCast, hK] at this
 omega
theorem VZ {s L : Nat} (hs : s < n) (h0 : YF E n (L + 1) s ≠ []) : 0 < lenOf n E s ∧ lenOf n E s ≤ (L + 1 : Nat) := zb4 h hs ((xY h hs L s hs).1 h0)
theorem zba : ∀ i, i ≤ n → (zag n E i = [] ∧ ∀ s, s < i → lenOf n E s = 0) ∨ ∃ s0 K, s0 < i ∧ lenOf n E s0 = ((K + 1 : Nat) : Int) ∧ zag n E i = (s0 : Int) :: Yc E (zJ n E s0) s0 K s0 ∧ (∀ s, s < i → lenOf n E s ≠ 0 → ((K + 1 : Nat) : Int) ≤ lenOf n E s) ∧ ∀ s, s < s0 → lenOf n E s ≠ 0 → ((K + 1 : Nat) : Int) < lenOf n E s
 | 0, _ => .inl ⟨rfl, fun s hs => by omega⟩
 | i + 1, hi => by
  rw [XB]
  have hL : yN (zJ n E i) i (zj E i) = lenOf n E i := rfl
  have hnn : 0 ≤ lenOf n E i := zb3 _ _ _
  unfold ZR
  dsimp only
  rw [hL]
  rcases zba i (by omega) with ⟨e, hz⟩ | ⟨s0, K, h1, h2, e, h4, h5⟩
  ·rw [e]
   by_cases h0 : lenOf n E i = 0
   ·rw [if_pos (.inl h0)]
    refine .inl ⟨rfl, fun s hs => ?_⟩
    by_cases hsi : s = i
    ·subst hsi; exact h0
    ·exact hz s (by omega)
   ·rw [if_neg (by rintro (q | q); exact h0 q; exact q.1 rfl)]
    obtain ⟨K, hK, _, _⟩ := VO h (by omega) h0
    refine .inr ⟨i, K, Nat.lt_succ_self _, hK, by rw [hK, Int.toNat_natCast]; rfl, fun s hs hne => ?_, fun s hs hne => absurd (hz s hs) hne⟩
    by_cases hsi : s = i
    ·subst hsi; omega
    ·exact absurd (hz s (by omega)) hne
  ·have hlen : (zag n E i).length = K + 1 := by rw [e, List.length_cons, WI]
   by_cases hc : lenOf n E i = 0 ∨ (zag n E i ≠ [] ∧ ((zag n E i).length : Int) ≤ lenOf n E i)
   ·rw [if_pos hc]
    refine .inr ⟨s0, K, by omega, h2, e, fun s hs hne => ?_, h5⟩
    by_cases hsi : s = i
    ·subst hsi
     rcases hc with q | q
     ·exact absurd q hne
     ·rw [hlen] at q; exact q.2
    ·exact h4 s (by omega) hne
   ·rw [if_neg hc]
    have h0 : lenOf n E i ≠ 0 := fun q => hc (.inl q)
    have hlt : lenOf n E i < ((K + 1 : Nat) : Int) := by
     have : ¬ ((zag n E i).length : Int) ≤ lenOf n E i := fun q => hc (.inr ⟨by rw [e]; exact List.cons_ne_nil _ _, q⟩)
     rw [hlen] at this; omega
    obtain ⟨K', hK, _, _⟩ := VO h (by omega) h0
    refine .inr ⟨i, K', Nat.lt_succ_self _, hK, by rw [hK, Int.toNat_natCast]; rfl, fun s hs hne => ?_, fun s hs hne => ?_⟩
    ·by_cases hsi : s = i
     ·subst hsi; omega
     ·have := h4 s (by omega) hne; omega
    ·have := h4 s hs hne; omega
end
theorem YH {E : List (Nat × Nat)} {n len : Nat} : ∀ (k s : Nat), (∀ u, s ≤ u → u < s + k → YF E n len u = []) → Zj E n len k s = []
 | 0, _, _ => rfl
 | k + 1, s, h => by
  unfold Zj
  rw [if_pos (h s (Nat.le_refl _) (by omega))]
  exact YH k (s + 1) fun u h1 h2 => h u (by omega) (by omega)
theorem Xa {E : List (Nat × Nat)} {n len s0 : Nat} (h0 : YF E n len s0 ≠ []) : ∀ (k s : Nat), s ≤ s0 → s0 < s + k → (∀ u, s ≤ u → u < s0 → YF E n len u = []) → Zj E n len k s = YF E n len s0
 | 0, s, h1, h2, _ => by omega
 | k + 1, s, h1, h2, h => by
  unfold Zj
  by_cases e : s = s0
  ·subst e; rw [if_neg h0]
  ·rw [if_pos (h s (Nat.le_refl _) (by omega))]
   exact Xa h0 k (s + 1) (by omega) (by omega) fun u q1 q2 => h u (by omega) q2
theorem XC {E : List (Nat × Nat)} {n : Nat} : ∀ (k len : Nat), (∀ l, len ≤ l → l < len + k → Zj E n l n 0 = []) → YG E n k len = []
 | 0, _, _ => rfl
 | k + 1, len, h => by
  unfold YG
  rw [if_pos (h len (Nat.le_refl _) (by omega))]
  exact XC k (len + 1) fun u h1 h2 => h u (by omega) (by omega)
theorem Yj {E : List (Nat × Nat)} {n l0 : Nat} (h0 : Zj E n l0 n 0 ≠ []) : ∀ (k len : Nat), len ≤ l0 → l0 < len + k → (∀ l, len ≤ l → l < l0 → Zj E n l n 0 = []) → YG E n k len = Zj E n l0 n 0
 | 0, len, h1, h2, _ => by omega
 | k + 1, len, h1, h2, h => by
  unfold YG
  by_cases e : len = l0
  ·subst e; rw [if_neg h0]
  ·rw [if_pos (h len (Nat.le_refl _) (by omega))]
   exact Yj h0 k (len + 1) (by omega) (by omega) fun u q1 q2 => h u (by omega) q2
theorem zdZ {n : Nat} {E : List (Nat × Nat)} (h : InN n E) : Up n E = zbo E n := by
 rcases zba h n (Nat.le_refl _) with ⟨e, hz⟩ | ⟨s0, K, h1, h2, e, h4, h5⟩
 ·show zag n E n = _
  rw [e]
  refine (XC n 1 fun l hl1 hl2 => YH n 0 fun u _ hu => ?_).symm
  obtain ⟨l, rfl⟩ : ∃ l', l = l' + 1 := ⟨l - 1, by omega⟩
  by_cases hc : YF E n (l + 1) u = []
  ·exact hc
  ·have := VZ h (by omega) hc
   have := hz u (by omega)
   omega
 ·show zag n E n = _
  rw [e]
  obtain ⟨K', hK', hKn, hw⟩ := VO h h1 (by omega)
  obtain rfl : K' = K := by omega
  have hne : YF E n (K' + 1) s0 ≠ [] := by rw [hw]; exact List.cons_ne_nil _ _
  have hrow : Zj E n (K' + 1) n 0 = YF E n (K' + 1) s0 := Xa hne n 0 (Nat.zero_le _) (by omega) fun u _ hu => by
   by_cases hc : YF E n (K' + 1) u = []
   ·exact hc
   ·have q := VZ h (by omega) hc
    have := h5 u hu (by omega)
    omega
  unfold zbo
  rw [Yj (l0 := K' + 1) (by rw [hrow]; exact hne) n 1 (by omega) (by omega) fun l hl1 hl2 => YH n 0 fun u _ hu => ?_, hrow, hw]
  obtain ⟨l, rfl⟩ : ∃ l', l = l' + 1 := ⟨l - 1, by omega⟩
  by_cases hc : YF E n (l + 1) u = []
  ·exact hc
  ·have q := VZ h (by omega) hc
   have := h4 u (by omega) (by omega)
   omega
end Go.Proofs.Ythjplkjpehdpfaa
