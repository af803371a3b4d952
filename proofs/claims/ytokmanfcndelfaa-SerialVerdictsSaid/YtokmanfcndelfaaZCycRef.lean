/-
  graph.Cycle and the reference find the same shortest cycle.
-/
import Derived.Test.YtokmanfcndelfaaZK
import Derived.Test.YtokmanfcndelfaaZM
import Derived.Test.YtokmanfcndelfaaZFmCyc2
namespace Go.Proofs.Ytokmanfcndelfaa
set_option linter.unusedVariables false

theorem zeV {E : List (Nat × Nat)} {a b : Nat} : Yd E a b = true ↔ (b : Int) ∈ zy E a := by
 unfold Yd
 rw [List.any_eq_true, yM]
 constructor
 ·rintro ⟨e, he, h⟩
  simp only [Bool.and_eq_true, decide_eq_true_eq] at h
  exact ⟨e, he, by omega, h.2⟩
 ·rintro ⟨e, he, h1, h2⟩
  exact ⟨e, he, by simp only [Bool.and_eq_true, decide_eq_true_eq]; omega⟩
def Wx (n : Nat) (E : List (Nat × Nat)) (s : Nat) : Nat → Nat → Prop
 | 0, _ => False
 | 1, v => (s : Int) ∈ zy E v
 | k + 2, v => ∃ w : Nat, w < n ∧ (w : Int) ∈ zy E v ∧ s < w ∧ Wx n E s (k + 1) w
def zim (E : List (Nat × Nat)) (O : List (List Int)) (tg ab k v w : Nat) : Prop := Yd E v w = true ∧ xe O tg ab k v w ≠ []
theorem YH {E : List (Nat × Nat)} {O : List (List Int)} {s k v : Nat} (hh : ∀ w, nth O w ≠ [] → ∃ r, nth O w = (w : Int) :: r) : ∀ j, (zcO E O s s k v j = [] ∧ ∀ w, w < j → ¬ zim E O s s k v w) ∨ ∃ w, w < j ∧ zim E O s s k v w ∧ (∀ u, u < w → ¬ zim E O s s k v u) ∧ zcO E O s s k v j = xe O s s k v w
 | 0 => .inl ⟨rfl, fun w hw => by omega⟩
 | j + 1 => by
  rw [zbD]
  rcases YH (E := E) (O := O) (s := s) (k := k) (v := v) hh j with ⟨e, h⟩ | ⟨w, h1, h2, h3, e⟩
  ·rw [e]
   unfold zae
   by_cases hc : zim E O s s k v j
   ·rw [if_pos ⟨hc.1, hc.2, .inl rfl⟩]
    exact .inr ⟨j, Nat.lt_succ_self _, hc, fun u hu => h u hu, rfl⟩
   ·rw [if_neg (fun q => hc ⟨q.1, q.2.1⟩)]
    refine .inl ⟨rfl, fun w hw => ?_⟩
    by_cases hwj : w = j
    ·subst hwj; exact hc
    ·exact h w (by omega)
  ·rw [e]
   refine .inr ⟨w, by omega, h2, h3, ?_⟩
   unfold zae
   refine if_neg fun q => ?_
   obtain ⟨q1, q2, q3⟩ := q
   rcases q3 with q3 | q3
   ·exact h2.2 q3
   ·have hw2 := h2.2
    unfold xe at q2 q3 hw2
    by_cases hk : k = 1
    ·rw [if_pos hk] at q2 hw2
     rw [if_pos hk, if_pos hk] at q3
     by_cases e1 : j = s
     ·by_cases e2 : w = s
      ·omega
      ·rw [if_neg e2] at hw2; exact hw2 rfl
     ·rw [if_neg e1] at q2; exact q2 rfl
    ·rw [if_neg hk] at q2 hw2
     rw [if_neg hk, if_neg hk] at q3
     by_cases e1 : s < j ∧ nth O j ≠ []
     ·by_cases e2 : s < w ∧ nth O w ≠ []
      ·rw [if_pos e1, if_pos e2] at q3
       obtain ⟨r1, f1⟩ := hh j e1.2
       obtain ⟨r2, f2⟩ := hh w e2.2
       rw [f1, f2] at q3
       unfold Wn at q3
       rw [if_pos rfl] at q3
       unfold Wn at q3
       rw [if_neg (by omega)] at q3
       simp at q3
       omega
      ·rw [if_neg e2] at hw2; exact hw2 rfl
     ·rw [if_neg e1] at q2; exact q2 rfl
theorem UF {E : List (Nat × Nat)} {s n k v : Nat} (hv : v < n) : nth (yf E s s n (k + 1)) v = zcO E (yf E s s n k) s s (k + 1) v n := by
 have e : yf E s s n (k + 1) = (List.range n).map fun v => if v < n then zcO E (yf E s s n k) s s (k + 1) v n else [] := rfl
 rw [e, nth_eq (by simpa using hv)]
 simp [hv]
theorem WC {E : List (Nat × Nat)} {s n : Nat} : ∀ (k w : Nat), nth (yf E s s n k) w ≠ [] → w < n ∧ ∃ r, nth (yf E s s n k) w = (w : Int) :: r
 | 0, w, h => by
  refine absurd ?_ h
  rcases Nat.lt_or_ge w n with hw | hw
  ·rw [nth_eq (by simpa [yf] using hw)]; simp [yf]
  ·unfold nth; rw [List.getD_eq_getElem?_getD, List.getElem?_eq_none (by simpa [yf] using hw)]; rfl
 | k + 1, w, h => by
  have hw : w < n := by
   rcases Nat.lt_or_ge w n with hw | hw
   ·exact hw
   ·refine absurd ?_ h
    unfold nth; rw [List.getD_eq_getElem?_getD, List.getElem?_eq_none (by rw [Ya]; exact hw)]; rfl
  refine ⟨hw, ?_⟩
  rw [UF hw] at h ⊢
  rcases YH (E := E) (s := s) (k := k + 1) (v := w) (fun u hu => (WC k u hu).2) n with ⟨e, _⟩ | ⟨u, _, hc, _, e⟩
  ·exact absurd e h
  ·rw [e]
   have h2 := hc.2
   unfold xe at h2 ⊢
   split at h2
   ·split at h2
    ·rename_i h3 h4
     rw [if_pos h3, if_pos h4]; exact ⟨_, rfl⟩
    ·exact absurd rfl h2
   ·split at h2
    ·rename_i h3 h4
     rw [if_neg h3, if_pos h4]; exact ⟨_, rfl⟩
    ·exact absurd rfl h2
theorem YG {E : List (Nat × Nat)} {s n k v w : Nat} : zim E (yf E s s n k) s s (k + 1) v w ↔ (w : Int) ∈ zy E v ∧ if k = 0 then w = s else s < w ∧ nth (yf E s s n k) w ≠ [] := by
 unfold zim
 rw [zeV]
 refine and_congr Iff.rfl ?_
 unfold xe
 by_cases hk : k = 0
 ·subst hk
  rw [if_pos rfl, if_pos rfl]
  by_cases e : w = s
  ·rw [if_pos e]; simp [e]
  ·rw [if_neg e]; simp [e]
 ·rw [if_neg (by omega), if_neg hk]
  by_cases e : s < w ∧ nth (yf E s s n k) w ≠ []
  ·rw [if_pos e]; simp [e.1, e.2]
  ·rw [if_neg e]
   constructor
   ·intro q; exact absurd rfl q
   ·intro q; exact absurd q e
theorem Zr {n : Nat} {E : List (Nat × Nat)} (h : InN n E) {s : Nat} (hs : s < n) : ∀ (k v : Nat), v < n → (nth (yf E s s n (k + 1)) v ≠ [] ↔ Wx n E s (k + 1) v)
 | k, v, hv => by
  rw [UF hv]
  have hex : zcO E (yf E s s n k) s s (k + 1) v n ≠ [] ↔ ∃ w, w < n ∧ zim E (yf E s s n k) s s (k + 1) v w := by
   rcases YH (E := E) (s := s) (k := k + 1) (v := v) (fun u hu => (WC k u hu).2) n with ⟨e, hno⟩ | ⟨u, h1, hc, _, e⟩
   ·constructor
    ·intro q; exact absurd e q
    ·rintro ⟨w, h1, h2⟩; exact absurd h2 (hno w h1)
   ·constructor
    ·intro _; exact ⟨u, h1, hc⟩
    ·intro _; rw [e]; exact hc.2
  rw [hex]
  cases k with
  | zero =>
   constructor
   ·rintro ⟨w, _, hc⟩
    obtain ⟨c1, c2⟩ := YG.1 hc
    rw [if_pos rfl] at c2
    subst c2; exact c1
   ·intro hm
    exact ⟨s, hs, YG.2 ⟨hm, by rw [if_pos rfl]⟩⟩
  | succ k =>
   constructor
   ·rintro ⟨w, hw, hc⟩
    obtain ⟨c1, c2⟩ := YG.1 hc
    rw [if_neg (by omega)] at c2
    exact ⟨w, hw, c1, c2.1, (Zr h hs k w hw).1 c2.2⟩
   ·rintro ⟨w, hw, hm, hsw, hx⟩
    exact ⟨w, hw, YG.2 ⟨hm, by rw [if_neg (by omega)]; exact ⟨hsw, (Zr h hs k w hw).2 hx⟩⟩⟩
section
variable {n : Nat} {E : List (Nat × Nat)} (h : InN n E) {s : Nat} (hs : s < n)
include h hs
theorem Wx.dist : ∀ (k w : Nat), w < n → s < w → Wx n E s (k + 1) w → 0 ≤ nth (zT n E s) w ∧ nth (zT n E s) w ≤ (k + 1 : Nat)
 | 0, w, hw, hsw, hx => by
  have h0 := zdN h hs
  have := Wg h hs hs hw (show (s : Int) ∈ zy E w from hx) hsw (by omega)
  omega
 | k + 1, w, hw, hsw, hx => by
  obtain ⟨u, hu, hm, hsu, hxu⟩ := hx
  have h1 := Wx.dist k u hu hsu hxu
  have := Wg h hs hu hw hm hsw h1.1
  omega
theorem zaW : ∀ (k w : Nat), w < n → nth (zT n E s) w = (k + 1 : Nat) → s < w ∧ Wx n E s (k + 1) w
 | 0, w, hw, hd => by
  refine ⟨XB h hs hw (by omega), ?_⟩
  obtain ⟨u, hu, hm, hdu⟩ := Vq h hs hw (by omega)
  have : u = s := zah h hs hu (by omega)
  subst this; exact hm
 | k + 1, w, hw, hd => by
  refine ⟨XB h hs hw (by omega), ?_⟩
  obtain ⟨u, hu, hm, hdu⟩ := Vq h hs hw (by omega)
  obtain ⟨h1, h2⟩ := zaW k u hu (by omega)
  exact ⟨u, hu, hm, h1, h2⟩
end
theorem UB (d : List Int) (st : Int) : ∀ (row : List Int) (len : Int), 0 ≤ len → (0 < len → row.foldl (yn d st) len ≤ len ∧ 0 < row.foldl (yn d st) len) ∧ ∀ w ∈ row, st ≤ w → 0 ≤ nth d w.toNat → 0 < row.foldl (yn d st) len ∧ row.foldl (yn d st) len ≤ nth d w.toNat + 1
 | [], len, _ => ⟨fun h => ⟨Int.le_refl _, h⟩, fun w hw => by cases hw⟩
 | x :: row, len, h0 => by
  rw [List.foldl_cons]
  have hs : 0 ≤ yn d st len x ∧ (0 < len → yn d st len x ≤ len ∧ 0 < yn d st len x) ∧ (st ≤ x → 0 ≤ nth d x.toNat → 0 < yn d st len x ∧ yn d st len x ≤ nth d x.toNat + 1) := by
   unfold yn
   split <;> rename_i hc
   ·refine ⟨by omega, fun _ => ?_, fun _ _ => by omega⟩
    rcases hc.2 with h | h <;> omega
   ·refine ⟨h0, fun _ => by omega, fun h1 h2 => ?_⟩
    have : ¬ (len = 0 ∨ nth d x.toNat + 1 < len) := fun q => hc ⟨⟨h1, h2⟩, q⟩
    omega
  obtain ⟨i1, i2⟩ := UB d st row (yn d st len x) hs.1
  refine ⟨fun h => ?_, fun w hw h1 h2 => ?_⟩
  ·have := hs.2.1 h
   have := i1 this.2
   omega
  ·rcases List.mem_cons.1 hw with rfl | hw
   ·have h3 := hs.2.2 h1 h2
    have := i1 h3.1
    omega
   ·exact i2 w hw h1 h2
theorem Xo {d : List Int} {st : Int} {row : List Int} {w : Int} (hw : w ∈ row) (h1 : st ≤ w) (h2 : 0 ≤ nth d w.toNat) : 0 < yX d st row ∧ yX d st row ≤ nth d w.toNat + 1 := (UB d st row 0 (Int.le_refl _)).2 w hw h1 h2
theorem WH (p : Int → Bool) (r : List Int) : ∀ (k i j : Nat), Yc p r k i = (j : Int) → ∀ q, i ≤ q → q < j → p (nth r q) = false
 | 0, i, j, h, q, _, _ => by
  have : (-1 : Int) = j := h
  omega
 | k + 1, i, j, h, q, h1, h2 => by
  unfold Yc at h
  by_cases hp : p (nth r i) = true
  ·rw [if_pos hp] at h; omega
  ·rw [if_neg hp] at h
   by_cases e : q = i
   ·subst e; simpa using hp
   ·exact WH p r k (i + 1) j h q (by omega) h2
section
variable {n : Nat} {E : List (Nat × Nat)} (h : InN n E) {s : Nat} (hs : s < n)
include h hs
theorem zau {L : Nat} (hx : Wx n E s (L + 1) s) : 0 < yX (zT n E s) s (zy E s) ∧ yX (zT n E s) s (zy E s) ≤ (L + 1 : Nat) := by
 cases L with
 | zero =>
  have h0 := zdN h hs
  have := Xo (d := zT n E s) (st := s) (show (s : Int) ∈ zy E s from hx) (Int.le_refl _) (by rw [Int.toNat_natCast]; omega)
  rw [Int.toNat_natCast] at this
  omega
 | succ L =>
  obtain ⟨w, hw, hm, hsw, hxw⟩ := hx
  have hd := Wx.dist h hs L w hw hsw hxw
  have := Xo (d := zT n E s) (st := s) hm (by omega) (by rw [Int.toNat_natCast]; omega)
  rw [Int.toNat_natCast] at this
  omega
theorem zaP {L : Nat} (hL : yX (zT n E s) s (zy E s) = (L + 1 : Nat)) : Wx n E s (L + 1) s := by
 rcases Wo (zT n E s) s (zy E s) with e | ⟨w, hw, h1, h2, h3⟩
 ·omega
 ·have hin := yw h hw
  obtain ⟨w, rfl⟩ : ∃ w' : Nat, w = w' := ⟨w.toNat, by omega⟩
  rw [Int.toNat_natCast] at h2 h3
  cases L with
  | zero =>
   have : w = s := zah h hs (by omega) (by omega)
   subst this; exact hw
  | succ L =>
   obtain ⟨k1, k2⟩ := zaW h hs L w (by omega) (by omega)
   exact ⟨w, by omega, hw, k1, k2⟩
theorem zem : ∀ (k v : Nat), v < n → Wx n E s (k + 1) v → (∀ w : Nat, (w : Int) ∈ zy E v → s < w → 0 ≤ nth (zT n E s) w → (k : Int) ≤ nth (zT n E s) w) → nth (yf E s s n (k + 1)) v = (v : Int) :: Zt E (zT n E s) s k v
 | k, v, hv, hx, hmin => by
  have hne := (Zr h hs k v hv).2 hx
  rw [UF hv] at hne ⊢
  rcases YH (E := E) (s := s) (k := k + 1) (v := v) (fun u hu => (WC k u hu).2) n with ⟨e, _⟩ | ⟨u, hu, hc, hfirst, e⟩
  ·exact absurd e hne
  ·rw [e]
   obtain ⟨c1, c2⟩ := YG.1 hc
   cases k with
   | zero =>
    rw [if_pos rfl] at c2
    unfold xe
    rw [if_pos rfl, if_pos c2]; rfl
   | succ k =>
    rw [if_neg (by omega)] at c2
    have hxu := (Zr h hs k u hu).1 c2.2
    have hdu := Wx.dist h hs k u hu c2.1 hxu
    have hmu := hmin u c1 c2.1 hdu.1
    have hdu' : nth (zT n E s) u = (k + 1 : Nat) := by omega
    have hon : Xq (zT n E s) s (k + 1 : Nat) u = true := by
     unfold Xq
     rw [decide_eq_true_eq, Int.toNat_natCast]
     exact ⟨by omega, hdu'⟩
    obtain ⟨j, hj, hfx, hpj⟩ := Xm c1 hon
    have hin := yw h (zI hj)
    obtain ⟨x, hxn⟩ : ∃ x : Nat, nth (zy E v) j = x := ⟨(nth (zy E v) j).toNat, by omega⟩
    have hux : u = x := by
     rw [hxn] at hpj hin
     unfold Xq at hpj
     rw [decide_eq_true_eq, Int.toNat_natCast] at hpj
     have hxm : (x : Int) ∈ zy E v := by rw [← hxn]; exact zI hj
     obtain ⟨_, hwx⟩ := zaW h hs k x (by omega) hpj.2
     have hcx : zim E (yf E s s n (k + 1)) s s (k + 1 + 1) v x := YG.2 ⟨hxm, by rw [if_neg (by omega)]; exact ⟨by omega, (Zr h hs k x (by omega)).2 hwx⟩⟩
     rcases Nat.lt_trichotomy u x with hlt | heq | hgt
     ·-- u stands ahead of x in the row, and WI takes the first
      obtain ⟨q, hq, hqu⟩ := List.getElem_of_mem c1
      have hqj : q < j := by
       rcases Nat.lt_or_ge q j with q1 | q1
       ·exact q1
       ·have hasc := List.pairwise_iff_getElem.1 (zcF E v)
        rcases Nat.lt_or_ge j q with q2 | q2
        ·have := hasc j q hj hq q2
         rw [← nth_eq hj, hxn, hqu] at this
         omega
        ·obtain rfl : q = j := by omega
         rw [nth_eq hq, hqu] at hxn
         omega
      have := WH (Xq (zT n E s) s (k + 1 : Nat)) (zy E v) (zy E v).length 0 j hfx q (Nat.zero_le _) hqj
      rw [nth_eq hq, hqu] at this
      rw [hon] at this; cases this
     ·exact heq
     ·exact absurd hcx (hfirst x hgt)
    have hstep : xD E (zT n E s) s (k + 1 : Nat) v = u := by
     unfold xD
     rw [hfx, Int.toNat_natCast, hxn, hux, Int.toNat_natCast]
    show xe (yf E s s n (k + 1)) s s (k + 1 + 1) v u = (v : Int) :: Zt E (zT n E s) s (k + 1) v
    unfold xe
    rw [if_neg (by omega), if_pos c2]
    have ih := zem k u hu hxu fun w hw hsw h0 => by
     have hwin := yw h hw
     have := Wg h hs (u := w) (v := u) (by omega) hu hw c2.1 h0
     omega
    rw [ih]
    show _ = (v : Int) :: ((xD E (zT n E s) s (k + 1 : Nat) v : Nat) : Int) :: Zt E (zT n E s) s k (xD E (zT n E s) s (k + 1 : Nat) v)
    rw [hstep]
end
theorem zeZ (d : List Int) (st : Int) (row : List Int) : 0 ≤ yX d st row := by
 rcases Wo d st row with e | ⟨w, _, _, h2, h3⟩ <;> omega
def lenOf (n : Nat) (E : List (Nat × Nat)) (s : Nat) : Int := yX (zT n E s) s (zy E s)
section
variable {n : Nat} {E : List (Nat × Nat)} (h : InN n E)
include h
theorem za9 {s : Nat} (hs : s < n) (h0 : lenOf n E s ≠ 0) : ∃ K : Nat, lenOf n E s = (K + 1 : Nat) ∧ K < n ∧ XC E n (K + 1) s = (s : Int) :: Zt E (zT n E s) s K s := by
 obtain ⟨K, hK, hKn, _⟩ := ZV h hs h0
 refine ⟨K, hK, hKn, zem h hs K s hs (zaP h hs hK) fun w hw hsw hd => ?_⟩
 have := Xo (d := zT n E s) (st := s) hw (by omega) (by rw [Int.toNat_natCast]; exact hd)
 rw [Int.toNat_natCast, hK] at this
 omega
theorem zbo {s L : Nat} (hs : s < n) (h0 : XC E n (L + 1) s ≠ []) : 0 < lenOf n E s ∧ lenOf n E s ≤ (L + 1 : Nat) := zau h hs ((Zr h hs L s hs).1 h0)
theorem WZ : ∀ i, i ≤ n → (zbr n E i = [] ∧ ∀ s, s < i → lenOf n E s = 0) ∨ ∃ s0 K, s0 < i ∧ lenOf n E s0 = ((K + 1 : Nat) : Int) ∧ zbr n E i = (s0 : Int) :: Zt E (zT n E s0) s0 K s0 ∧ (∀ s, s < i → lenOf n E s ≠ 0 → ((K + 1 : Nat) : Int) ≤ lenOf n E s) ∧ ∀ s, s < s0 → lenOf n E s ≠ 0 → ((K + 1 : Nat) : Int) < lenOf n E s
 | 0, _ => .inl ⟨rfl, fun s hs => by omega⟩
 | i + 1, hi => by
  rw [Vr]
  have hL : yX (zT n E i) i (zy E i) = lenOf n E i := rfl
  have hnn : 0 ≤ lenOf n E i := zeZ _ _ _
  unfold Xk
  dsimp only
  rw [hL]
  rcases WZ i (by omega) with ⟨e, hz⟩ | ⟨s0, K, h1, h2, e, h4, h5⟩
  ·rw [e]
   by_cases h0 : lenOf n E i = 0
   ·rw [if_pos (.inl h0)]
    refine .inl ⟨rfl, fun s hs => ?_⟩
    by_cases hsi : s = i
    ·subst hsi; exact h0
    ·exact hz s (by omega)
   ·rw [if_neg (by rintro (q | q); exact h0 q; exact q.1 rfl)]
    obtain ⟨K, hK, _, _⟩ := za9 h (by omega) h0
    refine .inr ⟨i, K, Nat.lt_succ_self _, hK, by rw [hK, Int.toNat_natCast]; rfl, fun s hs hne => ?_, fun s hs hne => absurd (hz s hs) hne⟩
    by_cases hsi : s = i
    ·subst hsi; omega
    ·exact absurd (hz s (by omega)) hne
  ·have hlen : (zbr n E i).length = K + 1 := by rw [e, List.length_cons, Wc]
   by_cases hc : lenOf n E i = 0 ∨ (zbr n E i ≠ [] ∧ ((zbr n E i).length : Int) ≤ lenOf n E i)
   ·rw [if_pos hc]
    refine .inr ⟨s0, K, by omega, h2, e, fun s hs hne => ?_, h5⟩
    by_cases hsi : s = i
    ·subst hsi
     rcases hc with q | q
     ·exact absurd q hne
     ·rw [hlen] at q; exact q.2
    ·exact h4 s (by omega) hne
   ·rw [if_neg hc]
    have h0 : lenOf n E i ≠ 0 := fun q => hc (.inl q)
    have hlt : lenOf n E i < ((K + 1 : Nat) : Int) := by
     have : ¬ ((zbr n E i).length : Int) ≤ lenOf n E i := fun q => hc (.inr ⟨by rw [e]; exact List.cons_ne_nil _ _, q⟩)
     rw [hlen] at this; omega
    obtain ⟨K', hK, _, _⟩ := za9 h (by omega) h0
    refine .inr ⟨i, K', Nat.lt_succ_self _, hK, by rw [hK, Int.toNat_natCast]; rfl, fun s hs hne => ?_, fun s hs hne => ?_⟩
    ·by_cases hsi : s = i
     ·subst hsi; omega
     ·have := h4 s (by omega) hne; omega
    ·have := h4 s hs hne; omega
end
theorem YI {E : List (Nat × Nat)} {n len : Nat} : ∀ (k s : Nat), (∀ u, s ≤ u → u < s + k → XC E n len u = []) → Zh E n len k s = []
 | 0, _, _ => rfl
 | k + 1, s, h => by
  unfold Zh
  rw [if_pos (h s (Nat.le_refl _) (by omega))]
  exact YI k (s + 1) fun u h1 h2 => h u (by omega) (by omega)
theorem WE {E : List (Nat × Nat)} {n len s0 : Nat} (h0 : XC E n len s0 ≠ []) : ∀ (k s : Nat), s ≤ s0 → s0 < s + k → (∀ u, s ≤ u → u < s0 → XC E n len u = []) → Zh E n len k s = XC E n len s0
 | 0, s, h1, h2, _ => by omega
 | k + 1, s, h1, h2, h => by
  unfold Zh
  by_cases e : s = s0
  ·subst e; rw [if_neg h0]
  ·rw [if_pos (h s (Nat.le_refl _) (by omega))]
   exact WE h0 k (s + 1) (by omega) (by omega) fun u q1 q2 => h u (by omega) q2
theorem Xj {E : List (Nat × Nat)} {n : Nat} : ∀ (k len : Nat), (∀ l, len ≤ l → l < len + k → Zh E n l n 0 = []) → Yj E n k len = []
 | 0, _, _ => rfl
 | k + 1, len, h => by
  unfold Yj
  rw [if_pos (h len (Nat.le_refl _) (by omega))]
  exact Xj k (len + 1) fun u h1 h2 => h u (by omega) (by omega)
theorem XD {E : List (Nat × Nat)} {n l0 : Nat} (h0 : Zh E n l0 n 0 ≠ []) : ∀ (k len : Nat), len ≤ l0 → l0 < len + k → (∀ l, len ≤ l → l < l0 → Zh E n l n 0 = []) → Yj E n k len = Zh E n l0 n 0
 | 0, len, h1, h2, _ => by omega
 | k + 1, len, h1, h2, h => by
  unfold Yj
  by_cases e : len = l0
  ·subst e; rw [if_neg h0]
  ·rw [if_pos (h len (Nat.le_refl _) (by omega))]
   exact XD h0 k (len + 1) (by omega) (by omega) fun u q1 q2 => h u (by omega) q2
theorem XE {n : Nat} {E : List (Nat × Nat)} (h : InN n E) : zdX n E = xm E n := by
 rcases WZ h n (Nat.le_refl _) with ⟨e, hz⟩ | ⟨s0, K, h1, h2, e, h4, h5⟩
 ·show zbr n E n = _
  rw [e]
  refine (Xj n 1 fun l hl1 hl2 => YI n 0 fun u _ hu => ?_).symm
  obtain ⟨l, rfl⟩ : ∃ l', l = l' + 1 := ⟨l - 1, by omega⟩
  by_cases hc : XC E n (l + 1) u = []
  ·exact hc
  ·have := zbo h (by omega) hc
   have := hz u (by omega)
   omega
 ·show zbr n E n = _
  rw [e]
  obtain ⟨K', hK', hKn, hw⟩ := za9 h h1 (by omega)
  obtain rfl : K' = K := by omega
  have hne : XC E n (K' + 1) s0 ≠ [] := by rw [hw]; exact List.cons_ne_nil _ _
  have hrow : Zh E n (K' + 1) n 0 = XC E n (K' + 1) s0 := WE hne n 0 (Nat.zero_le _) (by omega) fun u _ hu => by
   by_cases hc : XC E n (K' + 1) u = []
   ·exact hc
   ·have q := zbo h (by omega) hc
    have := h5 u hu (by omega)
    omega
  unfold xm
  rw [XD (l0 := K' + 1) (by rw [hrow]; exact hne) n 1 (by omega) (by omega) fun l hl1 hl2 => YI n 0 fun u _ hu => ?_, hrow, hw]
  obtain ⟨l, rfl⟩ : ∃ l', l = l' + 1 := ⟨l - 1, by omega⟩
  by_cases hc : XC E n (l + 1) u = []
  ·exact hc
  ·have q := zbo h (by omega) hc
   have := h4 u (by omega) (by omega)
   omega
end Go.Proofs.Ytokmanfcndelfaa
