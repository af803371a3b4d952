/-
  graph.Cycle and the reference find the same shortest cycle.
-/
import Derived.Test.YthjplkjpehdpfaaZK
import Derived.Test.YthjplkjpehdpfaaZM
import Derived.Test.YthjplkjpehdpfaaZFmCyc2
namespace Go.Proofs.Ythjplkjpehdpfaa
set_option linter.unusedVariables false

theorem zcI {E : List (Nat × Nat)} {a b : Nat} : Ww E a b = true ↔ (b : Int) ∈ zi E a := by
 unfold Ww
 rw [List.any_eq_true, yw]
 constructor
 ·rintro ⟨e, he, h⟩
  simp only [Bool.and_eq_true, decide_eq_true_eq] at h
  exact ⟨e, he, by omega, h.2⟩
 ·rintro ⟨e, he, h1, h2⟩
  exact ⟨e, he, by simp only [Bool.and_eq_true, decide_eq_true_eq]; omega⟩
def Wx (n : Nat) (E : List (Nat × Nat)) (s : Nat) : Nat → Nat → Prop
 | 0, _ => False
 | 1, v => (s : Int) ∈ zi E v
 | k + 2, v => ∃ w : Nat, w < n ∧ (w : Int) ∈ zi E v ∧ s < w ∧ Wx n E s (k + 1) w
def zfl (E : List (Nat × Nat)) (O : List (List Int)) (tg ab k v w : Nat) : Prop := Ww E v w = true ∧ ZH O tg ab k v w ≠ []
theorem ZM {E : List (Nat × Nat)} {O : List (List Int)} {s k v : Nat} (hh : ∀ w, nth O w ≠ [] → ∃ r, nth O w = (w : Int) :: r) : ∀ j, (zez E O s s k v j = [] ∧ ∀ w, w < j → ¬ zfl E O s s k v w) ∨ ∃ w, w < j ∧ zfl E O s s k v w ∧ (∀ u, u < w → ¬ zfl E O s s k v u) ∧ zez E O s s k v j = ZH O s s k v w
 | 0 => .inl ⟨rfl, fun w hw => by omega⟩
 | j + 1 => by
  rw [zdu]
  rcases ZM (E := E) (O := O) (s := s) (k := k) (v := v) hh j with ⟨e, h⟩ | ⟨w, h1, h2, h3, e⟩
  ·rw [e]
   unfold zep
   by_cases hc : zfl E O s s k v j
   ·rw [if_pos ⟨hc.1, hc.2, .inl rfl⟩]
    exact .inr ⟨j, Nat.lt_succ_self _, hc, fun u hu => h u hu, rfl⟩
   ·rw [if_neg (fun q => hc ⟨q.1, q.2.1⟩)]
    refine .inl ⟨rfl, fun w hw => ?_⟩
    by_cases hwj : w = j
    ·subst hwj; exact hc
    ·exact h w (by omega)
  ·rw [e]
   refine .inr ⟨w, by omega, h2, h3, ?_⟩
   unfold zep
   refine if_neg fun q => ?_
   obtain ⟨q1, q2, q3⟩ := q
   rcases q3 with q3 | q3
   ·exact h2.2 q3
   ·have hw2 := h2.2
    unfold ZH at q2 q3 hw2
    by_cases hk : k = 1
    ·rw [if_pos hk] at q2 hw2
     rw [if_pos hk, if_pos hk] at q3
     by_cases e1 : j = s
     ·by_cases e2 : w = s
      ·omega
      ·rw [if_neg e2] at hw2; exact hw2 rfl
     ·rw [if_neg e1] at q2; exact q2 rfl
    ·rw [if_neg hk] at q2 hw2
     rw [if_neg hk, if_neg hk] at q3
     by_cases e1 : s < j ∧ nth O j ≠ []
     ·by_cases e2 : s < w ∧ nth O w ≠ []
      ·rw [if_pos e1, if_pos e2] at q3
       obtain ⟨r1, f1⟩ := hh j e1.2
       obtain ⟨r2, f2⟩ := hh w e2.2
       rw [f1, f2] at q3
       unfold zeX at q3
       rw [if_pos rfl] at q3
       unfold zeX at q3
       rw [if_neg (by omega)] at q3
       simp at q3
       omega
      ·rw [if_neg e2] at hw2; exact hw2 rfl
     ·rw [if_neg e1] at q2; exact q2 rfl
theorem Vb {E : List (Nat × Nat)} {s n k v : Nat} (hv : v < n) : nth (zT E s s n (k + 1)) v = zez E (zT E s s n k) s s (k + 1) v n := by
 have e : zT E s s n (k + 1) = (List.range n).map fun v => if v < n then zez E (zT E s s n k) s s (k + 1) v n else [] := rfl
 rw [e, nth_eq (by simpa using hv)]
 simp [hv]
theorem Xn {E : List (Nat × Nat)} {s n : Nat} : ∀ (k w : Nat), nth (zT E s s n k) w ≠ [] → w < n ∧ ∃ r, nth (zT E s s n k) w = (w : Int) :: r
 | 0, w, h => by
  refine absurd ?_ h
  rcases Nat.lt_or_ge w n with hw | hw
  ·rw [nth_eq (by simpa [zT] using hw)]; simp [zT]
  ·unfold nth; rw [List.getD_eq_getElem?_getD, List.getElem?_eq_none (by simpa [zT] using hw)]; rfl
 | k + 1, w, h => by
  have hw : w < n := by
   rcases Nat.lt_or_ge w n with hw | hw
   ·exact hw
   ·refine absurd ?_ h
    unfold nth; rw [List.getD_eq_getElem?_getD, List.getElem?_eq_none (by rw [zbF]; exact hw)]; rfl
  refine ⟨hw, ?_⟩
  rw [Vb hw] at h ⊢
  rcases ZM (E := E) (s := s) (k := k + 1) (v := w) (fun u hu => (Xn k u hu).2) n with ⟨e, _⟩ | ⟨u, _, hc, _, e⟩
  ·exact absurd e h
  ·rw [e]
   have h2 := hc.2
   unfold ZH at h2 ⊢
   split at h2
   ·split at h2
    ·rename_i h3 h4
     rw [if_pos h3, if_pos h4]; exact ⟨_, rfl⟩
    ·exact absurd rfl h2
   ·split at h2
    ·rename_i h3 h4
     rw [if_neg h3, if_pos h4]; exact ⟨_, rfl⟩
    ·exact absurd rfl h2
theorem ZL {E : List (Nat × Nat)} {s n k v w : Nat} : zfl E (zT E s s n k) s s (k + 1) v w ↔ (w : Int) ∈ zi E v ∧ if k = 0 then w = s else s < w ∧ nth (zT E s s n k) w ≠ [] := by
 unfold zfl
 rw [zcI]
 refine and_congr Iff.rfl ?_
 unfold ZH
 by_cases hk : k = 0
 ·subst hk
  rw [if_pos rfl, if_pos rfl]
  by_cases e : w = s
  ·rw [if_pos e]; simp [e]
  ·rw [if_neg e]; simp [e]
 ·rw [if_neg (by omega), if_neg hk]
  by_cases e : s < w ∧ nth (zT E s s n k) w ≠ []
  ·rw [if_pos e]; simp [e.1, e.2]
  ·rw [if_neg e]
   constructor
   ·intro q; exact absurd rfl q
   ·intro q; exact absurd q e
theorem Zg {n : Nat} {E : List (Nat × Nat)} (h : InN n E) {s : Nat} (hs : s < n) : ∀ (k v : Nat), v < n → (nth (zT E s s n (k + 1)) v ≠ [] ↔ Wx n E s (k + 1) v)
 | k, v, hv => by
  rw [Vb hv]
  have hex : zez E (zT E s s n k) s s (k + 1) v n ≠ [] ↔ ∃ w, w < n ∧ zfl E (zT E s s n k) s s (k + 1) v w := by
   rcases ZM (E := E) (s := s) (k := k + 1) (v := v) (fun u hu => (Xn k u hu).2) n with ⟨e, hno⟩ | ⟨u, h1, hc, _, e⟩
   ·constructor
    ·intro q; exact absurd e q
    ·rintro ⟨w, h1, h2⟩; exact absurd h2 (hno w h1)
   ·constructor
    ·intro _; exact ⟨u, h1, hc⟩
    ·intro _; rw [e]; exact hc.2
  rw [hex]
  cases k with
  | zero =>
   constructor
   ·rintro ⟨w, _, hc⟩
    obtain ⟨c1, c2⟩ := ZL.1 hc
    rw [if_pos rfl] at c2
    subst c2; exact c1
   ·intro hm
    exact ⟨s, hs, ZL.2 ⟨hm, by rw [if_pos rfl]⟩⟩
  | succ k =>
   constructor
   ·rintro ⟨w, hw, hc⟩
    obtain ⟨c1, c2⟩ := ZL.1 hc
    rw [if_neg (by omega)] at c2
    exact ⟨w, hw, c1, c2.1, (Zg h hs k w hw).1 c2.2⟩
   ·rintro ⟨w, hw, hm, hsw, hx⟩
    exact ⟨w, hw, ZL.2 ⟨hm, by rw [if_neg (by omega)]; exact ⟨hsw, (Zg h hs k w hw).2 hx⟩⟩⟩
section
variable {n : Nat} {E : List (Nat × Nat)} (h : InN n E) {s : Nat} (hs : s < n)
include h hs
theorem Wx.dist : ∀ (k w : Nat), w < n → s < w → Wx n E s (k + 1) w → 0 ≤ nth (zH n E s) w ∧ nth (zH n E s) w ≤ (k + 1 : Nat)
 | 0, w, hw, hsw, hx => by
  have h0 := zbN h hs
  have := YW h hs hs hw (show (s : Int) ∈ zi E w from hx) hsw (by omega)
  omega
 | k + 1, w, hw, hsw, hx => by
  obtain ⟨u, hu, hm, hsu, hxu⟩ := hx
  have h1 := Wx.dist k u hu hsu hxu
  have := YW h hs hu hw hm hsw h1.1
  omega
theorem zba : ∀ (k w : Nat), w < n → nth (zH n E s) w = (k + 1 : Nat) → s < w ∧ Wx n E s (k + 1) w
 | 0, w, hw, hd => by
  refine ⟨Yu h hs hw (by omega), ?_⟩
  obtain ⟨u, hu, hm, hdu⟩ := XU h hs hw (by omega)
  have : u = s := Vw h hs hu (by omega)
  subst this; exact hm
 | k + 1, w, hw, hd => by
  refine ⟨Yu h hs hw (by omega), ?_⟩
  obtain ⟨u, hu, hm, hdu⟩ := XU h hs hw (by omega)
  obtain ⟨h1, h2⟩ := zba k u hu (by omega)
  exact ⟨u, hu, hm, h1, h2⟩
end
theorem WU (d : List Int) (st : Int) : ∀ (row : List Int) (len : Int), 0 ≤ len → (0 < len → row.foldl (zM d st) len ≤ len ∧ 0 < row.foldl (zM d st) len) ∧ ∀ w ∈ row, st ≤ w → 0 ≤ nth d w.toNat → 0 < row.foldl (zM d st) len ∧ row.foldl (zM d st) len ≤ nth d w.toNat + 1
 | [], len, _ => ⟨fun h => ⟨Int.le_refl _, h⟩, fun w hw => by cases hw⟩
 | x :: row, len, h0 => by
  rw [List.foldl_cons]
  have hs : 0 ≤ zM d st len x ∧ (0 < len → zM d st len x ≤ len ∧ 0 < zM d st len x) ∧ (st ≤ x → 0 ≤ nth d x.toNat → 0 < zM d st len x ∧ zM d st len x ≤ nth d x.toNat + 1) := by
   unfold zM
   split <;> rename_i hc
   ·refine ⟨by omega, fun _ => ?_, fun _ _ => by omega⟩
    rcases hc.2 with h | h <;> omega
   ·refine ⟨h0, fun _ => by omega, fun h1 h2 => ?_⟩
    have : ¬ (len = 0 ∨ nth d x.toNat + 1 < len) := fun q => hc ⟨⟨h1, h2⟩, q⟩
    omega
  obtain ⟨i1, i2⟩ := WU d st row (zM d st len x) hs.1
  refine ⟨fun h => ?_, fun w hw h1 h2 => ?_⟩
  ·have := hs.2.1 h
   have := i1 this.2
   omega
  ·rcases List.mem_cons.1 hw with rfl | hw
   ·have h3 := hs.2.2 h1 h2
    have := i1 h3.1
    omega
   ·exact i2 w hw h1 h2
theorem Yj {d : List Int} {st : Int} {row : List Int} {w : Int} (hw : w ∈ row) (h1 : st ≤ w) (h2 : 0 ≤ nth d w.toNat) : 0 < yN d st row ∧ yN d st row ≤ nth d w.toNat + 1 := (WU d st row 0 (Int.le_refl _)).2 w hw h1 h2
theorem Xv (p : Int → Bool) (r : List Int) : ∀ (k i j : Nat), Yy p r k i = (j : Int) → ∀ q, i ≤ q → q < j → p (nth r q) = false
 | 0, i, j, h, q, _, _ => by
  have : (-1 : Int) = j := h
  omega
 | k + 1, i, j, h, q, h1, h2 => by
  unfold Yy at h
  by_cases hp : p (nth r i) = true
  ·rw [if_pos hp] at h; omega
  ·rw [if_neg hp] at h
   by_cases e : q = i
   ·subst e; simpa using hp
   ·exact Xv p r k (i + 1) j h q (by omega) h2
section
variable {n : Nat} {E : List (Nat × Nat)} (h : InN n E) {s : Nat} (hs : s < n)
include h hs
theorem zcL {L : Nat} (hx : Wx n E s (L + 1) s) : 0 < yN (zH n E s) s (zi E s) ∧ yN (zH n E s) s (zi E s) ≤ (L + 1 : Nat) := by
 cases L with
 | zero =>
  have h0 := zbN h hs
  have := Yj (d := zH n E s) (st := s) (show (s : Int) ∈ zi E s from hx) (Int.le_refl _) (by rw [Int.toNat_natCast]; omega)
  rw [Int.toNat_natCast] at this
  omega
 | succ L =>
  obtain ⟨w, hw, hm, hsw, hxw⟩ := hx
  have hd := Wx.dist h hs L w hw hsw hxw
  have := Yj (d := zH n E s) (st := s) hm (by omega) (by rw [Int.toNat_natCast]; omega)
  rw [Int.toNat_natCast] at this
  omega
theorem zdh {L : Nat} (hL : yN (zH n E s) s (zi E s) = (L + 1 : Nat)) : Wx n E s (L + 1) s := by
 rcases Xc (zH n E s) s (zi E s) with e | ⟨w, hw, h1, h2, h3⟩
 ·omega
 ·have hin := zL h hw
  obtain ⟨w, rfl⟩ : ∃ w' : Nat, w = w' := ⟨w.toNat, by omega⟩
  rw [Int.toNat_natCast] at h2 h3
  cases L with
  | zero =>
   have : w = s := Vw h hs (by omega) (by omega)
   subst this; exact hw
  | succ L =>
   obtain ⟨k1, k2⟩ := zba h hs L w (by omega) (by omega)
   exact ⟨w, by omega, hw, k1, k2⟩
theorem zce : ∀ (k v : Nat), v < n → Wx n E s (k + 1) v → (∀ w : Nat, (w : Int) ∈ zi E v → s < w → 0 ≤ nth (zH n E s) w → (k : Int) ≤ nth (zH n E s) w) → nth (zT E s s n (k + 1)) v = (v : Int) :: Yr E (zH n E s) s k v
 | k, v, hv, hx, hmin => by
  have hne := (Zg h hs k v hv).2 hx
  rw [Vb hv] at hne ⊢
  rcases ZM (E := E) (s := s) (k := k + 1) (v := v) (fun u hu => (Xn k u hu).2) n with ⟨e, _⟩ | ⟨u, hu, hc, hfirst, e⟩
  ·exact absurd e hne
  ·rw [e]
   obtain ⟨c1, c2⟩ := ZL.1 hc
   cases k with
   | zero =>
    rw [if_pos rfl] at c2
    unfold ZH
    rw [if_pos rfl, if_pos c2]; rfl
   | succ k =>
    rw [if_neg (by omega)] at c2
    have hxu := (Zg h hs k u hu).1 c2.2
    have hdu := Wx.dist h hs k u hu c2.1 hxu
    have hmu := hmin u c1 c2.1 hdu.1
    have hdu' : nth (zH n E s) u = (k + 1 : Nat) := by omega
    have hon : YI (zH n E s) s (k + 1 : Nat) u = true := by
     unfold YI
     rw [decide_eq_true_eq, Int.toNat_natCast]
     exact ⟨by omega, hdu'⟩
    obtain ⟨j, hj, hfx, hpj⟩ := Wc c1 hon
    have hin := zL h (zK hj)
    obtain ⟨x, hxn⟩ : ∃ x : Nat, nth (zi E v) j = x := ⟨(nth (zi E v) j).toNat, by omega⟩
    have hux : u = x := by
     rw [hxn] at hpj hin
     unfold YI at hpj
     rw [decide_eq_true_eq, Int.toNat_natCast] at hpj
     have hxm : (x : Int) ∈ zi E v := by rw [← hxn]; exact zK hj
     obtain ⟨_, hwx⟩ := zba h hs k x (by omega) hpj.2
     have hcx : zfl E (zT E s s n (k + 1)) s s (k + 1 + 1) v x := ZL.2 ⟨hxm, by rw [if_neg (by omega)]; exact ⟨by omega, (Zg h hs k x (by omega)).2 hwx⟩⟩
     rcases Nat.lt_trichotomy u x with hlt | heq | hgt
     ·-- u stands ahead of x in the row, and Vz takes the first
      obtain ⟨q, hq, hqu⟩ := List.getElem_of_mem c1
      have hqj : q < j := by
       rcases Nat.lt_or_ge q j with q1 | q1
       ·exact q1
       ·have hasc := List.pairwise_iff_getElem.1 (Zd E v)
        rcases Nat.lt_or_ge j q with q2 | q2
        ·have := hasc j q hj hq q2
         rw [← nth_eq hj, hxn, hqu] at this
         omega
        ·obtain rfl : q = j := by omega
         rw [nth_eq hq, hqu] at hxn
         omega
      have := Xv (YI (zH n E s) s (k + 1 : Nat)) (zi E v) (zi E v).length 0 j hfx q (Nat.zero_le _) hqj
      rw [nth_eq hq, hqu] at this
      rw [hon] at this; cases this
     ·exact heq
     ·exact absurd hcx (hfirst x hgt)
    have hstep : xO E (zH n E s) s (k + 1 : Nat) v = u := by
     unfold xO
     rw [hfx, Int.toNat_natCast, hxn, hux, Int.toNat_natCast]
    show ZH (zT E s s n (k + 1)) s s (k + 1 + 1) v u = (v : Int) :: Yr E (zH n E s) s (k + 1) v
    unfold ZH
    rw [if_neg (by omega), if_pos c2]
    have ih := zce k u hu hxu fun w hw hsw h0 => by
     have hwin := zL h hw
     have := YW h hs (u := w) (v := u) (by omega) hu hw c2.1 h0
     omega
    rw [ih]
    show _ = (v : Int) :: ((xO E (zH n E s) s (k + 1 : Nat) v : Nat) : Int) :: Yr E (zH n E s) s k (xO E (zH n E s) s (k + 1 : Nat) v)
    rw [hstep]
end
theorem zcK (d : List Int) (st : Int) (row : List Int) : 0 ≤ yN d st row := by
 rcases Xc d st row with e | ⟨w, _, _, h2, h3⟩ <;> omega
def lenOf (n : Nat) (E : List (Nat × Nat)) (s : Nat) : Int := yN (zH n E s) s (zi E s)
section
variable {n : Nat} {E : List (Nat × Nat)} (h : InN n E)
include h
theorem UA {s : Nat} (hs : s < n) (h0 : lenOf n E s ≠ 0) : ∃ K : Nat, lenOf n E s = (K + 1 : Nat) ∧ K < n ∧ ZV E n (K + 1) s = (s : Int) :: Yr E (zH n E s) s K s := by
 obtain ⟨K, hK, hKn, _⟩ := Yk h hs h0
 refine ⟨K, hK, hKn, zce h hs K s hs (zdh h hs hK) fun w hw hsw hd => ?_⟩
 have := Yj (d := zH n E s) (st := s) hw (by omega) (by rw [Int.toNat_natCast]; exact hd)
 rw [Int.toNat_natCast, hK] at this
 omega
theorem UK {s L : Nat} (hs : s < n) (h0 : ZV E n (L + 1) s ≠ []) : 0 < lenOf n E s ∧ lenOf n E s ≤ (L + 1 : Nat) := zcL h hs ((Zg h hs L s hs).1 h0)
theorem zbP : ∀ i, i ≤ n → (zaS n E i = [] ∧ ∀ s, s < i → lenOf n E s = 0) ∨ ∃ s0 K, s0 < i ∧ lenOf n E s0 = ((K + 1 : Nat) : Int) ∧ zaS n E i = (s0 : Int) :: Yr E (zH n E s0) s0 K s0 ∧ (∀ s, s < i → lenOf n E s ≠ 0 → ((K + 1 : Nat) : Int) ≤ lenOf n E s) ∧ ∀ s, s < s0 → lenOf n E s ≠ 0 → ((K + 1 : Nat) : Int) < lenOf n E s
 | 0, _ => .inl ⟨rfl, fun s hs => by omega⟩
 | i + 1, hi => by
  rw [XV]
  have hL : yN (zH n E i) i (zi E i) = lenOf n E i := rfl
  have hnn : 0 ≤ lenOf n E i := zcK _ _ _
  unfold Yf
  dsimp only
  rw [hL]
  rcases zbP i (by omega) with ⟨e, hz⟩ | ⟨s0, K, h1, h2, e, h4, h5⟩
  ·rw [e]
   by_cases h0 : lenOf n E i = 0
   ·rw [if_pos (.inl h0)]
    refine .inl ⟨rfl, fun s hs => ?_⟩
    by_cases hsi : s = i
    ·subst hsi; exact h0
    ·exact hz s (by omega)
   ·rw [if_neg (by rintro (q | q); exact h0 q; exact q.1 rfl)]
    obtain ⟨K, hK, _, _⟩ := UA h (by omega) h0
    refine .inr ⟨i, K, Nat.lt_succ_self _, hK, by rw [hK, Int.toNat_natCast]; rfl, fun s hs hne => ?_, fun s hs hne => absurd (hz s hs) hne⟩
    by_cases hsi : s = i
    ·subst hsi; omega
    ·exact absurd (hz s (by omega)) hne
  ·have hlen : (zaS n E i).length = K + 1 := by rw [e, List.length_cons, Vc]
   by_cases hc : lenOf n E i = 0 ∨ (zaS n E i ≠ [] ∧ ((zaS n E i).length : Int) ≤ lenOf n E i)
   ·rw [if_pos hc]
    refine .inr ⟨s0, K, by omega, h2, e, fun s hs hne => ?_, h5⟩
    by_cases hsi : s = i
    ·subst hsi
     rcases hc with q | q
     ·exact absurd q hne
     ·rw [hlen] at q; exact q.2
    ·exact h4 s (by omega) hne
   ·rw [if_neg hc]
    have h0 : lenOf n E i ≠ 0 := fun q => hc (.inl q)
    have hlt : lenOf n E i < ((K + 1 : Nat) : Int) := by
     have : ¬ ((zaS n E i).length : Int) ≤ lenOf n E i := fun q => hc (.inr ⟨by rw [e]; exact List.cons_ne_nil _ _, q⟩)
     rw [hlen] at this; omega
    obtain ⟨K', hK, _, _⟩ := UA h (by omega) h0
    refine .inr ⟨i, K', Nat.lt_succ_self _, hK, by rw [hK, Int.toNat_natCast]; rfl, fun s hs hne => ?_, fun s hs hne => ?_⟩
    ·by_cases hsi : s = i
     ·subst hsi; omega
     ·have := h4 s (by omega) hne; omega
    ·have := h4 s hs hne; omega
end
theorem YX {E : List (Nat × Nat)} {n len : Nat} : ∀ (k s : Nat), (∀ u, s ≤ u → u < s + k → ZV E n len u = []) → xK E n len k s = []
 | 0, _, _ => rfl
 | k + 1, s, h => by
  unfold xK
  rw [if_pos (h s (Nat.le_refl _) (by omega))]
  exact YX k (s + 1) fun u h1 h2 => h u (by omega) (by omega)
theorem Xt {E : List (Nat × Nat)} {n len s0 : Nat} (h0 : ZV E n len s0 ≠ []) : ∀ (k s : Nat), s ≤ s0 → s0 < s + k → (∀ u, s ≤ u → u < s0 → ZV E n len u = []) → xK E n len k s = ZV E n len s0
 | 0, s, h1, h2, _ => by omega
 | k + 1, s, h1, h2, h => by
  unfold xK
  by_cases e : s = s0
  ·subst e; rw [if_neg h0]
  ·rw [if_pos (h s (Nat.le_refl _) (by omega))]
   exact Xt h0 k (s + 1) (by omega) (by omega) fun u q1 q2 => h u (by omega) q2
theorem XW {E : List (Nat × Nat)} {n : Nat} : ∀ (k len : Nat), (∀ l, len ≤ l → l < len + k → xK E n l n 0 = []) → Zv E n k len = []
 | 0, _, _ => rfl
 | k + 1, len, h => by
  unfold Zv
  rw [if_pos (h len (Nat.le_refl _) (by omega))]
  exact XW k (len + 1) fun u h1 h2 => h u (by omega) (by omega)
theorem Yw {E : List (Nat × Nat)} {n l0 : Nat} (h0 : xK E n l0 n 0 ≠ []) : ∀ (k len : Nat), len ≤ l0 → l0 < len + k → (∀ l, len ≤ l → l < l0 → xK E n l n 0 = []) → Zv E n k len = xK E n l0 n 0
 | 0, len, h1, h2, _ => by omega
 | k + 1, len, h1, h2, h => by
  unfold Zv
  by_cases e : len = l0
  ·subst e; rw [if_neg h0]
  ·rw [if_pos (h len (Nat.le_refl _) (by omega))]
   exact Yw h0 k (len + 1) (by omega) (by omega) fun u q1 q2 => h u (by omega) q2
theorem zbQ {n : Nat} {E : List (Nat × Nat)} (h : InN n E) : zaa n E = Xx E n := by
 rcases zbP h n (Nat.le_refl _) with ⟨e, hz⟩ | ⟨s0, K, h1, h2, e, h4, h5⟩
 ·show zaS n E n = _
  rw [e]
  refine (XW n 1 fun l hl1 hl2 => YX n 0 fun u _ hu => ?_).symm
  obtain ⟨l, rfl⟩ : ∃ l', l = l' + 1 := ⟨l - 1, by omega⟩
  by_cases hc : ZV E n (l + 1) u = []
  ·exact hc
  ·have := UK h (by omega) hc
   have := hz u (by omega)
   omega
 ·show zaS n E n = _
  rw [e]
  obtain ⟨K', hK', hKn, hw⟩ := UA h h1 (by omega)
  obtain rfl : K' = K := by omega
  have hne : ZV E n (K' + 1) s0 ≠ [] := by rw [hw]; exact List.cons_ne_nil _ _
  have hrow : xK E n (K' + 1) n 0 = ZV E n (K' + 1) s0 := Xt hne n 0 (Nat.zero_le _) (by omega) fun u _ hu => by
   by_cases hc : ZV E n (K' + 1) u = []
   ·exact hc
   ·have q := UK h (by omega) hc
    have := h5 u hu (by omega)
    omega
  unfold Xx
  rw [Yw (l0 := K' + 1) (by rw [hrow]; exact hne) n 1 (by omega) (by omega) fun l hl1 hl2 => YX n 0 fun u _ hu => ?_, hrow, hw]
  obtain ⟨l, rfl⟩ : ∃ l', l = l' + 1 := ⟨l - 1, by omega⟩
  by_cases hc : ZV E n (l + 1) u = []
  ·exact hc
  ·have q := UK h (by omega) hc
   have := h4 u (by omega) (by omega)
   omega
end Go.Proofs.Ythjplkjpehdpfaa
