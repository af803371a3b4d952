/-
  Sequences of operations of one process that do not overlap, in plain Lean.
-/
import Derived.Test.YtbeebjdnapkhhaaZGenLin
import Derived.Test.YtbeebjdnapkhhaaZG
namespace Go.Proofs.Ytbeebjdnapkhhaa
set_option linter.unusedVariables false

def sqN (l : List Int) (i : Nat) : Nat := (zX (nth l i) 10000).toNat
def zkk (n i : Nat) (now : List Int) : OpV :=
 if n % 2 = 1 then ⟨0, 1, (n / 2 % 2 : Nat), (i : Int) + 1, 0, 2 * i, 2 * i + 1, true⟩
 else ⟨0, 0, (n / 2 % 2 : Nat), 0, if n / 4 % 9 = 0 then (n / 36 % 13 : Nat) else nth now (n / 2 % 2), 2 * i, 2 * i + 1, true⟩
def zbB (l : List Int) : Nat → List Int
 | 0 => [0, 0]
 | i + 1 => if sqN l i % 2 = 1 then (zbB l i).set (sqN l i / 2 % 2) ((i : Int) + 1) else zbB l i
def XC (l : List Int) (i : Nat) : OpV := zkk (sqN l i) i (zbB l i)
def sqH (l : List Int) (k : Nat) : List OpV := (List.range k).map (XC l)
def ziL (l : List Int) (i : Nat) : Bool := decide ((XC l i).k = 1) || decide ((XC l i).res = nth (zbB l i) (sqN l i / 2 % 2))
def sqG (l : List Int) (k : Nat) : Bool := (List.range k).all (ziL l)
theorem xp (l : List Int) (k : Nat) : (sqH l k).length = k := by simp [sqH]
theorem xq {l : List Int} {k i : Nat} (hi : i < k) : nth (sqH l k) i = XC l i := by unfold sqH; rw [zi (by simpa using hi)]; simp
theorem zie (l : List Int) (k : Nat) : sqH l (k + 1) = sqH l k ++ [XC l k] := by unfold sqH; rw [List.range_succ, List.map_append]; rfl
theorem zid (l : List Int) (k : Nat) : sqG l (k + 1) = (sqG l k && ziL l k) := by unfold sqG; rw [List.range_succ, List.all_append]; simp
theorem zcJ (l : List Int) (i : Nat) : zbB l (i + 1) = if sqN l i % 2 = 1 then (zbB l i).set (sqN l i / 2 % 2) ((i : Int) + 1) else zbB l i := rfl
theorem Wj (l : List Int) : ∀ i, (zbB l i).length = 2
 | 0 => rfl
 | i + 1 => by
  unfold zbB
  split
  ·rw [List.length_set]; exact Wj l i
  ·exact Wj l i
theorem zdw (l : List Int) : ∀ i, ∀ x ∈ zbB l i, 0 ≤ x ∧ x ≤ i
 | 0, x, hx => by
  have : x = 0 := by simpa [zbB] using hx
  omega
 | i + 1, x, hx => by
  unfold zbB at hx
  split at hx
  ·rcases List.mem_or_eq_of_mem_set hx with h | h
   ·have := zdw l i x h; omega
   ·omega
  ·have := zdw l i x hx; omega
theorem zif (l : List Int) (i : Nat) {c : Nat} (hc : c < 2) : 0 ≤ nth (zbB l i) c ∧ nth (zbB l i) c ≤ i := zdw l i _ (zj (by rw [Wj]; exact hc))
theorem yH (l : List Int) (i : Nat) : (XC l i).p = 0 ∧ ((XC l i).k = 0 ∨ (XC l i).k = 1 ∧ (XC l i).arg = (i : Int) + 1) ∧ (XC l i).key = (sqN l i / 2 % 2 : Nat) ∧ 0 ≤ (XC l i).arg ∧ (XC l i).arg ≤ (i : Int) + 1 ∧ 0 ≤ (XC l i).res ∧ (XC l i).res ≤ (i : Int) + 13 ∧ (XC l i).call = 2 * i ∧ (XC l i).ret = 2 * i + 1 ∧ (XC l i).done = true := by
 have hb := zif l i (show sqN l i / 2 % 2 < 2 by omega)
 unfold XC zkk
 split
 ·refine ⟨rfl, .inr ⟨rfl, rfl⟩, rfl, ?_, ?_, ?_, ?_, rfl, rfl, rfl⟩ <;> dsimp only <;> omega
 ·refine ⟨rfl, .inl rfl, rfl, ?_, ?_, ?_, ?_, rfl, rfl, rfl⟩ <;> dsimp only <;> (try split) <;> omega
theorem ziK (l : List Int) (i : Nat) : (XC l i).k = 1 ↔ sqN l i % 2 = 1 := by
 unfold XC zkk
 split
 ·rename_i h; exact ⟨fun _ => h, fun _ => rfl⟩
 ·rename_i h; exact ⟨fun e => absurd e (by dsimp only; decide), fun e => absurd e h⟩
section
variable {l : List Int} {k : Nat}
theorem zkm (hk : k ≤ 12) : ∀ o ∈ sqH l k, zaT o := fun o ho => by
 obtain ⟨i, hi, rfl⟩ := List.mem_map.1 ho
 have hi := List.mem_range.1 hi
 obtain ⟨h1, h2, h3, h4, h5, h6, h7, h8, h9, _⟩ := yH l i
 refine ⟨?_, ?_, ?_, ?_, ?_, ?_, ?_⟩ <;> unfold I64 <;> omega
theorem zkn (hk : k ≤ 12) : WFH (sqH l k) where
 len := by rw [xp]; omega
 wf o ho := by
  obtain ⟨i, hi, rfl⟩ := List.mem_map.1 ho
  obtain ⟨h1, h2, h3, h4, h5, h6, h7, h8, h9, h10⟩ := yH l i
  simp only [wfB, Bool.and_eq_true, Bool.or_eq_true, decide_eq_true_eq]
  refine ⟨⟨⟨⟨⟨?_, ?_⟩, ?_⟩, ?_⟩, ?_⟩, .inl h10⟩ <;> omega
 rel := by
  refine List.pairwise_iff_getElem.2 fun i j hi hj hij => ?_
  rw [xp] at hi hj
  rw [← zi, ← zi, xq hi, xq hj]
  obtain ⟨h1, h2, h3, h4, h5, h6, h7, h8, h9, h10⟩ := yH l i
  obtain ⟨g1, g2, g3, g4, g5, g6, g7, g8, g9, g10⟩ := yH l j
  exact ⟨by omega, fun _ => ⟨by omega, fun _ => by omega⟩, fun _ => ⟨h10, by omega⟩⟩
theorem zcK : zU (sqH l k) := fun i hi => by
 rw [xp] at hi
 unfold okW
 rw [xq hi]
 obtain ⟨h1, h2, h3, h4, h5, h6, h7, h8, h9, h10⟩ := yH l i
 rcases h2 with h | ⟨h, h'⟩
 ·exact .inl h
 ·refine .inr ⟨h, by omega, fun j hj => ?_⟩
  rw [Bool.eq_false_iff]
  intro hw
  rw [xq (by omega)] at hw
  obtain ⟨w1, w2, w3⟩ := ZJ.1 hw
  obtain ⟨g1, g2, g3, g4, g5, g6, g7, g8, g9, g10⟩ := yH l j
  omega
theorem zkl (hk : k ≤ 12) : H21 (sqH l k) := Vv (zkn hk).check zcK
theorem zek {i : Nat} (hi : i < k) : zM (sqH l k) i = true := xK (by rw [xq hi]; exact (yH l i).2.2.2.2.2.2.2.2.2)
theorem ziM {i j : Nat} (hi : i < k) (hj : j < k) : bef (sqH l k) i j = decide (i < j) := by
 obtain ⟨h1, h2, h3, h4, h5, h6, h7, h8, h9, h10⟩ := yH l i
 obtain ⟨g1, g2, g3, g4, g5, g6, g7, g8, g9, g10⟩ := yH l j
 unfold bef
 rw [xq hi, xq hj, h10, h9, g8, Bool.true_and]
 exact decide_eq_decide.2 (by omega)
theorem ziN {j : Nat} (hj : j < k) (c : Nat) : Vg (sqH l k) (c : Int) (j : Int) = true ↔ sqN l j / 2 % 2 = c ∧ sqN l j % 2 = 1 := by
 unfold Vg
 rw [Int.toNat_natCast, xq hj, Bool.and_eq_true, decide_eq_true_eq, decide_eq_true_eq, ziK, (yH l j).2.2.1]
 exact and_congr (by omega) Iff.rfl
theorem ziO : ∀ i, i ≤ k → ∀ c, c < 2 → nth (zbB l i) c = WR (sqH l k) (c : Int) (yJ (List.range i))
 | 0, _, c, hc => by
  have h2 : c = 0 ∨ c = 1 := by omega
  rcases h2 with rfl | rfl <;> rfl
 | i + 1, hi, c, hc => by
  have ih := ziO i (by omega) c hc
  rw [List.range_succ, zaj, UD, ← ih, zcJ]
  by_cases h : Vg (sqH l k) (c : Int) (i : Int) = true
  ·obtain ⟨e1, e2⟩ := (ziN (by omega) c).1 h
   rw [if_pos h, if_pos e2, e1, zh (by rw [Wj]; exact hc), Int.toNat_natCast, xq (by omega)]
   have := (yH l i).2.1
   have hk1 := (ziK l i).2 e2
   omega
  ·rw [if_neg h]
   split
   ·rename_i e2
    rw [zf fun e1 => h ((ziN (by omega) c).2 ⟨e1, e2⟩)]
   ·rfl
theorem zjo : sqG l k = true ↔ ∀ i, i < k → (XC l i).k = 1 ∨ WR (sqH l k) (XC l i).key (yJ (List.range i)) = (XC l i).res := by
 unfold sqG ziL
 rw [List.all_eq_true]
 simp only [List.mem_range, Bool.or_eq_true, decide_eq_true_eq]
 refine forall_congr' fun i => forall_congr' fun hi => or_congr Iff.rfl ?_
 rw [ziO (k := k) i (by omega) _ (show sqN l i / 2 % 2 < 2 by omega), (yH l i).2.2.1]
 exact ⟨Eq.symm, Eq.symm⟩
theorem zig (hk : k ≤ 12) : (zgk (sqH l k)).cls = 0 ↔ sqG l k = true := by
 rw [zcj (zkl hk) (zkm hk), zjo]
 have cl : (yJ (List.range k)).length = k := by rw [YG]; simp
 have cn : ∀ {i k : Nat}, i < k → nth (yJ (List.range k)) i = i := fun {i k} hi => by
  rw [ZQ (by simpa using hi), zi (by simpa using hi)]; simp
 have ct : ∀ i, i ≤ k → (yJ (List.range k)).take i = yJ (List.range i) := fun i hi => by
  rw [Wp, List.take_range, Nat.min_eq_left hi]
 constructor
 ·rintro ⟨o, O⟩ i hi
  have T := O.tau zcK (fun i hi => by
   rw [xp] at hi
   obtain ⟨h1, h2, h3, h4, h5, h6, h7, h8, h9, h10⟩ := yH l i
   rw [xq hi]; omega)
  generalize zeW o = tau at T
  have mono : ∀ i j, i < k → j < k → i < j → tau i < tau j := fun i j hi hj hij => T.rt i j (by rw [xp]; exact hi) (by rw [xp]; exact hj) (zek hi) (zek hj) (by rw [ziM hi hj]; exact decide_eq_true hij)
  obtain ⟨h1, h2, h3, h4, h5, h6, h7, h8, h9, h10⟩ := yH l i
  rcases h2 with h2 | ⟨h2, _⟩
  ·right
   have hr := T.rd i (by rw [xp]; exact hi) (by rw [xq hi]; exact h2) (by rw [xq hi]; exact h10)
   rw [xq hi] at hr
   have hv := Zt (sqH l k) (XC l i).key (yJ (List.range k)) i (by rw [cl]; omega)
   rw [ct i (by omega)] at hv
   have wr : ∀ w, wrI (sqH l k) (XC l i).key w ↔ w < k ∧ Vg (sqH l k) (XC l i).key (w : Int) = true := fun w => by
    constructor
    ·intro h
     have hw := h.1
     rw [xp] at hw
     exact ⟨hw, (Yo zcK h.1 h.2.2.2).2 h⟩
    ·rintro ⟨hw, h⟩
     exact (Yo zcK (by rw [xp]; exact hw) (zek hw)).1 h
   have ne : ∀ w, wrI (sqH l k) (XC l i).key w → w ≠ i := fun w h e => by
    subst e
    have := h.2.2.1
    rw [xq hi] at this
    omega
   rcases hv with ⟨v1, v2⟩ | ⟨j, v1, v2, v3, v4⟩
   ·rw [v1]
    rcases hr with ⟨r1, _⟩ | ⟨w, r1, r2, r3, r4⟩
    ·exact r1.symm
    ·have hw := ((wr w).1 r1).1
     have hlt : w < i := by
      refine Nat.lt_of_not_le fun hle => ?_
      have := mono i w hi hw (by have := ne w r1; omega)
      omega
     have := v2 w hlt
     rw [cn hw, ((wr w).1 r1).2] at this
     cases this
   ·rw [cn (by omega)] at v2
    rw [cn (by omega), Int.toNat_natCast] at v3
    rw [v3]
    have wj := (wr j).2 ⟨by omega, v2⟩
    have mj := mono j i (by omega) hi v1
    rcases hr with ⟨_, r1⟩ | ⟨w, r1, r2, r3, r4⟩
    ·have := r1 j wj; omega
    ·by_cases e : j = w
     ·rw [e]; exact r2
     ·have hw := ((wr w).1 r1).1
      have hlt : w < i := by
       refine Nat.lt_of_not_le fun hle => ?_
       have := mono i w hi hw (by have := ne w r1; omega)
       omega
      rcases r4 j wj e with h | h
      ·have hjw : j < w := by
        refine Nat.lt_of_not_le fun hle => ?_
        have := mono w j hw (by omega) (by omega)
        omega
       have := v4 w hjw hlt
       rw [cn hw, ((wr w).1 r1).2] at this
       cases this
      ·omega
  ·exact .inl h2
 ·intro G
  refine ⟨yJ (List.range k), fun x hx => ?_, ?_, fun x hx => ?_, fun v hv _ => ?_, fun i hi => ?_, fun i j hi hj => ?_⟩
  ·obtain ⟨n, hn, rfl⟩ := ZP.1 hx
   rw [xp]
   have := List.mem_range.1 hn
   omega
  ·unfold yJ
   exact List.pairwise_map.2 (List.nodup_range.imp fun h e => h (by omega))
  ·obtain ⟨n, hn, rfl⟩ := ZP.1 hx
   rw [Int.toNat_natCast]
   exact zek (List.mem_range.1 hn)
  ·rw [xp] at hv
   exact ZP.2 ⟨v, List.mem_range.2 hv, rfl⟩
  ·rw [cl] at hi
   rw [cn hi, Int.toNat_natCast, xq hi, ct i (by omega)]
   exact G i hi
  ·rw [cl] at hi
   rw [cn hi, cn (by omega), Int.toNat_natCast, Int.toNat_natCast, ziM hi (by omega)]
   exact decide_eq_false (by omega)
end

end Go.Proofs.Ytbeebjdnapkhhaa
