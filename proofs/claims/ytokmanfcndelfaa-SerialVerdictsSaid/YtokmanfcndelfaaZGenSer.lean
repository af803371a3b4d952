/-
  The generator of histories of layer 22, at plain values: what it makes are histories.
-/
import Derived.Test.YtokmanfcndelfaaZSerPlain2
namespace Go.Proofs.Ytokmanfcndelfaa
set_option linter.unusedVariables false

structure GS where
 out : List OpV
 op : List Int
 vs : List (List Int)
 time : Nat
 deriving Inhabited
def zdZ : GS := ⟨[], [-1, -1, -1], [[0], [0]], 0⟩
def WL (n : Int) : Int := if 1 < n / 6 % 5 then 2 else 0
def ZT (n : Int) (p : Nat) (s : GS) : OpV := ⟨p, WL n, n / 3 % 2, if 1 < n / 6 % 5 then (s.out.length : Int) + 1 else 0, 0, s.time, 0, false⟩
def xl (n : Int) (p : Nat) (s : GS) : GS := ⟨s.out ++ [ZT n p s], s.op.set p (s.out.length : Int), s.vs, s.time + 1⟩
def ZU (f : Bool) (n : Int) (seen : List Int) : Int :=
 if f = true ∧ n / 3 % 4 = 0 then (if n / 12 % 13 = 12 then n / 156 % 9 else nth seen (n / 12 % (seen.length : Int)).toNat) else nth seen (seen.length - 1)
def xt (f : Bool) (n : Int) (p : Nat) (s : GS) : GS :=
 let k := (nth s.op p).toNat
 let o := nth s.out k
 ⟨s.out.set k { o with res := ZU f n (nth s.vs o.key.toNat), ret := (s.time : Int), done := true }, s.op.set p (-1),
  if o.k = 2 then s.vs.set o.key.toNat (nth s.vs o.key.toNat ++ [o.arg]) else s.vs, s.time + 1⟩
def WM (most : Nat) (f : Bool) (x : Int) (s : GS) : GS :=
 if nth s.op (xj x 1000000 % 3).toNat < 0 then (if most ≤ s.out.length then s else xl (xj x 1000000) (xj x 1000000 % 3).toNat s)
 else xt f (xj x 1000000) (xj x 1000000 % 3).toNat s
def za4 (most : Nat) (f : Bool) (l : List Int) : Nat → GS
 | 0 => zdZ
 | i + 1 => WM most f (nth l i) (za4 most f l i)
def xF (most : Nat) (f : Bool) (l : List Int) : List OpV := (za4 most f l l.length).out.map (hsFix22 (za4 most f l l.length).time)
where hsFix22 (t : Nat) (o : OpV) : OpV := if o.done = true then o else { o with ret := (t : Int) }

structure OpS (s : GS) (j : Nat) (o : OpV) : Prop where
 p : 0 ≤ o.p ∧ o.p < 3
 k : o.k = 0 ∨ o.k = 2
 key : 0 ≤ o.key ∧ o.key ≤ 1
 c0 : 0 ≤ o.call ∧ o.call < s.time
 arg : o.arg = if o.k = 2 then (j : Int) + 1 else 0
 d : o.done = true → o.call < o.ret ∧ o.ret < s.time ∧ 0 ≤ o.res ∧ o.res ≤ 12
 n : o.done = false → o.res = 0 ∧ o.ret = 0 ∧ nth s.op o.p.toNat = j
structure zjX (s : GS) (c : Nat) : Prop where
 ne : nth s.vs c ≠ []
 len : (nth s.vs c).length ≤ s.out.length + 1
 nd : (nth s.vs c).Nodup
 of : ∀ v ∈ nth s.vs c, v = 0 ∨ ∃ w, w < s.out.length ∧ (nth s.out w).k = 2 ∧ (nth s.out w).key = c ∧ (nth s.out w).done = true ∧ (nth s.out w).arg = v
 z : (0 : Int) ∈ nth s.vs c
 all : ∀ w, w < s.out.length → (nth s.out w).k = 2 → (nth s.out w).key = c → (nth s.out w).done = true → (nth s.out w).arg ∈ nth s.vs c
structure UN (most : Nat) (s : GS) : Prop where
 o3 : s.op.length = 3
 v2 : s.vs.length = 2
 li : s.out.length ≤ most
 ti : s.time = s.out.length + s.out.countP fun o => o.done
 opn : ∀ p, p < 3 → 0 ≤ nth s.op p → (nth s.op p).toNat < s.out.length ∧ (nth s.out (nth s.op p).toNat).p = p ∧ (nth s.out (nth s.op p).toNat).done = false
 neg : ∀ p, p < 3 → -1 ≤ nth s.op p
 ops : ∀ j, j < s.out.length → OpS s j (nth s.out j)
 rel : s.out.Pairwise zi3
 val : ∀ c, c < 2 → zjX s c
theorem UN.init (most : Nat) : UN most zdZ := by
 have h3 : ∀ p, p < 3 → p = 0 ∨ p = 1 ∨ p = 2 := fun p hp => by omega
 refine ⟨rfl, rfl, Nat.zero_le _, rfl, fun p hp h => ?_, fun p hp => ?_, fun j hj => absurd hj (Nat.not_lt_zero _), .nil, fun c hc => ?_⟩
 ·rcases h3 p hp with rfl | rfl | rfl <;> exact absurd h (by decide)
 ·rcases h3 p hp with rfl | rfl | rfl <;> decide
 ·have e : nth zdZ.vs c = [0] := by
   have : c = 0 ∨ c = 1 := by omega
   rcases this with rfl | rfl <;> rfl
  refine ⟨by rw [e]; simp, by rw [e]; exact Nat.le_refl _, by rw [e]; simp, fun v hv => ?_, by rw [e]; simp, fun w hw => absurd hw (Nat.not_lt_zero _)⟩
  rw [e] at hv
  exact .inl (by simpa using hv)
theorem UN.open {most : Nat} {s : GS} (h : UN most s) {n : Int} (hn : 0 ≤ n) {p : Nat} (hp : p < 3) (hop : nth s.op p < 0) (hm : s.out.length < most) (h12 : most ≤ 12) : UN most (xl n p s) := by
 have hop1 : nth s.op p = -1 := by have := h.neg p hp; omega
 have lst : nth (s.out ++ [ZT n p s]) s.out.length = ZT n p s := xx
 have old : ∀ j, j < s.out.length → nth (s.out ++ [ZT n p s]) j = nth s.out j := fun j hj => yz hj
 refine ⟨by simp [xl, h.o3], h.v2, by simp [xl]; omega, ?_, fun x hx h0 => ?_, fun x hx => ?_, fun j hj => ?_, ?_, fun c hc => ?_⟩
 ·show s.time + 1 = (s.out ++ [ZT n p s]).length + _
  rw [show (xl n p s).out = s.out ++ [ZT n p s] from rfl, h.ti, List.countP_append, List.length_append]
  simp [ZT]
  omega
 ·show (nth (s.op.set p (s.out.length : Int)) x).toNat < (s.out ++ [ZT n p s]).length ∧ (nth (s.out ++ [ZT n p s]) (nth (s.op.set p (s.out.length : Int)) x).toNat).p = x ∧ (nth (s.out ++ [ZT n p s]) (nth (s.op.set p (s.out.length : Int)) x).toNat).done = false
  by_cases hx2 : p = x
  ·subst hx2
   rw [zM (by rw [h.o3]; exact hx), Int.toNat_natCast, lst]
   exact ⟨by simp, rfl, rfl⟩
  ·have h0' : 0 ≤ nth (s.op.set p (s.out.length : Int)) x := h0
   rw [zF hx2] at h0' ⊢
   obtain ⟨a, b, c⟩ := h.opn x hx h0'
   rw [old _ a]
   exact ⟨by simp; omega, b, c⟩
 ·show -1 ≤ nth (s.op.set p (s.out.length : Int)) x
  by_cases hx2 : p = x
  ·subst hx2; rw [zM (by rw [h.o3]; exact hx)]; omega
  ·rw [zF hx2]; exact h.neg x hx
 ·show OpS _ j (nth (s.out ++ [ZT n p s]) j)
  have hj' : j < s.out.length + 1 := by simpa [xl] using hj
  rcases Nat.lt_or_ge j s.out.length with h1 | h1
  ·rw [old j h1]
   have g := h.ops j h1
   refine ⟨g.p, g.k, g.key, ⟨g.c0.1, by show _ < ((s.time + 1 : Nat) : Int); have := g.c0.2; omega⟩, g.arg, fun hd => ⟨(g.d hd).1, by show _ < ((s.time + 1 : Nat) : Int); have := (g.d hd).2.1; omega, (g.d hd).2.2⟩, fun hd => ⟨(g.n hd).1, (g.n hd).2.1, ?_⟩⟩
   show nth (s.op.set p (s.out.length : Int)) _ = (j : Int)
   have h2 := (g.n hd).2.2
   by_cases hx2 : p = (nth s.out j).p.toNat
   ·rw [← hx2, hop1] at h2; omega
   ·rw [zF hx2]; exact h2
  ·have : j = s.out.length := by omega
   subst this
   rw [lst]
   refine ⟨⟨by show (0 : Int) ≤ (p : Int); omega, by show (p : Int) < 3; omega⟩, ?_, ⟨by show 0 ≤ n / 3 % 2; omega, by show n / 3 % 2 ≤ 1; omega⟩, ⟨by show 0 ≤ (s.time : Int); omega, by show (s.time : Int) < ((s.time + 1 : Nat) : Int); omega⟩, ?_, (fun hd => by cases hd), fun _ => ⟨rfl, rfl, ?_⟩⟩
   ·show WL n = 0 ∨ WL n = 2
    unfold WL; split <;> simp
   ·show (if 1 < n / 6 % 5 then (s.out.length : Int) + 1 else 0) = if WL n = 2 then _ else _
    unfold WL
    by_cases e : 1 < n / 6 % 5
    ·rw [if_pos e, if_pos e, if_pos rfl]
    ·rw [if_neg e, if_neg e, if_neg (by decide)]
   ·show nth (s.op.set p (s.out.length : Int)) ((p : Int)).toNat = _
    rw [Int.toNat_natCast, zM (by rw [h.o3]; exact hp)]
 ·show (s.out ++ [ZT n p s]).Pairwise zi3
  rw [List.pairwise_append]
  refine ⟨h.rel, List.pairwise_singleton _ _, fun a ha b hb => ?_⟩
  rw [List.mem_singleton] at hb
  subst hb
  obtain ⟨j, hj, rfl⟩ := List.getElem_of_mem ha
  rw [← nth_eq hj]
  have g := h.ops j hj
  refine ⟨g.c0.2, fun hd => ⟨by show _ ≠ (s.time : Int); have := (g.d hd).2.1; omega, fun hd2 => by cases hd2⟩, fun he => ?_⟩
  have he' : (nth s.out j).p = p := he
  cases hd : (nth s.out j).done with
  | true => exact ⟨rfl, by show _ ≤ (s.time : Int); have := (g.d hd).2.1; omega⟩
  | false =>
   have h2 := (g.n hd).2.2
   rw [he', Int.toNat_natCast, hop1] at h2; omega
 ·have g := h.val c hc
  refine ⟨g.ne, Nat.le_trans g.len (by simp [xl]), g.nd, fun v hv => ?_, g.z, fun w hw h1 h2 h3 => ?_⟩
  ·rcases g.of v hv with e | ⟨w, hw, e⟩
   ·exact .inl e
   ·exact .inr ⟨w, by simp [xl]; omega, by show (nth (s.out ++ [ZT n p s]) w).k = 2 ∧ _; rw [show (xl n p s).out = s.out ++ [ZT n p s] from rfl, old w hw]; exact e⟩
  ·have hw' : w < s.out.length + 1 := by simpa [xl] using hw
   rcases Nat.lt_or_ge w s.out.length with hlt | hge
   ·rw [show (xl n p s).out = s.out ++ [ZT n p s] from rfl, old w hlt] at h1 h2 h3 ⊢
    exact g.all w hlt h1 h2 h3
   ·have : w = s.out.length := by omega
    subst this
    rw [show (xl n p s).out = s.out ++ [ZT n p s] from rfl, lst] at h3
    cases h3
theorem zhF {f : Bool} {n : Int} (hn : 0 ≤ n) {seen : List Int} (h0 : seen ≠ []) (hs : ∀ v ∈ seen, 0 ≤ v ∧ v ≤ 12) : 0 ≤ ZU f n seen ∧ ZU f n seen ≤ 12 := by
 have hl : 0 < seen.length := List.length_pos_iff.2 h0
 unfold ZU
 split
 ·split
  ·omega
  ·have := Int.emod_lt_of_pos (n / 12) (show (0 : Int) < (seen.length : Int) by omega)
   have := Int.emod_nonneg (n / 12) (show (seen.length : Int) ≠ 0 by omega)
   exact hs _ (zI (by omega))
 ·exact hs _ (zI (by omega))
theorem UN.vals {most : Nat} {s : GS} (h : UN most s) (h12 : most ≤ 12) {c : Nat} (hc : c < 2) : ∀ v ∈ nth s.vs c, 0 ≤ v ∧ v ≤ 12 := fun v hv => by
 rcases (h.val c hc).of v hv with rfl | ⟨w, hw, h1, _, _, h4⟩
 ·omega
 ·have := (h.ops w hw).arg
  rw [if_pos h1, h4] at this
  have := h.li
  omega
theorem Xa {α : Type} (p : α → Bool) {x : α} : ∀ {l : List α} {i : Nat} (hi : i < l.length), p l[i] = false → p x = true → (l.set i x).countP p = l.countP p + 1
 | y :: l, 0, hi, h1, h2 => by
  rw [List.set_cons_zero, List.countP_cons_of_pos h2, List.countP_cons_of_neg (by simpa using h1)]
 | y :: l, i + 1, hi, h1, h2 => by
  rw [List.set_cons_succ, List.countP_cons, List.countP_cons, Xa p (by simpa using hi) (by simpa using h1) h2]
  omega
theorem UN.end {most : Nat} {f : Bool} {s : GS} (h : UN most s) {n : Int} (hn : 0 ≤ n) {p : Nat} (hp : p < 3) (hop : 0 ≤ nth s.op p) (h12 : most ≤ 12) : UN most (xt f n p s) := by
 obtain ⟨hj0, hpj, hdj⟩ := h.opn p hp hop
 generalize hjj : (nth s.op p).toNat = j0 at hj0 hpj hdj
 obtain ⟨r, hr⟩ : ∃ r, ZU f n (nth s.vs (nth s.out j0).key.toNat) = r := ⟨_, rfl⟩
 have hout : (xt f n p s).out = s.out.set j0 { nth s.out j0 with res := r, ret := (s.time : Int), done := true } := by unfold xt; dsimp only; rw [hjj, hr]
 have hlen : (xt f n p s).out.length = s.out.length := by rw [hout]; simp
 have same : nth (xt f n p s).out j0 = { nth s.out j0 with res := r, ret := (s.time : Int), done := true } := by rw [hout, zM hj0]
 have oth : ∀ j, j0 ≠ j → nth (xt f n p s).out j = nth s.out j := fun j hj => by rw [hout, zF hj]
 have gj := h.ops j0 hj0
 have hk2 : (nth s.out j0).key.toNat < 2 := by have := gj.key; omega
 have hrb : 0 ≤ r ∧ r ≤ 12 := by rw [← hr]; exact zhF hn (h.val _ hk2).ne (h.vals h12 hk2)
 have hvs : (xt f n p s).vs = if (nth s.out j0).k = 2 then s.vs.set (nth s.out j0).key.toNat (nth s.vs (nth s.out j0).key.toNat ++ [(nth s.out j0).arg]) else s.vs := by unfold xt; dsimp only; rw [hjj]
 have htime : (xt f n p s).time = s.time + 1 := rfl
 have hopx : (xt f n p s).op = s.op.set p (-1) := rfl
 refine ⟨by simp [xt, h.o3], by rw [hvs]; split <;> simp [h.v2], by rw [hlen]; exact h.li, ?_, fun x hx h0 => ?_, fun x hx => ?_, fun j hj => ?_, ?_, fun c hc => ?_⟩
 ·rw [hlen, htime, hout, Xa (fun o : OpV => o.done) hj0 (by rw [← nth_eq hj0]; exact hdj) rfl, h.ti]
  omega
 ·rw [hopx] at h0 ⊢
  rw [hlen]
  by_cases hx2 : p = x
  ·subst hx2; rw [zM (by rw [h.o3]; exact hx)] at h0; omega
  ·rw [zF hx2] at h0 ⊢
   obtain ⟨a, b, c⟩ := h.opn x hx h0
   have hne : j0 ≠ (nth s.op x).toNat := fun e => by
    rw [← e, hpj] at b
    omega
   rw [oth _ hne]
   exact ⟨a, b, c⟩
 ·rw [hopx]
  by_cases hx2 : p = x
  ·subst hx2; rw [zM (by rw [h.o3]; exact hx)]; omega
  ·rw [zF hx2]; exact h.neg x hx
 ·rw [hlen] at hj
  by_cases hjx : j0 = j
  ·subst hjx
   rw [same]
   exact ⟨gj.p, gj.k, gj.key, ⟨gj.c0.1, by rw [htime]; have := gj.c0.2; dsimp only; omega⟩, gj.arg, fun _ => ⟨gj.c0.2, by rw [htime]; dsimp only; omega, hrb⟩, fun hd => by cases hd⟩
  ·rw [oth j hjx]
   have g := h.ops j hj
   refine ⟨g.p, g.k, g.key, ⟨g.c0.1, by rw [htime]; have := g.c0.2; omega⟩, g.arg, fun hd => ⟨(g.d hd).1, by rw [htime]; have := (g.d hd).2.1; omega, (g.d hd).2.2⟩, fun hd => ⟨(g.n hd).1, (g.n hd).2.1, ?_⟩⟩
   rw [hopx]
   have h2 := (g.n hd).2.2
   by_cases hx2 : p = (nth s.out j).p.toNat
   ·rw [← hx2] at h2
    rw [h2] at hjj
    simp at hjj
    exact absurd hjj.symm hjx
   ·rw [zF hx2]; exact h2
 ·rw [List.pairwise_iff_getElem]
  intro a b ha hb hab
  rw [hlen] at ha hb
  rw [← nth_eq (by rw [hlen]; exact ha), ← nth_eq (by rw [hlen]; exact hb)]
  have hp0 := List.pairwise_iff_getElem.1 h.rel a b ha hb hab
  rw [← nth_eq ha, ← nth_eq hb] at hp0
  by_cases ea : j0 = a
  ·subst ea
   rw [same, oth b (by omega)]
   have gb := h.ops b hb
   have := gb.c0
   refine ⟨hp0.1, fun _ => ⟨by show (s.time : Int) ≠ _; omega, fun hd => by show _ ≠ (s.time : Int); have := (gb.d hd).2.1; omega⟩, fun he => ?_⟩
   have := (hp0.2.2 he).1
   rw [hdj] at this; cases this
  ·by_cases eb : j0 = b
   ·subst eb
    rw [same, oth a (by omega)]
    have ga := h.ops a ha
    exact ⟨hp0.1, fun hd => ⟨(hp0.2.1 hd).1, fun _ => by show (s.time : Int) ≠ _; have := (ga.d hd).2.1; omega⟩, hp0.2.2⟩
   ·rw [oth a ea, oth b eb]
    exact hp0
 ·have g := h.val c hc
  have keep : ∀ v, (∃ w, w < s.out.length ∧ (nth s.out w).k = 2 ∧ (nth s.out w).key = c ∧ (nth s.out w).done = true ∧ (nth s.out w).arg = v) → ∃ w, w < (xt f n p s).out.length ∧ (nth (xt f n p s).out w).k = 2 ∧ (nth (xt f n p s).out w).key = c ∧ (nth (xt f n p s).out w).done = true ∧ (nth (xt f n p s).out w).arg = v := by
   rintro v ⟨w, hw, h1, h2, h3, h4⟩
   have hne : j0 ≠ w := fun e => by subst e; rw [hdj] at h3; cases h3
   exact ⟨w, by rw [hlen]; exact hw, by rw [oth w hne]; exact ⟨h1, h2, h3, h4⟩⟩
  by_cases hsw : (nth s.out j0).k = 2 ∧ (nth s.out j0).key.toNat = c
  ·obtain ⟨k2, kc⟩ := hsw
   have hkc : (nth s.out j0).key = c := by have := gj.key; omega
   have harg : (nth s.out j0).arg = (j0 : Int) + 1 := by rw [gj.arg, if_pos k2]
   have hv : nth (xt f n p s).vs c = nth s.vs c ++ [(nth s.out j0).arg] := by rw [hvs, if_pos k2, kc, zM (by rw [h.v2]; exact hc)]
   refine ⟨by rw [hv]; simp, ?_, ?_, fun v hvm => ?_, by rw [hv]; exact List.mem_append_left _ g.z, fun w hw h1 h2 h3 => ?_⟩
   ·-- the values are 0 and arguments of done swaps other than j0
    rw [hv, hlen]
    have := g.len
    have hlt : (nth s.vs c).length < s.out.length + 1 := by
     refine Classical.byContradiction fun hge => ?_
     have hsub : ∀ v ∈ ((j0 : Int) + 1) :: nth s.vs c, (0 : Int) ≤ v ∧ v < (s.out.length + 1 : Nat) := fun v hv => by
      rcases List.mem_cons.1 hv with rfl | hv
      ·omega
      ·rcases g.of v hv with rfl | ⟨w, hw, w1, _, _, w4⟩
       ·omega
       ·have := (h.ops w hw).arg
        rw [if_pos w1, w4] at this
        omega
     have hnd : (((j0 : Int) + 1) :: nth s.vs c).Nodup := by
      refine List.nodup_cons.2 ⟨fun hm => ?_, g.nd⟩
      rcases g.of _ hm with e | ⟨w, hw, w1, _, w3, w4⟩
      ·omega
      ·have := (h.ops w hw).arg
       rw [if_pos w1, w4] at this
       have : w = j0 := by omega
       subst this
       rw [hdj] at w3; cases w3
     have := xT hnd hsub
     rw [List.length_cons] at this
     omega
    rw [List.length_append, List.length_singleton]
    omega
   ·rw [hv, List.nodup_append]
    refine ⟨g.nd, by simp, fun a ha b hb => ?_⟩
    rw [List.mem_singleton] at hb
    subst hb
    rintro rfl
    rcases g.of _ ha with e | ⟨w, hw, w1, _, w3, w4⟩
    ·omega
    ·have := (h.ops w hw).arg
     rw [if_pos w1, w4] at this
     have : w = j0 := by omega
     subst this
     rw [hdj] at w3; cases w3
   ·rw [hv] at hvm
    rcases List.mem_append.1 hvm with hvm | hvm
    ·rcases g.of v hvm with e | e
     ·exact .inl e
     ·exact .inr (keep v e)
    ·rw [List.mem_singleton] at hvm
     subst hvm
     exact .inr ⟨j0, by rw [hlen]; exact hj0, by rw [same]; exact ⟨k2, hkc, rfl, rfl⟩⟩
   ·rw [hv]
    rw [hlen] at hw
    by_cases e : j0 = w
    ·subst e; rw [same]; exact List.mem_append_right _ (by simp)
    ·rw [oth w e] at h1 h2 h3 ⊢
     exact List.mem_append_left _ (g.all w hw h1 h2 h3)
  ·have hv : nth (xt f n p s).vs c = nth s.vs c := by
    rw [hvs]
    split
    ·rename_i k2
     rw [zF (fun e => hsw ⟨k2, e⟩)]
    ·rfl
   refine ⟨by rw [hv]; exact g.ne, by rw [hv, hlen]; exact g.len, by rw [hv]; exact g.nd, fun v hvm => ?_, by rw [hv]; exact g.z, fun w hw h1 h2 h3 => ?_⟩
   ·rw [hv] at hvm
    rcases g.of v hvm with e | e
    ·exact .inl e
    ·exact .inr (keep v e)
   ·rw [hv]
    rw [hlen] at hw
    by_cases e : j0 = w
    ·subst e
     rw [same] at h1 h2
     dsimp only at h1 h2
     exact absurd ⟨h1, by omega⟩ hsw
    ·rw [oth w e] at h1 h2 h3 ⊢
     exact g.all w hw h1 h2 h3
theorem UN.step {most : Nat} {f : Bool} {s : GS} (h : UN most s) (h12 : most ≤ 12) (x : Int) : UN most (WM most f x s) := by
 unfold WM
 have hn : 0 ≤ xj x 1000000 := Yh (by decide)
 have hp : (xj x 1000000 % 3).toNat < 3 := by omega
 split
 ·rename_i hop
  split
  ·exact h
  ·exact h.open hn hp hop (by omega) h12
 ·rename_i hop
  exact h.end hn hp (by omega) h12
theorem XK (most : Nat) (f : Bool) (l : List Int) (h12 : most ≤ 12) : ∀ i, UN most (za4 most f l i)
 | 0 => UN.init most
 | i + 1 => (XK most f l h12 i).step h12 _
theorem UN.time {most : Nat} {s : GS} (h : UN most s) : s.time ≤ 2 * most := by
 have := h.ti
 have : (s.out.countP fun o => o.done) ≤ s.out.length := List.countP_le_length
 have := h.li
 omega
end Go.Proofs.Ytokmanfcndelfaa
