/-
  Generated histories of layer 22: histories; those that are not faulty are serializable, also strictly.
-/
import Derived.Test.YtokmanfcndelfaaZGenSer
namespace Go.Proofs.Ytokmanfcndelfaa
set_option linter.unusedVariables false

structure NF (s : GS) : Prop where
 rd : ∀ c : Nat, c < 2 → ∀ w, w < s.out.length → (nth s.out w).done = true → (nth s.out w).key = c → (nth s.out w).res ∈ nth s.vs c
 ov : ∀ c : Nat, c < 2 → ∀ w, w < s.out.length → (nth s.out w).done = true → (nth s.out w).key = c → (nth s.out w).k = 2 → (nth s.out w).res ≠ nth (nth s.vs c) ((nth s.vs c).length - 1)
 wr : ∀ i k, i < s.out.length → k < s.out.length → (nth s.out i).done = true → (nth s.out k).done = true → (nth s.out i).key = (nth s.out k).key → (nth s.out i).k = 2 → (nth s.out i).arg = (nth s.out k).res → (nth s.out i).ret < (nth s.out k).ret
 pr : ∀ i k, i < s.out.length → k < s.out.length → (nth s.out i).done = true → (nth s.out k).done = true → (nth s.out i).key = (nth s.out k).key → i ≠ k → (nth s.out i).res = (nth s.out k).res → (nth s.out k).k = 2 → (nth s.out i).ret < (nth s.out k).ret
theorem NF.init : NF zdZ := ⟨fun _ _ w hw => absurd hw (Nat.not_lt_zero _), fun _ _ w hw => absurd hw (Nat.not_lt_zero _), fun i _ hi => absurd hi (Nat.not_lt_zero _), fun i _ hi => absurd hi (Nat.not_lt_zero _)⟩
theorem NF.open {s : GS} (g : NF s) (n : Int) (p : Nat) : NF (xl n p s) := by
 have key : ∀ w, w < (xl n p s).out.length → (nth (xl n p s).out w).done = true → w < s.out.length ∧ nth (xl n p s).out w = nth s.out w := fun w hw hd => by
  have hw' : w < s.out.length + 1 := by simpa [xl] using hw
  rw [show (xl n p s).out = s.out ++ [ZT n p s] from rfl] at hd ⊢
  rcases Nat.lt_or_ge w s.out.length with h | h
  ·exact ⟨h, yz h⟩
  ·obtain rfl : w = s.out.length := by omega
   rw [xx] at hd
   cases hd
 refine ⟨fun c hc w hw hd hk => ?_, fun c hc w hw hd hk h2 => ?_, fun i k hi hk di dk he h2 hv => ?_, fun i k hi hk di dk he hne hv h2 => ?_⟩
 ·obtain ⟨h1, e⟩ := key w hw hd
  rw [e] at hd hk ⊢
  exact g.rd c hc w h1 hd hk
 ·obtain ⟨h1, e⟩ := key w hw hd
  rw [e] at hd hk h2 ⊢
  exact g.ov c hc w h1 hd hk h2
 ·obtain ⟨h1, e1⟩ := key i hi di
  obtain ⟨h3, e3⟩ := key k hk dk
  rw [e1] at di he h2 hv ⊢
  rw [e3] at dk he hv ⊢
  exact g.wr i k h1 h3 di dk he h2 hv
 ·obtain ⟨h1, e1⟩ := key i hi di
  obtain ⟨h3, e3⟩ := key k hk dk
  rw [e1] at di he hv ⊢
  rw [e3] at dk he hv h2 ⊢
  exact g.pr i k h1 h3 di dk he hne hv h2
theorem UN.fresh {most : Nat} {s : GS} (h : UN most s) {c j : Nat} (hc : c < 2) (hj : j < s.out.length) (hd : (nth s.out j).done = false) (h2 : (nth s.out j).k = 2) : (nth s.out j).arg ∉ nth s.vs c := fun hm => by
 have ha := (h.ops j hj).arg
 rw [if_pos h2] at ha
 rcases (h.val c hc).of _ hm with e | ⟨w, hw, w1, _, w3, w4⟩
 ·omega
 ·have := (h.ops w hw).arg
  rw [if_pos w1, w4] at this
  obtain rfl : w = j := by omega
  rw [hd] at w3; cases w3
theorem NF.end {most : Nat} {s : GS} (h : UN most s) (g : NF s) {n : Int} {p : Nat} (hp : p < 3) (hop : 0 ≤ nth s.op p) : NF (xt false n p s) := by
 obtain ⟨hj0, hpj, hdj⟩ := h.opn p hp hop
 generalize hjj : (nth s.op p).toNat = j0 at hj0 hpj hdj
 have gj := h.ops j0 hj0
 have hk2 : (nth s.out j0).key.toNat < 2 := by have := gj.key; omega
 obtain ⟨c0, hc0⟩ : ∃ c0 : Nat, (nth s.out j0).key.toNat = c0 := ⟨_, rfl⟩
 rw [hc0] at hk2
 have hkey : (nth s.out j0).key = c0 := by have := gj.key; omega
 obtain ⟨r, hr⟩ : ∃ r, ZU false n (nth s.vs c0) = r := ⟨_, rfl⟩
 have hr' : r = nth (nth s.vs c0) ((nth s.vs c0).length - 1) := by rw [← hr]; unfold ZU; rw [if_neg (by simp)]
 have hout : (xt false n p s).out = s.out.set j0 { nth s.out j0 with res := r, ret := (s.time : Int), done := true } := by unfold xt; dsimp only; rw [hjj, hc0, hr]
 have hlen : (xt false n p s).out.length = s.out.length := by rw [hout]; simp
 have same : nth (xt false n p s).out j0 = { nth s.out j0 with res := r, ret := (s.time : Int), done := true } := by rw [hout, zM hj0]
 have oth : ∀ j, j0 ≠ j → nth (xt false n p s).out j = nth s.out j := fun j hj => by rw [hout, zF hj]
 have hvs : (xt false n p s).vs = if (nth s.out j0).k = 2 then s.vs.set c0 (nth s.vs c0 ++ [(nth s.out j0).arg]) else s.vs := by unfold xt; dsimp only; rw [hjj, hc0]
 have g0 := h.val c0 hk2
 have hl0 : 0 < (nth s.vs c0).length := List.length_pos_iff.2 g0.ne
 have hrm : r ∈ nth s.vs c0 := hr' ▸ zI (by omega)
 have hold : ∀ c, c < 2 → (nth (xt false n p s).vs c = nth s.vs c ∧ ¬ ((nth s.out j0).k = 2 ∧ c = c0)) ∨ (c = c0 ∧ (nth s.out j0).k = 2 ∧ nth (xt false n p s).vs c = nth s.vs c0 ++ [(nth s.out j0).arg]) := fun c hc => by
  rw [hvs]
  by_cases h2 : (nth s.out j0).k = 2
  ·rw [if_pos h2]
   by_cases hcc : c0 = c
   ·subst hcc
    exact .inr ⟨rfl, h2, zM (by rw [h.v2]; exact hc)⟩
   ·exact .inl ⟨zF hcc, fun e => hcc e.2.symm⟩
  ·rw [if_neg h2]
   exact .inl ⟨rfl, fun e => h2 e.1⟩
 have sub : ∀ c, c < 2 → ∀ v ∈ nth s.vs c, v ∈ nth (xt false n p s).vs c := fun c hc v hv => by
  rcases hold c hc with ⟨e, _⟩ | ⟨rfl, _, e⟩
  ·rw [e]; exact hv
  ·rw [e]; exact List.mem_append_left _ hv
 have lastA : ∀ (L : List Int) (x : Int), nth (L ++ [x]) ((L ++ [x]).length - 1) = x := fun L x => by
  rw [List.length_append, List.length_singleton, Nat.add_sub_cancel]; exact xx
 have rtl : ∀ w, w < s.out.length → (nth s.out w).done = true → (nth s.out w).ret < (s.time : Int) := fun w hw hd => ((h.ops w hw).d hd).2.1
 refine ⟨fun c hc w hw hd hk => ?_, fun c hc w hw hd hk h2 => ?_, fun i k hi hk di dk he h2 hv => ?_, fun i k hi hk di dk he hne hv h2 => ?_⟩
 ·rw [hlen] at hw
  by_cases e : j0 = w
  ·subst e
   rw [same] at hk ⊢
   dsimp only at hk ⊢
   obtain rfl : c = c0 := by omega
   exact sub c hc _ hrm
  ·rw [oth w e] at hd hk ⊢
   exact sub c hc _ (g.rd c hc w hw hd hk)
 ·rw [hlen] at hw
  rcases hold c hc with ⟨e1, hno⟩ | ⟨rfl, e2, e3⟩
  ·by_cases e : j0 = w
   ·subst e
    rw [same] at hk h2
    dsimp only at hk h2
    exact absurd ⟨h2, by omega⟩ hno
   ·rw [oth w e] at hd hk h2 ⊢
    rw [e1]
    exact g.ov c hc w hw hd hk h2
  ·rw [e3, lastA]
   intro hres
   refine h.fresh hc hj0 hdj e2 ?_
   rw [← hres]
   by_cases e : j0 = w
   ·subst e
    rw [same]
    exact hrm
   ·rw [oth w e] at hd hk ⊢
    exact g.rd c hc w hw hd hk
 ·rw [hlen] at hi hk
  by_cases e : j0 = k
  ·subst e
   by_cases e2 : j0 = i
   ·subst e2
    rw [same] at h2 hv
    dsimp only at h2 hv
    exact absurd (hv ▸ hrm) (h.fresh hk2 hj0 hdj h2)
   ·rw [oth i e2] at di ⊢
    rw [same]
    exact rtl i hi di
  ·rw [oth k e] at dk he hv ⊢
   by_cases e2 : j0 = i
   ·subst e2
    rw [same] at h2 hv he
    dsimp only at h2 hv he
    have := g.rd c0 hk2 k hk dk (by omega)
    rw [← hv] at this
    exact absurd this (h.fresh hk2 hj0 hdj h2)
   ·rw [oth i e2] at di he h2 hv ⊢
    exact g.wr i k hi hk di dk he h2 hv
 ·rw [hlen] at hi hk
  by_cases e : j0 = k
  ·subst e
   rw [oth i (fun e => hne e.symm)] at di ⊢
   rw [same]
   exact rtl i hi di
  ·rw [oth k e] at dk he hv h2 ⊢
   by_cases e2 : j0 = i
   ·subst e2
    rw [same] at hv he
    dsimp only at hv he
    have := g.ov c0 hk2 k hk dk (by omega) h2
    exact absurd (hv.symm.trans hr') this
   ·rw [oth i e2] at di he hv ⊢
    exact g.pr i k hi hk di dk he hne hv h2
theorem NF.step {most : Nat} {s : GS} (h : UN most s) (g : NF s) (x : Int) : NF (WM most false x s) := by
 unfold WM
 have hp : (xj x 1000000 % 3).toNat < 3 := by have : 0 ≤ xj x 1000000 := Yh (by decide); omega
 split
 ·split
  ·exact g
  ·exact g.open _ _
 ·rename_i hop
  exact NF.end h g hp (by omega)
theorem Wj (t : Nat) (o : OpV) : (xF.hsFix22 t o).p = o.p ∧ (xF.hsFix22 t o).k = o.k ∧ (xF.hsFix22 t o).key = o.key ∧ (xF.hsFix22 t o).arg = o.arg ∧ (xF.hsFix22 t o).res = o.res ∧ (xF.hsFix22 t o).call = o.call ∧ (xF.hsFix22 t o).done = o.done ∧ (o.done = true → (xF.hsFix22 t o).ret = o.ret) ∧ (o.done = false → (xF.hsFix22 t o).ret = t) := by
 unfold xF.hsFix22
 cases h : o.done <;> simp [h]
structure zjW (j : Nat) (o : OpV) : Prop where
 p : 0 ≤ o.p ∧ o.p < 3
 k : o.k = 0 ∨ o.k = 2
 key : 0 ≤ o.key ∧ o.key ≤ 1
 arg : o.arg = if o.k = 2 then (j : Int) + 1 else 0
 res : 0 ≤ o.res ∧ o.res ≤ 12
 c0 : 0 ≤ o.call
 cr : o.call < o.ret
 r24 : o.ret ≤ 24
 n : o.done = false → o.res = 0
theorem zgx {most : Nat} {f : Bool} {l : List Int} {j : Nat} (hj : j < (xF most f l).length) : j < (za4 most f l l.length).out.length ∧ nth (xF most f l) j = xF.hsFix22 (za4 most f l l.length).time (nth (za4 most f l l.length).out j) := by
 unfold xF at hj ⊢
 rw [List.length_map] at hj
 refine ⟨hj, ?_⟩
 rw [nth_eq (by simpa using hj), nth_eq hj, List.getElem_map]
section
variable {most : Nat} {f : Bool} {l : List Int} (h12 : most ≤ 12)
include h12
theorem VS : (xF most f l).length ≤ most := by
 unfold xF
 rw [List.length_map]
 exact (XK most f l h12 l.length).li
theorem zd1 {j : Nat} (hj : j < (xF most f l).length) : zjW j (nth (xF most f l) j) := by
 obtain ⟨h1, h2⟩ := zgx hj
 rw [h2]
 have h := XK most f l h12 l.length
 generalize za4 most f l l.length = s at h h1
 have g := h.ops j h1
 have ht := h.time
 generalize nth s.out j = o at g
 obtain ⟨e1, e2, e3, e4, e5, e6, e7, e8, e9⟩ := Wj s.time o
 have gc := g.c0
 refine ⟨by rw [e1]; exact g.p, by rw [e2]; exact g.k, by rw [e3]; exact g.key, by rw [e4, e2]; exact g.arg, ?_, by rw [e6]; exact gc.1, ?_, ?_, fun hd => by rw [e5]; exact (g.n (e7 ▸ hd)).1⟩
 ·rw [e5]
  cases hd : o.done with
  | true => exact (g.d hd).2.2
  | false => rw [(g.n hd).1]; omega
 ·rw [e6]
  cases hd : o.done with
  | true => rw [e8 hd]; exact (g.d hd).1
  | false => rw [e9 hd]; exact gc.2
 ·cases hd : o.done with
  | true => rw [e8 hd]; have := (g.d hd).2.1; omega
  | false => rw [e9 hd]; omega
theorem zhH : WFH (xF most f l) := by
 refine ⟨Nat.le_trans (VS h12) (by omega), fun o ho => ?_, ?_⟩
 ·obtain ⟨j, hj, rfl⟩ := List.getElem_of_mem ho
  have g := zd1 h12 hj
  rw [nth_eq hj] at g
  have hp := g.p
  have hk := g.k
  have hc := g.c0
  have hr := g.cr
  simp only [wfB, Bool.and_eq_true, Bool.or_eq_true, decide_eq_true_eq]
  refine ⟨by omega, ?_⟩
  cases hd : (xF most f l)[j].done with
  | true => exact .inl rfl
  | false => exact .inr (g.n hd)
 ·have h := XK most f l h12 l.length
  unfold xF
  generalize za4 most f l l.length = s at h ⊢
  rw [List.pairwise_map]
  refine h.rel.imp fun {a b} hab => ?_
  obtain ⟨a1, a2, a3, a4, a5, a6, a7, a8, a9⟩ := Wj s.time a
  obtain ⟨b1, b2, b3, b4, b5, b6, b7, b8, b9⟩ := Wj s.time b
  obtain ⟨h1, h2, h3⟩ := hab
  refine ⟨by rw [a6, b6]; exact h1, fun hd => ?_, fun he => ?_⟩
  ·rw [a7] at hd
   rw [a8 hd, b6, b7]
   exact ⟨(h2 hd).1, fun hd2 => by rw [b8 hd2]; exact (h2 hd).2 hd2⟩
  ·rw [a1, b1] at he
   obtain ⟨h4, h5⟩ := h3 he
   rw [a7, a8 h4, b6]
   exact ⟨h4, h5⟩
end
end Go.Proofs.Ytokmanfcndelfaa
