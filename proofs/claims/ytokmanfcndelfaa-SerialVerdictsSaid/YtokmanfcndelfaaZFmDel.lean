/-
  slices.DeleteFunc of ints, at plain values.
-/
import Derived.Test.YtokmanfcndelfaaZK
import Derived.Test.YtokmanfcndelfaaZD
import Derived.Test.YtokmanfcndelfaaZFmW
namespace Go.Proofs.Ytokmanfcndelfaa
set_option linter.unusedVariables false
open Go.RowKit

theorem WG (p : Int → Bool) (r : List Int) : ∀ k i : Nat, (Yc p r k i = -1 ∧ ∀ q, i ≤ q → q < i + k → p (nth r q) = false) ∨ ∃ j : Nat, i ≤ j ∧ j < i + k ∧ Yc p r k i = j ∧ p (nth r j) = true ∧ ∀ q, i ≤ q → q < j → p (nth r q) = false
 | 0, i => .inl ⟨rfl, fun q h1 h2 => by omega⟩
 | k + 1, i => by
  unfold Yc
  by_cases h : p (nth r i) = true
  ·rw [if_pos h]
   exact .inr ⟨i, Nat.le_refl _, by omega, rfl, h, fun q h1 h2 => by omega⟩
  ·rw [if_neg h]
   have h' : p (nth r i) = false := by simpa using h
   rcases WG p r k (i + 1) with ⟨h1, h2⟩ | ⟨j, h1, h2, h3, h4, h5⟩
   ·refine .inl ⟨h1, fun q q1 q2 => ?_⟩
    by_cases e : q = i
    ·subst e; exact h'
    ·exact h2 q (by omega) (by omega)
   ·refine .inr ⟨j, by omega, by omega, h3, h4, fun q q1 q2 => ?_⟩
    by_cases e : q = i
    ·subst e; exact h'
    ·exact h5 q (by omega) q2
def xu (p : Int → Bool) (r : List Int) : List Int := r.filter fun x => !p x
theorem zas {p : Int → Bool} {r : List Int} (h : ∀ q, q < r.length → p (nth r q) = false) : xu p r = r := by
 unfold xu
 rw [List.filter_eq_self]
 intro x hx
 obtain ⟨q, hq, rfl⟩ := List.getElem_of_mem hx
 have := h q hq
 rw [nth_eq hq] at this
 rw [this]; rfl
theorem YL {p : Int → Bool} {r : List Int} {j : Nat} (hj : j < r.length) : xu p (r.take (j + 1)) = xu p (r.take j) ++ if p (nth r j) = true then [] else [nth r j] := by
 unfold xu
 rw [List.take_succ_eq_append_getElem hj, List.filter_append, ← nth_eq hj]
 congr 1
 by_cases h : p (nth r j) = true
 ·simp [h]
 ·simp [h]
theorem XM (p : Int → Bool) (r : List Int) (j : Nat) : (xu p (r.take j)).length ≤ j := by
 unfold xu
 have h1 : ((r.take j).filter fun x => !p x).length ≤ (r.take j).length := List.length_filter_le _ _
 have h2 : (r.take j).length ≤ j := by rw [List.length_take]; omega
 omega
def Yk (p : Int → Bool) (r : List Int) (j : Nat) : List Int := xu p (r.take j) ++ r.drop (xu p (r.take j)).length
theorem zbJ {p : Int → Bool} {r : List Int} {j : Nat} (hj : j ≤ r.length) : (Yk p r j).length = r.length := by
 have := XM p r j
 unfold Yk
 rw [List.length_append, List.length_drop]
 omega
theorem zga {p : Int → Bool} {r : List Int} {j : Nat} (hj : j < r.length) : nth (Yk p r j) j = nth r j := by
 have h := XM p r j
 have hl := zbJ (p := p) (r := r) (j := j) (by omega)
 rw [nth_eq (by omega), nth_eq hj]
 simp only [Yk]
 rw [List.getElem_append_right h, List.getElem_drop]
 congr 1
 omega
theorem zez {p : Int → Bool} {r : List Int} {j : Nat} (hj : j < r.length) (hp : p (nth r j) = false) : (Yk p r j).set (xu p (r.take j)).length (nth r j) = Yk p r (j + 1) := by
 have h := XM p r j
 unfold Yk
 rw [YL hj, if_neg (by rw [hp]; decide), List.set_append_right _ _ (Nat.le_refl _), Nat.sub_self, List.append_assoc]
 congr 1
 rw [List.length_append, List.length_singleton, List.drop_eq_getElem_cons (show (xu p (r.take j)).length < r.length by omega)]
 rfl
theorem zeA {p : Int → Bool} {r : List Int} {j : Nat} (hj : j < r.length) (hp : p (nth r j) = true) : Yk p r (j + 1) = Yk p r j := by
 unfold Yk
 rw [YL hj, if_pos hp, List.append_nil]
theorem zc4 {p : Int → Bool} {r : List Int} {j : Nat} (hj : j < r.length) (hp : p (nth r j) = true) (h0 : ∀ q, q < j → p (nth r q) = false) : xu p (r.take (j + 1)) = r.take j ∧ Yk p r (j + 1) = r := by
 have e : xu p (r.take j) = r.take j := zas fun q hq => by
  rw [List.length_take] at hq
  have : nth (r.take j) q = nth r q := by rw [nth_eq (by rw [List.length_take]; exact hq), nth_eq (by omega), List.getElem_take]
  rw [this]; exact h0 q (by omega)
 have e2 : xu p (r.take (j + 1)) = r.take j := by rw [YL hj, if_pos hp, List.append_nil, e]
 refine ⟨e2, ?_⟩
 unfold Yk
 rw [e2, List.length_take, Nat.min_eq_left (by omega), List.take_append_drop]
set_option maxHeartbeats 4000000 in
theorem WR (v : Nat) (r : List Int) (cf : Nat) (caps : List FV) (p : Int → Bool) (hr : r.length ≤ 1000000) (hp : ∀ x ∈ r, yc Try.prog cf ([.int .i64 x] ++ caps) .fr (.bool (p x))) :
  xh Try.prog 19 [.own 5000 v 0 r.length, .fn cf caps] [(5000, ⟨v, .own, 3, 1, r.map zp⟩)] [] (fun res o => res = .own 5000 v 0 (xu p r).length ∧ o 5000 = ⟨v, .own, 3, 1, (xu p r ++ List.replicate (r.length - (xu p r).length) 0).map zp⟩) := by
 refine xh.of_body (c := (xB Try.prog zE zq 42)) ⟨Try.func19, rfl, Try.ntmps19, by kernel_rfl⟩ (by exact Nat.le_of_ble_eq_true rfl) ?_ ?_
 ·rintro res o ⟨rfl, h⟩; exact Yq (v := v) rfl (by rw [h]) (by rw [h]) rfl
 change FW _ _ _ ⟨[(0, .own 5000 v 0 r.length), (1, .fn cf caps)], [(5000, ⟨v, .own, 3, 1, r.map zp⟩)]⟩
 (repeat (first | refine FW.seq ?_ | refine FW.region ?_ | refine zd.nil ?_ | refine za rfl rfl rfl ?_ | refine zb rfl rfl rfl ?_))
 refine zX (Xb r cf caps p hr hp) (by repeat (first | exact zx.nil | refine zx.cons (by first | exact yI.plain rfl rfl | exact yI.own rfl rfl (by decide) (by first | exact (fun _ => rfl) | (intro h; cases h)) (by first | rfl | (simp; done) | (congr 1; omega) | (simp; omega) | (simp [List.take_of_length_le]; done) | (refine congrArg (FV.int .i64) ?_; omega))) ?_)) rfl rfl ?_
 rcases WG p r r.length 0 with ⟨h1, h2⟩ | ⟨j0, _, h2, h3, h4, h5⟩
 ·have hk := zas (p := p) (r := r) fun q hq => h2 q (Nat.zero_le _) (by omega)
  rw [hk, Nat.sub_self, show WI p r = -1 from h1, show r ++ List.replicate 0 0 = r by simp]
  (repeat (first | refine FW.seq ?_ | refine FW.region ?_ | refine FW.condT rfl ?_ | refine zd.nil ?_ | refine za rfl rfl rfl ?_ | refine zb rfl rfl rfl ?_ | refine zU rfl rfl rfl rfl ?_))
  exact FW.ret ⟨.inl rfl, _, .tmp rfl rfl, rfl, rfl⟩
 ·have hj0 : j0 < r.length := by omega
  obtain ⟨s1, s2⟩ := zc4 hj0 h4 fun q hq => h5 q (Nat.zero_le _) hq
  rw [show WI p r = (j0 : Int) from h3]
  obtain ⟨n, hn⟩ : ∃ n, r.length = n := ⟨_, rfl⟩
  rw [hn] at hr hj0 ⊢
  (repeat (first | refine FW.seq ?_ | refine FW.region ?_ | refine FW.block ?_ | refine FW.skip ?_ | refine FW.condF rfl ?_ | refine zd.nil ?_ | refine za rfl rfl rfl ?_ | refine zb rfl rfl rfl ?_ | refine zU rfl rfl rfl rfl ?_ | refine zw rfl rfl (by omega) rfl rfl ?_))
  refine FW.loop (fun j : Nat => ⟨[(0, .own 5000 v 0 n), (1, .fn cf caps), (5, .int .i64 (xu p (r.take j)).length), (6, .int .i64 j)], [(5000, ⟨v, .own, 3, 1, (Yk p r j).map zp⟩)]⟩) (fun j => j ≤ n ∧ (xu p (r.take j)).length < j) (fun j => n - j) (j0 + 1) ⟨by omega, by rw [s1, List.length_take]; omega⟩ ?_ ?_
  ·rw [s1, s2, List.length_take, Nat.min_eq_left (by omega)]
   exact (FLe.cv [⟨5000, some 5000, v, ⟨v, .own, 3, 1, r.map zp⟩⟩] (by repeat (first | exact .nil | refine .old rfl (by decide) rfl ?_)) (by repeat (first | exact .nil | refine .cons (.plain rfl rfl rfl) ?_ | refine .cons (.own rfl (.head _) rfl rfl) ?_)))
  rintro j ⟨hj, hkj⟩
  have hdl := zbJ (p := p) (r := r) (j := j) (by omega)
  have hdn := fun h : j < r.length => zga (p := p) h
  have hks := fun h : j < r.length => YL (p := p) h
  have hdk := fun (h : j < r.length) (hp : p (nth r j) = false) => zez h hp
  have hds := fun (h : j < r.length) (hp : p (nth r j) = true) => zeA h hp
  have hlast : j = n → xu p (r.take j) = xu p r ∧ Yk p r j = xu p r ++ r.drop (xu p r).length := fun e => by
   have e1 : xu p (r.take j) = xu p r := by rw [e, ← hn, List.take_length]
   exact ⟨e1, by unfold Yk; rw [e1]⟩
  generalize Yk p r j = D at hdl hdn hdk hds hlast
  generalize xu p (r.take j) = K at hkj hks hdk hlast
  (repeat (first | refine FW.seq ?_ | refine FW.region ?_ | refine zd.nil ?_ | refine zb rfl rfl rfl ?_ | refine yp rfl rfl rfl (by decide) rfl rfl ?_ | refine zN rfl rfl rfl rfl ?_))
  refine FW.cond rfl (fun hc => ?_) (fun hc => ?_)
  ·have hlt : j < n := by simpa using hc
   have hlr : j < r.length := by omega
   clear hc hlast
   have hdn := hdn hlr
   have hks := hks hlr
   have hpj := hp (nth r j) (zI hlr)
   have hjD : j < D.length := by omega
   (repeat (first | refine FW.seq ?_ | refine FW.region ?_ | refine FW.block ?_ | refine FW.skip ?_ | refine zd.nil ?_ | refine za rfl rfl rfl ?_ | refine zb rfl rfl rfl ?_ | refine zG rfl rfl rfl rfl rfl rfl (by decide) rfl (by first | omega | (simp; omega)) rfl rfl ?_ | refine zm rfl rfl rfl rfl rfl (by first | omega | (simp; omega)) (by first | exact zc (by omega) | rfl) rfl rfl rfl rfl ?_))
   rw [hdn]
   skip
   refine XS rfl hpj (by repeat (first | exact zx.nil | refine zx.cons (by exact yI.plain rfl rfl) ?_)) rfl rfl ?_
   (repeat (first | refine zd.nil ?_ | refine xd rfl rfl rfl ?_))
   cases hb : p (nth r j) with
   | true =>
    rw [if_pos hb, List.append_nil] at hks
    have hds := hds hlr hb
    (repeat (first | refine FW.region ?_ | refine FW.skip ?_ | refine FW.condF rfl ?_ | refine zd.nil ?_ | refine za rfl rfl rfl ?_ | refine zb rfl rfl rfl ?_ | refine zw rfl rfl (by omega) rfl rfl ?_))
    refine ⟨j + 1, ⟨by omega, by rw [hks]; omega⟩, by omega, ?_⟩
    rw [hks, hds]
    exact (FLe.cv [⟨5000, some 5000, v, ⟨v, .own, 3, 1, D.map zp⟩⟩] (by repeat (first | exact .nil | refine .old rfl (by decide) rfl ?_)) (by repeat (first | exact .nil | refine .cons (.plain rfl rfl rfl) ?_ | refine .cons (.own rfl (.head _) rfl rfl) ?_)))
   | false =>
    rw [if_neg (by rw [hb]; decide)] at hks
    have hdk := hdk hlr hb
    have hKD : K.length < D.length := by omega
    (repeat (first | refine FW.seq ?_ | refine FW.region ?_ | refine FW.condT rfl ?_ | refine zd.nil ?_ | refine za rfl rfl rfl ?_ | refine zb rfl rfl rfl ?_ | refine zw rfl rfl (by omega) rfl rfl ?_ | refine zG rfl rfl rfl rfl rfl rfl (by decide) rfl (by first | omega | (simp; omega)) rfl rfl ?_ | refine zY rfl rfl rfl rfl rfl rfl (by first | omega | (simp; omega)) (by first | exact zc (by omega) | rfl) rfl rfl rfl ?_))
    rw [show (zp (nth D K.length)).set 0 (.int .i64 (nth r j)) = zp (nth r j) from rfl, ← List.map_set, hdk]
    refine ⟨j + 1, ⟨by omega, by rw [hks]; simp; omega⟩, by omega, ?_⟩
    rw [hks, List.length_append, List.length_singleton]
    generalize Yk p r (j + 1) = D2
    exact (FLe.cv [⟨5000, some 5000, v, ⟨v, .own, 3, 1, D2.map zp⟩⟩] (by repeat (first | exact .nil | refine .old rfl (by decide) rfl ?_)) (by repeat (first | exact .nil | refine .cons (.plain rfl rfl rfl) ?_ | refine .cons (.own rfl (.head _) rfl rfl) ?_)))
  ·obtain rfl : j = n := by simp at hc; omega
   obtain ⟨e1, e2⟩ := hlast rfl
   subst e1
   have hsp : splice (D.map zp) (0 + (xu p r).length) (List.replicate (j - (xu p r).length) [FV.int .i64 0]) = (xu p r ++ List.replicate (j - (xu p r).length) 0).map zp := by
    rw [e2]
    unfold splice
    rw [Nat.zero_add, List.map_append, List.take_left' (List.length_map _), List.drop_of_length_le (by simp; omega), List.append_nil, List.map_append, List.map_replicate]
    rfl
   (repeat (first | refine FW.seq ?_ | refine FW.region ?_ | refine FW.exit ?_ | refine zb rfl rfl rfl ?_ | refine Ut rfl rfl rfl rfl (by decide) rfl (by exact LoR.some rfl) (by exact HiR.none) (by omega) (by omega) rfl rfl ?_))
   refine zh4 rfl rfl rfl rfl rfl rfl (by omega) rfl ?_
   rw [hsp]
   (repeat (first | refine FW.seq ?_ | refine FW.region ?_ | refine zd.nil ?_ | refine za rfl rfl rfl ?_ | refine zb rfl rfl rfl ?_ | refine Ut rfl rfl rfl rfl (by decide) rfl (by exact LoR.none) (by exact HiR.some rfl) (by omega) (by omega) rfl rfl ?_))
   exact FW.ret ⟨.inl rfl, _, .tmp rfl rfl, rfl, rfl⟩
end Go.Proofs.Ytokmanfcndelfaa
