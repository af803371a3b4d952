/-
  Some texts as one: FmOnce, FmHas, WfPlain.
-/
import Derived.Test.YthjplkjpehdpfaaZD
/-
 The small functions of layers 01, 21 and 24, at plain values.
-/
namespace Go.Proofs.Ythjplkjpehdpfaa
set_option linter.unusedVariables false
open Go.RowKit

theorem yS (a b : List Int) (ha : a.length ≤ 1000000000) (hb : b.length ≤ 1000000000) : yj Try.prog 20 [.list 1 (a.map zt), .list 1 (b.map zt)] .fr (.bool (decide (a = b))) := by
 refine yj.of_body (c := (xm Try.prog zw zn 26)) ⟨Try.func20, rfl, Try.ntmps20, by kernel_rfl⟩ (by simp [FV.hand]) (by exact Nat.le_of_ble_eq_true rfl) rfl ?_
 change FW _ _ _ ⟨[(0, .list 1 (a.map zt)), (1, .list 1 (b.map zt))], []⟩
 (repeat (first | refine FW.seq ?_ | refine FW.region ?_ | refine zd.nil ?_ | refine zc rfl rfl rfl ?_ | refine zb rfl rfl rfl ?_ | refine zA rfl rfl (by exact List.length_map _) rfl rfl ?_ | refine zfI rfl rfl rfl rfl ?_))
 refine FW.cond rfl (fun h => ?_) (fun h => ?_)
 ·(repeat (first | refine FW.seq ?_ | refine FW.region ?_ | refine zd.nil ?_ | refine zc rfl rfl rfl ?_))
  refine FW.ret ⟨.inl rfl, yy rfl rfl ?_ rfl⟩
  have : a ≠ b := by rintro rfl; simp at h
  simp [this]; rfl
 ·have hlen : a.length = b.length := by simp at h; omega
  (repeat (first | refine FW.seq ?_ | refine FW.region ?_ | refine FW.block ?_ | refine FW.skip ?_ | refine zd.nil ?_ | refine zc rfl rfl rfl ?_))
  refine FW.loop (fun k : Nat => ⟨[(0, .list 1 (a.map zt)), (1, .list 1 (b.map zt)), (5, .int .i64 k)], []⟩) (fun k => k ≤ a.length ∧ a.take k = b.take k) (fun k => a.length - k) 0 (by simp) (FLe.cv [] (by repeat (first | exact .nil)) (by repeat (first | exact .nil | refine .cons (.plain rfl rfl rfl) ?_))) ?_
  rintro k ⟨hk, hab⟩
  (repeat (first | refine FW.seq ?_ | refine FW.region ?_ | refine zd.nil ?_ | refine zb rfl rfl rfl ?_ | refine zA rfl rfl (by exact List.length_map _) rfl rfl ?_ | refine zP rfl rfl rfl rfl ?_))
  refine FW.cond rfl (fun h => ?_) (fun h => ?_)
  ·have hlt : k < a.length := by simpa using h
   clear h
   (repeat (first | refine FW.seq ?_ | refine FW.block ?_ | refine FW.skip ?_ | refine FW.draw ?_ | refine zD.nil ?_ | refine zS rfl rfl rfl ?_ | refine zfE rfl rfl rfl rfl ?_ | refine ZC rfl rfl rfl rfl rfl rfl (by simp; omega) rfl rfl ?_ | refine ZQ rfl rfl rfl (by simp; omega) (by first | exact zf (by omega) | rfl) rfl rfl rfl rfl ?_))
   refine ⟨by kernel_rfl, ?_⟩
   refine FW.cond rfl (fun h => ?_) (fun h => ?_)
   ·(repeat (first | refine FW.seq ?_ | refine FW.region ?_ | refine zd.nil ?_ | refine zc rfl rfl rfl ?_))
    refine FW.ret ⟨.inl rfl, yy rfl rfl ?_ rfl⟩
    have : a ≠ b := by rintro rfl; simp at h
    simp [this]; rfl
   ·(repeat (first | refine FW.region ?_ | refine FW.skip ?_ | refine zd.nil ?_ | refine zc rfl rfl rfl ?_ | refine zb rfl rfl rfl ?_ | refine zB rfl rfl (by omega) rfl rfl ?_))
    refine ⟨k + 1, ⟨by omega, ?_⟩, by omega, (FLe.cv [] (by repeat (first | exact .nil)) (by repeat (first | exact .nil | refine .cons (.plain rfl rfl rfl) ?_)))⟩
    have h1 : nth a k = nth b k := by simpa using h
    rw [List.take_succ_eq_append_getElem hlt, List.take_succ_eq_append_getElem (by omega), hab, ← nth_eq hlt, ← nth_eq (by omega), h1]
  ·(repeat (first | refine FW.seq ?_ | refine FW.region ?_ | refine FW.exit ?_ | refine zd.nil ?_ | refine zc rfl rfl rfl ?_))
   refine FW.ret ⟨.inl rfl, yy rfl rfl ?_ rfl⟩
   have : k = a.length := by simp at h; omega
   subst this
   have : a = b := by rw [List.take_of_length_le (Nat.le_refl _), List.take_of_length_le (by omega)] at hab; exact hab
   simp [this]; rfl

end Go.Proofs.Ythjplkjpehdpfaa
/-
 simproofref01.Has, at plain values.
-/
namespace Go.Proofs.Ythjplkjpehdpfaa
set_option linter.unusedVariables false
open Go.RowKit
def zgp (l : List Int) (n : Int) : Bool := decide (n ∈ l)
end Go.Proofs.Ythjplkjpehdpfaa
/-
 Lists of operations that are histories, told by pairs; what keeps them so.
-/
namespace Go.Proofs.Ythjplkjpehdpfaa
set_option linter.unusedVariables false

def zgE (a b : OpV) : Prop := a.call < b.call ∧ (a.done = true → a.ret ≠ b.call ∧ (b.done = true → b.ret ≠ a.ret)) ∧ (a.p = b.p → a.done = true ∧ a.ret ≤ b.call)
structure WFH (l : List OpV) : Prop where
 len : l.length ≤ 300
 wf : ∀ o ∈ l, wfB o = true
 rel : l.Pairwise zgE

theorem WFH.pair {l : List OpV} (h : WFH l) {i j : Nat} (hij : i < j) (hj : j < l.length) : zgE (nth l i) (nth l j) := by
 rw [nth_eq hj, nth_eq (show i < l.length by omega)]
 exact List.pairwise_iff_getElem.1 h.rel i j (by omega) hj hij
theorem WFH.at {l : List OpV} (h : WFH l) {i : Nat} (hi : i < l.length) : wfB (nth l i) = true := h.wf _ (zK hi)
theorem zfj {o : OpV} (h : wfB o = true) : o.call < o.ret := by
 simp only [wfB, Bool.and_eq_true, decide_eq_true_eq] at h
 omega
theorem WFH.err {l : List OpV} (h : WFH l) {k : Nat} (hk : k < l.length) : zgi l k = 0 := by
 unfold zgi
 rw [if_neg (by rw [h.at hk]; decide)]
 rw [if_neg (fun e => by have := (h.pair (show k - 1 < k by omega) hk).1; omega)]
 rw [if_neg (fun e => ?_), if_neg (fun e => ?_)]
 ·obtain ⟨e1, e2⟩ := e
  obtain ⟨q, hq⟩ := Option.isSome_iff_exists.1 e1
  rw [hq] at e2
  simp only [Option.getD_some] at e2
  obtain ⟨m, hm, hmq, hmp⟩ := Wv hq
  subst hmq
  obtain ⟨h1, h2⟩ := (h.pair hm hk).2.2 hmp
  rcases e2 with e2 | e2
  ·rw [h1] at e2; cases e2
  ·omega
 ·have ret : ∀ x, zgF l k x = true → ∃ m, m < k ∧ (nth l m).done = true ∧ (nth l m).ret = x := fun x hx => by
   unfold zgF at hx
   obtain ⟨m, h1, _, h3⟩ := zbH hx
   simp only [Bool.and_eq_true, beq_iff_eq] at h3
   exact ⟨m, h1, h3⟩
  simp only [Bool.or_eq_true, Bool.and_eq_true] at e
  rcases e with e | ⟨hd, e | e⟩
  ·obtain ⟨m, h1, h2, h3⟩ := ret _ e
   exact ((h.pair h1 hk).2.1 h2).1 h3
  ·obtain ⟨m, h1, h2, h3⟩ := ret _ e
   exact ((h.pair h1 hk).2.1 h2).2 hd h3.symm
  ·unfold zgm at e
   obtain ⟨j, _, hj, h3⟩ := zbH e
   simp only [beq_iff_eq] at h3
   have hc := zfj (h.at hk)
   rcases Nat.lt_trichotomy j k with h4 | h4 | h4
   ·have := (h.pair h4 hk).1; omega
   ·subst h4; omega
   ·exact ((h.pair h4 hj).2.1 hd).1 h3.symm
theorem WFH.check {l : List OpV} (h : WFH l) : zfx l = 0 := by
 unfold zfx
 rw [if_neg (by have := h.len; omega)]
 exact Zy _ _ fun j _ hj => h.err (by omega)

theorem WFH.sub {l l' : List OpV} (h : WFH l) (hs : l'.Sublist l) : WFH l' := ⟨Nat.le_trans hs.length_le h.len, fun o ho => h.wf o (hs.subset ho), h.rel.sublist hs⟩
theorem WFH.filter {l : List OpV} (h : WFH l) (f : OpV → Bool) : WFH (l.filter f) := h.sub List.filter_sublist
theorem WFH.map {l : List OpV} (h : WFH l) (f : OpV → OpV) (hf : ∀ o, (f o).p = o.p ∧ (f o).k = o.k ∧ (f o).call = o.call ∧ (f o).ret = o.ret ∧ (f o).done = o.done ∧ (o.res = 0 → (f o).res = 0)) : WFH (l.map f) := by
 refine ⟨by rw [List.length_map]; exact h.len, fun o ho => ?_, ?_⟩
 ·obtain ⟨x, hx, rfl⟩ := List.mem_map.1 ho
  have hw := h.wf x hx
  obtain ⟨h1, h2, h3, h4, h5, h6⟩ := hf x
  simp only [wfB, Bool.and_eq_true, Bool.or_eq_true, decide_eq_true_eq] at hw ⊢
  rw [h1, h2, h3, h4, h5]
  exact ⟨hw.1, hw.2.imp id h6⟩
 ·rw [List.pairwise_map]
  refine h.rel.imp fun {a b} hab => ?_
  obtain ⟨a1, _, a3, a4, a5, _⟩ := hf a
  obtain ⟨b1, _, b3, b4, b5, _⟩ := hf b
  unfold zgE at hab ⊢
  rw [a1, a3, a4, a5, b1, b3, b4, b5]
  exact hab
theorem WFH.set {l : List OpV} (h : WFH l) {i : Nat} (hi : i < l.length) {o : OpV} (hf : o.p = (nth l i).p ∧ o.k = (nth l i).k ∧ o.call = (nth l i).call ∧ o.ret = (nth l i).ret ∧ o.done = (nth l i).done ∧ ((nth l i).done = false → o.res = (nth l i).res)) : WFH (l.set i o) := by
 obtain ⟨h1, h2, h3, h4, h5, h6⟩ := hf
 have hw := h.at hi
 refine ⟨by simpa using h.len, fun x hx => ?_, ?_⟩
 ·rcases List.mem_or_eq_of_mem_set hx with hx | rfl
  ·exact h.wf x hx
  ·simp only [wfB, Bool.and_eq_true, Bool.or_eq_true, decide_eq_true_eq] at hw ⊢
   rw [h1, h2, h3, h4, h5]
   refine ⟨hw.1, ?_⟩
   cases hd : (nth l i).done with
   | true => exact .inl rfl
   | false => right; rw [h6 hd]; rw [hd] at hw; simpa using hw.2
 ·have key : ∀ j, j < l.length → (nth (l.set i o) j).p = (nth l j).p ∧ (nth (l.set i o) j).call = (nth l j).call ∧ (nth (l.set i o) j).ret = (nth l j).ret ∧ (nth (l.set i o) j).done = (nth l j).done := fun j hj => by
   by_cases e : i = j
   ·subst e; rw [zx hi]; exact ⟨h1, h3, h4, h5⟩
   ·rw [zq e]; exact ⟨rfl, rfl, rfl, rfl⟩
  rw [List.pairwise_iff_getElem]
  intro a b ha hb hab
  have ha' : a < l.length := by simpa using ha
  have hb' : b < l.length := by simpa using hb
  have hp := h.pair hab hb'
  rw [← nth_eq ha, ← nth_eq hb]
  obtain ⟨a1, a2, a3, a4⟩ := key a ha'
  obtain ⟨b1, b2, b3, b4⟩ := key b hb'
  unfold zgE at hp ⊢
  rw [a1, a2, a3, a4, b1, b2, b3, b4]
  exact hp
end Go.Proofs.Ythjplkjpehdpfaa
