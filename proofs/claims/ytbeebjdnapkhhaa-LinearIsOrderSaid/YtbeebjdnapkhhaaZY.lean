/-
  The reference of layer 21 at plain values: count, fits, Exists, IsOrder.
-/
import Derived.Test.YtbeebjdnapkhhaaZT
import Derived.Test.YtbeebjdnapkhhaaZFmLinz
import Derived.Test.YtbeebjdnapkhhaaZS
namespace Go.Proofs.Ytbeebjdnapkhhaa
set_option linter.unusedVariables false
open Go.RowKit

set_option maxHeartbeats 4000000 in
theorem zef (l : List OpV) (hl : l.length ≤ 1000000) : zU Try.prog 42 [.list 8 (l.map OpV.fv)] .fr (.int .i64 ((xH l).length : Nat)) := by
 have his := fun i hi => XL l i hl hi
 have hfin : xH l = zeR l l.length := rfl
 rw [hfin]
 refine zU.of_body (c := (xN Try.prog zE zA 17)) ⟨Try.func42, rfl, Try.ntmps42, by kernel_rfl⟩ (by simp [FV.hand]) (by exact Nat.le_of_ble_eq_true rfl) rfl ?_
 change FW _ _ _ ⟨[(0, .list 8 (l.map OpV.fv))], []⟩
 (repeat (first | refine FW.seq ?_ | refine FW.region ?_ | refine FW.block ?_ | refine zc.nil ?_ | refine za rfl rfl rfl ?_))
 refine FW.loop (fun k : Nat => ⟨[(0, .list 8 (l.map OpV.fv)), (3, .int .i64 ((zeR l k).length : Nat)), (4, .int .i64 k)], []⟩) (fun k => k ≤ l.length) (fun k => l.length - k) 0 (Nat.zero_le _) ?_ ?_
 ·exact (FLe.conv [] (by simp) (by simp) rfl (by repeat (first | exact .nil)) (by repeat (first | exact .nil)) (by repeat (first | exact .nil | refine .cons (.plain rfl rfl rfl) ?_)))
 intro k hk
 have hs := zcW l k
 have hle := zeS l k
 (repeat (first | refine FW.seq ?_ | refine FW.region ?_ | refine zc.nil ?_ | refine zb rfl rfl rfl ?_ | refine zm rfl rfl (by exact List.length_map _) rfl rfl ?_ | refine zJ rfl rfl rfl rfl ?_))
 refine FW.cond rfl (fun h => ?_) (fun h => ?_)
 ·have hlt : k < l.length := by simpa using h
  have his := his k hlt
  generalize zeR l k = I at hs hle ⊢
  (repeat (first | refine FW.seq ?_ | refine FW.region ?_ | refine FW.block ?_ | refine FW.skip ?_ | refine zb rfl rfl rfl ?_))
  refine zH his (by repeat (first | exact zh.nil | refine zh.cons (by exact yf.plain rfl rfl) ?_)) rfl rfl ?_
  (repeat (first | refine zc.nil ?_))
  refine FW.cond rfl (fun h => ?_) (fun h => ?_)
  ·rw [if_pos h] at hs
   (repeat (first | refine FW.region ?_ | refine zc.nil ?_ | refine za rfl rfl rfl ?_ | refine zb rfl rfl rfl ?_ | refine zu rfl rfl (by omega) rfl rfl ?_))
   refine ⟨k + 1, by omega, by omega, ?_⟩
   rw [hs, List.length_append]
   exact (FLe.conv [] (by simp) (by simp) rfl (by repeat (first | exact .nil)) (by repeat (first | exact .nil)) (by repeat (first | exact .nil | refine .cons (.plain rfl rfl rfl) ?_)))
  ·rw [if_neg (by rw [h]; decide), List.append_nil] at hs
   (repeat (first | refine FW.region ?_ | refine FW.skip ?_ | refine zc.nil ?_ | refine za rfl rfl rfl ?_ | refine zb rfl rfl rfl ?_ | refine zu rfl rfl (by omega) rfl rfl ?_))
   refine ⟨k + 1, by omega, by omega, ?_⟩
   rw [hs]
   exact (FLe.conv [] (by simp) (by simp) rfl (by repeat (first | exact .nil)) (by repeat (first | exact .nil)) (by repeat (first | exact .nil | refine .cons (.plain rfl rfl rfl) ?_)))
 ·obtain rfl : k = l.length := by simp at h; omega
  (repeat (first | refine FW.seq ?_ | refine FW.region ?_ | refine FW.exit ?_ | refine zc.nil ?_ | refine za rfl rfl rfl ?_ | refine zb rfl rfl rfl ?_))
  exact FW.ret ⟨.inl rfl, zy rfl rfl rfl rfl⟩
set_option maxHeartbeats 8000000 in
theorem zfX (l : List OpV) (o : List Int) (i : Nat) (hl : l.length ≤ 1000000) (hol : o.length ≤ 1000000) (hr : ∀ x ∈ o, 0 ≤ x ∧ x < l.length) (hi : i < l.length) : zU Try.prog 43 [.list 8 (l.map OpV.fv), .list 1 (o.map zF), .int .i64 i] .fr (.bool (zbC l o (i : Int))) := by
 have his := XL l i hl hi
 have hhs := ziI o i (by omega)
 have hbs := fun k hk => zdd l i k hi hk
 have hR : zbC l o (i : Int) = (zR l i && (!zg5 o (i : Int) && (!(o.any fun k => bef l i k.toNat) && (decide ((nth l i).k = 1) || decide (XN l (nth l i).key o = (nth l i).res))))) := rfl
 obtain ⟨R, hRe⟩ : ∃ R, zbC l o (i : Int) = R := ⟨_, rfl⟩
 obtain ⟨p, hp⟩ : ∃ p, nth l i = p := ⟨_, rfl⟩
 rw [hRe, hp] at hR
 rw [hRe]
 refine zU.of_body (c := (xN Try.prog zE zA 72)) ⟨Try.func43, rfl, Try.ntmps43, by kernel_rfl⟩ (by simp [FV.hand]) (by exact Nat.le_of_ble_eq_true rfl) rfl ?_
 change FW _ _ _ ⟨[(0, .list 8 (l.map OpV.fv)), (1, .list 1 (o.map zF)), (2, .int .i64 i)], []⟩
 (repeat (first | refine FW.seq ?_ | refine FW.region ?_ | refine zc.nil ?_ | refine za rfl rfl rfl ?_ | refine zb rfl rfl rfl ?_))
 refine zH his (by repeat (first | exact zh.nil | refine zh.cons (by exact yf.plain rfl rfl) ?_)) rfl rfl ?_
 cases h1 : zR l i with
 | false =>
  rw [h1, Bool.false_and] at hR
  subst hR
  (repeat (first | refine FW.seq ?_ | refine FW.region ?_ | refine FW.condT rfl ?_ | refine zc.nil ?_ | refine za rfl rfl rfl ?_ | refine zb rfl rfl rfl ?_ | refine xE rfl rfl rfl ?_ | refine zK rfl rfl rfl rfl ?_ | refine ye rfl rfl ⟨_, _, rfl, rfl, rfl⟩ ?_))
  exact FW.ret ⟨.inl rfl, zy rfl rfl rfl rfl⟩
 | true =>
 rw [h1, Bool.true_and] at hR
 (repeat (first | refine zb rfl rfl rfl ?_ | refine xE rfl rfl rfl ?_ | refine zb rfl rfl ⟨_, _, rfl, rfl, rfl⟩ ?_))
 refine zH hhs (by repeat (first | exact zh.nil | refine zh.cons (by exact yf.plain rfl rfl) ?_)) rfl ⟨_, _, rfl, rfl, rfl⟩ ?_
 cases h2 : zg5 o (i : Int) with
 | true =>
  rw [h2, Bool.not_true, Bool.false_and] at hR
  subst hR
  (repeat (first | refine FW.seq ?_ | refine FW.region ?_ | refine FW.condT rfl ?_ | refine zc.nil ?_ | refine za rfl rfl rfl ?_ | refine zL rfl rfl rfl rfl ?_))
  exact FW.ret ⟨.inl rfl, zy rfl rfl rfl rfl⟩
 | false =>
 rw [h2, Bool.not_false, Bool.true_and] at hR
 (repeat (first | refine FW.seq ?_ | refine FW.region ?_ | refine FW.block ?_ | refine FW.skip ?_ | refine FW.condF rfl ?_ | refine zc.nil ?_ | refine za rfl rfl rfl ?_ | refine zL rfl rfl rfl rfl ?_))
 refine FW.loop (fun n : Nat => ⟨[(0, .list 8 (l.map OpV.fv)), (1, .list 1 (o.map zF)), (2, .int .i64 i), (7, .int .i64 (XN l p.key (o.take n))), (8, .int .i64 n)], []⟩) (fun n => n ≤ o.length ∧ ∀ j, j < n → bef l i (nth o j).toNat = false) (fun n => o.length - n) 0 ⟨Nat.zero_le _, fun j hj => by omega⟩ ?_ ?_
 ·show FLe _ ⟨[(0, .list 8 (l.map OpV.fv)), (1, .list 1 (o.map zF)), (2, .int .i64 i), (7, .int .i64 0), (8, .int .i64 0)], []⟩
  exact (FLe.conv [] (by simp) (by simp) rfl (by repeat (first | exact .nil)) (by repeat (first | exact .nil)) (by repeat (first | exact .nil | refine .cons (.plain rfl rfl rfl) ?_)))
 rintro n ⟨hn, hno⟩
 (repeat (first | refine FW.seq ?_ | refine FW.region ?_ | refine zc.nil ?_ | refine zb rfl rfl rfl ?_ | refine zm rfl rfl (by exact List.length_map _) rfl rfl ?_ | refine zJ rfl rfl rfl rfl ?_))
 refine FW.cond rfl (fun h => ?_) (fun h => ?_)
 ·have hlt : n < o.length := by simpa using h
  clear h
  have hx := hr _ (zp hlt)
  have hsn := WJ l p.key (o.take n) (nth o n)
  rw [← xd hlt] at hsn
  obtain ⟨k, hk⟩ : ∃ k : Nat, nth o n = k := ⟨(nth o n).toNat, by omega⟩
  have hkl : k < l.length := by omega
  have hbs := hbs k hkl
  rw [hk] at hsn
  unfold zao at hsn
  rw [Int.toNat_natCast] at hsn
  obtain ⟨v, hv⟩ : ∃ v, XN l p.key (o.take n) = v := ⟨_, rfl⟩
  rw [hv] at hsn ⊢
  have hst : bef l i k = false → ∀ j, j < n + 1 → bef l i (nth o j).toNat = false := fun hb j hj => by
   by_cases e : j = n
   ·rw [e, hk, Int.toNat_natCast]; exact hb
   ·exact hno j (by omega)
  (repeat (first | refine FW.seq ?_ | refine FW.region ?_ | refine FW.block ?_ | refine FW.skip ?_ | refine zc.nil ?_ | refine za rfl rfl rfl ?_ | refine zb rfl rfl rfl ?_ | refine zw rfl rfl rfl rfl rfl rfl (by simp; omega) rfl rfl ?_ | refine zt rfl rfl rfl (by simp; omega) (by first | exact zd (by omega) | rfl) rfl rfl rfl rfl ?_))
  rw [hk]
  skip
  refine zH hbs (by repeat (first | exact zh.nil | refine zh.cons (by exact yf.plain rfl rfl) ?_)) rfl rfl ?_
  cases hb : bef l i k with
  | true =>
   have hR2 : R = false := by
    rw [hR, show (o.any fun k => bef l i k.toNat) = true from List.any_eq_true.2 ⟨_, zp hlt, by rw [hk, Int.toNat_natCast]; exact hb⟩]; rfl
   subst hR2
   (repeat (first | refine FW.seq ?_ | refine FW.region ?_ | refine FW.condT rfl ?_ | refine zc.nil ?_ | refine za rfl rfl rfl ?_))
   exact FW.ret ⟨.inl rfl, zy rfl rfl rfl rfl⟩
  | false =>
  have hst := hst hb
  obtain ⟨q, hq⟩ : ∃ q, nth l k = q := ⟨_, rfl⟩
  rw [hq] at hsn
  (repeat (first | refine FW.seq ?_ | refine FW.skip ?_ | refine FW.condF rfl ?_ | refine zc.nil ?_))
  refine FW.drawQ (by kernel_rfl) ?_
  (repeat (first | refine zM rfl rfl rfl ?_ | refine zQ rfl rfl rfl rfl rfl rfl (by simp; omega) rfl rfl ?_ | refine zS rfl rfl rfl (by simp; omega) (by first | exact zd (by omega) | rfl) rfl rfl rfl rfl ?_ | refine yx rfl rfl rfl rfl rfl rfl rfl ?_ | refine WC rfl rfl rfl rfl ?_))
  rw [hq, hp]
  refine YE (fun h3 => ?_) (fun h3 => ?_)
  ·rw [h3, Bool.true_and] at hsn
   (repeat (first | refine zI.nil ?_ | refine Zb rfl rfl rfl rfl ?_ | refine zM rfl rfl ⟨_, _, rfl, rfl, rfl⟩ ?_ | refine zQ rfl rfl rfl rfl rfl rfl (by simp; omega) rfl ⟨_, _, rfl, rfl, rfl⟩ ?_ | refine yx rfl rfl rfl rfl rfl rfl ⟨_, _, rfl, rfl, rfl⟩ ?_ | refine zS rfl rfl rfl (by simp; omega) (by first | exact zd (by omega) | rfl) rfl rfl rfl ⟨_, _, rfl, rfl, rfl⟩ ?_ | refine WC rfl rfl rfl ⟨_, _, rfl, rfl, rfl⟩ ?_))
   rw [hq]
   skip
   refine ⟨by kernel_rfl, ?_⟩
   refine FW.cond rfl (fun h4 => ?_) (fun h4 => ?_)
   ·rw [if_pos (by exact h4)] at hsn
    (repeat (first | refine FW.region ?_ | refine zc.nil ?_ | refine za rfl rfl rfl ?_ | refine zb rfl rfl rfl ?_ | refine zw rfl rfl rfl rfl rfl rfl (by simp; omega) rfl rfl ?_ | refine zt rfl rfl rfl (by simp; omega) (by first | exact zd (by omega) | rfl) rfl rfl rfl rfl ?_ | refine ya rfl rfl rfl rfl rfl rfl rfl ?_ | refine zu rfl rfl (by omega) rfl rfl ?_))
    rw [hq]
    skip
    refine ⟨n + 1, ⟨by omega, hst⟩, by omega, ?_⟩
    rw [hsn]
    exact (FLe.conv [] (by simp) (by simp) rfl (by repeat (first | exact .nil)) (by repeat (first | exact .nil)) (by repeat (first | exact .nil | refine .cons (.plain rfl rfl rfl) ?_)))
   ·rw [if_neg (by rw [show decide (q.k = 1) = false from h4]; decide)] at hsn
    (repeat (first | refine FW.region ?_ | refine FW.skip ?_ | refine zc.nil ?_ | refine za rfl rfl rfl ?_ | refine zb rfl rfl rfl ?_ | refine zu rfl rfl (by omega) rfl rfl ?_))
    refine ⟨n + 1, ⟨by omega, hst⟩, by omega, ?_⟩
    rw [hsn]
    exact (FLe.conv [] (by simp) (by simp) rfl (by repeat (first | exact .nil)) (by repeat (first | exact .nil)) (by repeat (first | exact .nil | refine .cons (.plain rfl rfl rfl) ?_)))
  ·rw [h3, Bool.false_and, if_neg (by decide)] at hsn
   (repeat (first | refine zI.nil ?_ | refine Za rfl rfl rfl rfl ?_ | refine ZV rfl rfl ⟨_, _, rfl, rfl, rfl⟩ ?_))
   refine ⟨by kernel_rfl, ?_⟩
   (repeat (first | refine FW.region ?_ | refine FW.skip ?_ | refine FW.condF rfl ?_ | refine zc.nil ?_ | refine za rfl rfl rfl ?_ | refine zb rfl rfl rfl ?_ | refine zu rfl rfl (by omega) rfl rfl ?_))
   refine ⟨n + 1, ⟨by omega, hst⟩, by omega, ?_⟩
   rw [hsn]
   exact (FLe.conv [] (by simp) (by simp) rfl (by repeat (first | exact .nil)) (by repeat (first | exact .nil)) (by repeat (first | exact .nil | refine .cons (.plain rfl rfl rfl) ?_)))
 ·obtain rfl : n = o.length := by simp at h; omega
  rw [List.take_length]
  rw [show (o.any fun k => bef l i k.toNat) = false by
   rw [List.any_eq_false]
   intro x hx
   obtain ⟨j, hj, e⟩ := VI hx
   rw [← e, hno j hj]; decide, Bool.not_false, Bool.true_and] at hR
  generalize XN l p.key o = v at hR ⊢
  (repeat (first | refine FW.seq ?_ | refine FW.region ?_ | refine FW.exit ?_ | refine zb rfl rfl rfl ?_ | refine zw rfl rfl rfl rfl rfl rfl (by simp; omega) rfl rfl ?_ | refine zt rfl rfl rfl (by simp; omega) (by first | exact zd (by omega) | rfl) rfl rfl rfl rfl ?_ | refine ya rfl rfl rfl rfl rfl rfl rfl ?_ | refine yz rfl rfl rfl rfl ?_))
  rw [hp]
  refine yy (fun h5 => ?_) (fun h5 => ?_)
  ·rw [h5, Bool.true_or] at hR
   subst hR
   (repeat (first | refine zc.nil ?_ | refine za rfl rfl rfl ?_ | refine zK rfl rfl rfl rfl ?_ | refine ye rfl rfl ⟨_, _, rfl, rfl, rfl⟩ ?_))
   exact FW.ret ⟨.inl rfl, zy rfl rfl rfl rfl⟩
  ·rw [h5, Bool.false_or] at hR
   subst hR
   (repeat (first | refine zc.nil ?_ | refine za rfl rfl rfl ?_ | refine zL rfl rfl rfl rfl ?_ | refine zb rfl rfl ⟨_, _, rfl, rfl, rfl⟩ ?_ | refine zw rfl rfl rfl rfl rfl rfl (by simp; omega) rfl ⟨_, _, rfl, rfl, rfl⟩ ?_ | refine ya rfl rfl rfl rfl rfl rfl ⟨_, _, rfl, rfl, rfl⟩ ?_ | refine zt rfl rfl rfl (by simp; omega) (by first | exact zd (by omega) | rfl) rfl rfl rfl ⟨_, _, rfl, rfl, rfl⟩ ?_ | refine yz rfl rfl rfl ⟨_, _, rfl, rfl, rfl⟩ ?_))
   rw [hp]
   skip
   exact FW.ret ⟨.inl rfl, zy rfl rfl rfl rfl⟩
set_option maxHeartbeats 8000000 in
theorem WA (l : List OpV) (o : List Int) (hl : l.length ≤ 1000000) (hol : o.length ≤ 1000000) : zU Try.prog 31 [.list 8 (l.map OpV.fv), .list 1 (o.map zF)] .fr (.bool (ZM l o)) := by
 have hcs := zef l hl
 have hR : ZM l o = ((List.range o.length).all (Zl l o) && decide (o.length = (xH l).length)) := rfl
 have hfs := fun a i h1 h2 h3 => zfX l a i hl h1 h2 h3
 obtain ⟨R, hRe⟩ : ∃ R, ZM l o = R := ⟨_, rfl⟩
 rw [hRe] at hR ⊢
 have hno : ∀ n, n < o.length → Zl l o n = false → R = false := fun n hn h => by
  rw [hR, show (List.range o.length).all (Zl l o) = false by
   rw [List.all_eq_false]
   exact ⟨n, List.mem_range.2 hn, by rw [h]; decide⟩]; rfl
 refine zU.of_body (c := (xN Try.prog zE zA 43)) ⟨Try.func31, rfl, Try.ntmps31, by kernel_rfl⟩ (by simp [FV.hand]) (by exact Nat.le_of_ble_eq_true rfl) rfl ?_
 change FW _ _ _ ⟨[(0, .list 8 (l.map OpV.fv)), (1, .list 1 (o.map zF))], []⟩
 (repeat (first | refine FW.seq ?_ | refine FW.region ?_ | refine FW.block ?_ | refine zc.nil ?_ | refine za rfl rfl rfl ?_))
 refine FW.loop (fun n : Nat => ⟨[(0, .list 8 (l.map OpV.fv)), (1, .list 1 (o.map zF)), (5, .int .i64 n)], []⟩) (fun n => n ≤ o.length ∧ ∀ j, j < n → Zl l o j = true) (fun n => o.length - n) 0 ⟨Nat.zero_le _, fun j hj => by omega⟩ ?_ ?_
 ·exact (FLe.conv [] (by simp) (by simp) rfl (by repeat (first | exact .nil)) (by repeat (first | exact .nil)) (by repeat (first | exact .nil | refine .cons (.plain rfl rfl rfl) ?_)))
 rintro n ⟨hn, hyes⟩
 (repeat (first | refine FW.seq ?_ | refine FW.region ?_ | refine zc.nil ?_ | refine zb rfl rfl rfl ?_ | refine zm rfl rfl (by exact List.length_map _) rfl rfl ?_ | refine zJ rfl rfl rfl rfl ?_))
 refine FW.cond rfl (fun h => ?_) (fun h => ?_)
 ·have hlt : n < o.length := by simpa using h
  clear h
  have hno := hno n hlt
  have hs : Zl l o n = ((decide (0 ≤ nth o n) && decide (nth o n < l.length)) && zbC l (o.take n) (nth o n)) := rfl
  have hst : Zl l o n = true → ∀ j, j < n + 1 → Zl l o j = true := fun h j hj => by
   by_cases e : j = n
   ·rw [e]; exact h
   ·exact hyes j (by omega)
  have hrt : ∀ x ∈ o.take n, 0 ≤ x ∧ x < l.length := fun x hx => by
   obtain ⟨j, hj, e⟩ := List.mem_take_iff_getElem.1 hx
   have := (Xh.1 (hyes j (by omega))).1
   rw [zi (show j < o.length by omega), e] at this
   exact this
  obtain ⟨z, hz⟩ : ∃ z, nth o n = z := ⟨_, rfl⟩
  rw [hz] at hs
  (repeat (first | refine FW.seq ?_ | refine FW.region ?_ | refine FW.block ?_ | refine FW.skip ?_ | refine zb rfl rfl rfl ?_ | refine zJ rfl rfl rfl rfl ?_ | refine zw rfl rfl rfl rfl rfl rfl (by simp; omega) rfl rfl ?_ | refine zt rfl rfl rfl (by simp; omega) (by first | exact zd (by omega) | rfl) rfl rfl rfl rfl ?_))
  rw [hz]
  refine yy (fun h1 => ?_) (fun h1 => ?_)
  ·have h1 : z < 0 := by simpa using h1
   have hR2 : R = false := hno (by rw [hs, decide_eq_false (by omega)]; rfl)
   subst hR2
   (repeat (first | refine FW.seq ?_ | refine FW.region ?_ | refine FW.condT rfl ?_ | refine zc.nil ?_ | refine za rfl rfl rfl ?_ | refine zK rfl rfl rfl rfl ?_ | refine ye rfl rfl ⟨_, _, rfl, rfl, rfl⟩ ?_))
   exact FW.ret ⟨.inl rfl, zy rfl rfl rfl rfl⟩
  have h1 : 0 ≤ z := by simp at h1; omega
  rw [decide_eq_true h1, Bool.true_and] at hs
  (repeat (first | refine zc.nil ?_ | refine zL rfl rfl rfl rfl ?_ | refine zb rfl rfl ⟨_, _, rfl, rfl, rfl⟩ ?_ | refine zw rfl rfl rfl rfl rfl rfl (by simp; omega) rfl ⟨_, _, rfl, rfl, rfl⟩ ?_ | refine zt rfl rfl rfl (by simp; omega) (by first | exact zd (by omega) | rfl) rfl rfl rfl ⟨_, _, rfl, rfl, rfl⟩ ?_ | refine zm rfl rfl (by first | exact List.length_map _ | rfl | (simp; omega)) rfl ⟨_, _, rfl, rfl, rfl⟩ ?_ | refine XM rfl rfl rfl ⟨_, _, rfl, rfl, rfl⟩ ?_))
  rw [hz]
  skip
  refine FW.cond rfl (fun h2 => ?_) (fun h2 => ?_)
  ·have h2 : ¬ z < l.length := by
    have := of_decide_eq_true h2
    omega
   have hR2 : R = false := hno (by rw [hs, decide_eq_false h2]; rfl)
   subst hR2
   (repeat (first | refine FW.seq ?_ | refine FW.region ?_ | refine zc.nil ?_ | refine za rfl rfl rfl ?_))
   exact FW.ret ⟨.inl rfl, zy rfl rfl rfl rfl⟩
  have h2 : z < l.length := by
   have := of_decide_eq_false h2
   omega
  rw [decide_eq_true h2, Bool.true_and] at hs
  obtain ⟨k, rfl⟩ : ∃ k : Nat, z = k := ⟨z.toNat, by omega⟩
  have hfs := hfs (o.take n) k (by rw [List.length_take]; omega) hrt (by omega)
  rw [← hs, List.map_take] at hfs
  change zU _ _ [.list 8 (l.map OpV.fv), .list 1 (List.take (n - 0) (List.drop 0 (o.map zF))), .int .i64 (k : Nat)] _ _ at hfs
  (repeat (first | refine FW.seq ?_ | refine FW.skip ?_))
  refine FW.drawQ (by kernel_rfl) ?_
  (repeat (first | refine zM rfl rfl rfl ?_ | refine zQ rfl rfl rfl rfl rfl rfl (by first | omega | (simp; omega)) rfl rfl ?_ | refine zS rfl rfl rfl (by first | omega | (simp; omega)) (by first | exact zd (by omega) | rfl) rfl rfl rfl rfl ?_ | refine zdh rfl rfl rfl rfl (by exact LoR.none) (by exact HiR.some rfl) (by first | omega | (simp; omega)) (by first | omega | (simp; omega)) rfl rfl ?_))
  rw [hz]
  skip
  refine zhA hfs (by repeat (first | exact zh.nil | refine zh.cons (by exact yf.plain rfl rfl) ?_)) rfl rfl ?_
  (repeat (first | refine zI.nil ?_ | refine yE rfl rfl rfl ?_))
  refine ⟨by kernel_rfl, ?_⟩
  cases h3 : Zl l o n with
  | false =>
   have hR2 : R = false := hno h3
   subst hR2
   (repeat (first | refine FW.seq ?_ | refine FW.region ?_ | refine FW.condT rfl ?_ | refine zc.nil ?_ | refine za rfl rfl rfl ?_ | refine zb rfl rfl rfl ?_ | refine xE rfl rfl rfl ?_))
   exact FW.ret ⟨.inl rfl, zy rfl rfl rfl rfl⟩
  | true =>
   (repeat (first | refine FW.seq ?_ | refine FW.region ?_ | refine FW.skip ?_ | refine FW.condF rfl ?_ | refine zc.nil ?_ | refine za rfl rfl rfl ?_ | refine zb rfl rfl rfl ?_ | refine xE rfl rfl rfl ?_ | refine zu rfl rfl (by omega) rfl rfl ?_))
   exact ⟨n + 1, ⟨by omega, hst h3⟩, by omega, (FLe.conv [] (by simp) (by simp) rfl (by repeat (first | exact .nil)) (by repeat (first | exact .nil)) (by repeat (first | exact .nil | refine .cons (.plain rfl rfl rfl) ?_)))⟩
 ·obtain rfl : n = o.length := by simp at h; omega
  rw [show (List.range o.length).all (Zl l o) = true from List.all_eq_true.2 fun j hj => hyes j (List.mem_range.1 hj), Bool.true_and] at hR
  subst hR
  (repeat (first | refine FW.seq ?_ | refine FW.region ?_ | refine FW.exit ?_ | refine zb rfl rfl rfl ?_ | refine zm rfl rfl (by exact List.length_map _) rfl rfl ?_))
  refine zH hcs (by repeat (first | exact zh.nil | refine zh.cons (by exact yf.plain rfl rfl) ?_)) rfl rfl ?_
  (repeat (first | refine zc.nil ?_ | refine za rfl rfl rfl ?_ | refine yz rfl rfl rfl rfl ?_))
  refine FW.ret ⟨.inl rfl, zy rfl rfl ?_ rfl⟩
  exact congrArg FV.bool (decide_eq_decide.2 (by omega))
end Go.Proofs.Ytbeebjdnapkhhaa
