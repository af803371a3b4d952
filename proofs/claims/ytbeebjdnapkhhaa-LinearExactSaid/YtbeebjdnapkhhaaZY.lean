/-
  Some texts as one: FmRf5, FmRf6.
-/
import Derived.Test.YtbeebjdnapkhhaaZT
import Derived.Test.YtbeebjdnapkhhaaZFmLinz
import Derived.Test.YtbeebjdnapkhhaaZS
/-
 The reference of layer 21 at plain values: count, fits, Exists, IsOrder.
-/
namespace Go.Proofs.Ytbeebjdnapkhhaa
set_option linter.unusedVariables false
open Go.RowKit

set_option maxHeartbeats 4000000 in
theorem UE (l : List OpV) (hl : l.length ≤ 1000000) : zZ Try.prog 42 [.list 8 (l.map OpV.fv)] .fr (.int .i64 ((yZ l).length : Nat)) := by
 have his := fun i hi => Xy l i hl hi
 have hfin : yZ l = zeB l l.length := rfl
 rw [hfin]
 refine zZ.of_body (c := (Zf Try.prog zE zA 17)) ⟨Try.func42, rfl, Try.ntmps42, by kernel_rfl⟩ (by simp [FV.hand]) (by exact Nat.le_of_ble_eq_true rfl) rfl ?_
 change FW _ _ _ ⟨[(0, .list 8 (l.map OpV.fv))], []⟩
 (repeat (first | refine FW.seq ?_ | refine FW.region ?_ | refine FW.block ?_ | refine zc.nil ?_ | refine za rfl rfl rfl ?_))
 refine FW.loop (fun k : Nat => ⟨[(0, .list 8 (l.map OpV.fv)), (3, .int .i64 ((zeB l k).length : Nat)), (4, .int .i64 k)], []⟩) (fun k => k ≤ l.length) (fun k => l.length - k) 0 (Nat.zero_le _) ?_ ?_
 ·exact (FLe.conv [] (by simp) (by simp) rfl (by repeat (first | exact .nil)) (by repeat (first | exact .nil)) (by repeat (first | exact .nil | refine .cons (.plain rfl rfl rfl) ?_)))
 intro k hk
 have hs := zcJ l k
 have hle := zeC l k
 (repeat (first | refine FW.seq ?_ | refine FW.region ?_ | refine zc.nil ?_ | refine zb rfl rfl rfl ?_ | refine zq rfl rfl (by exact List.length_map _) rfl rfl ?_ | refine zJ rfl rfl rfl rfl ?_))
 refine FW.cond rfl (fun h => ?_) (fun h => ?_)
 ·have hlt : k < l.length := by simpa using h
  have his := his k hlt
  generalize zeB l k = I at hs hle ⊢
  (repeat (first | refine FW.seq ?_ | refine FW.region ?_ | refine FW.block ?_ | refine FW.skip ?_ | refine zb rfl rfl rfl ?_))
  refine zK his (by repeat (first | exact zh.nil | refine zh.cons (by exact ym.plain rfl rfl) ?_)) rfl rfl ?_
  (repeat (first | refine zc.nil ?_))
  refine FW.cond rfl (fun h => ?_) (fun h => ?_)
  ·rw [if_pos h] at hs
   (repeat (first | refine FW.region ?_ | refine zc.nil ?_ | refine za rfl rfl rfl ?_ | refine zb rfl rfl rfl ?_ | refine zm rfl rfl (by omega) rfl rfl ?_))
   refine ⟨k + 1, by omega, by omega, ?_⟩
   rw [hs, List.length_append]
   exact (FLe.conv [] (by simp) (by simp) rfl (by repeat (first | exact .nil)) (by repeat (first | exact .nil)) (by repeat (first | exact .nil | refine .cons (.plain rfl rfl rfl) ?_)))
  ·rw [if_neg (by rw [h]; decide), List.append_nil] at hs
   (repeat (first | refine FW.region ?_ | refine FW.skip ?_ | refine zc.nil ?_ | refine za rfl rfl rfl ?_ | refine zb rfl rfl rfl ?_ | refine zm rfl rfl (by omega) rfl rfl ?_))
   refine ⟨k + 1, by omega, by omega, ?_⟩
   rw [hs]
   exact (FLe.conv [] (by simp) (by simp) rfl (by repeat (first | exact .nil)) (by repeat (first | exact .nil)) (by repeat (first | exact .nil | refine .cons (.plain rfl rfl rfl) ?_)))
 ·obtain rfl : k = l.length := by simp at h; omega
  (repeat (first | refine FW.seq ?_ | refine FW.region ?_ | refine FW.exit ?_ | refine zc.nil ?_ | refine za rfl rfl rfl ?_ | refine zb rfl rfl rfl ?_))
  exact FW.ret ⟨.inl rfl, zD rfl rfl rfl rfl⟩
set_option maxHeartbeats 8000000 in
theorem zfG (l : List OpV) (o : List Int) (i : Nat) (hl : l.length ≤ 1000000) (hol : o.length ≤ 1000000) (hr : ∀ x ∈ o, 0 ≤ x ∧ x < l.length) (hi : i < l.length) : zZ Try.prog 43 [.list 8 (l.map OpV.fv), .list 1 (o.map zH), .int .i64 i] .fr (.bool (zal l o (i : Int))) := by
 have his := Xy l i hl hi
 have hhs := zis o i (by omega)
 have hbs := fun k hk => zc1 l i k hi hk
 have hR : zal l o (i : Int) = (zO l i && (!zir o (i : Int) && (!(o.any fun k => bef l i k.toNat) && (decide ((nth l i).k = 1) || decide (zgb l (nth l i).key o = (nth l i).res))))) := rfl
 obtain ⟨R, hRe⟩ : ∃ R, zal l o (i : Int) = R := ⟨_, rfl⟩
 obtain ⟨p, hp⟩ : ∃ p, nth l i = p := ⟨_, rfl⟩
 rw [hRe, hp] at hR
 rw [hRe]
 refine zZ.of_body (c := (Zf Try.prog zE zA 72)) ⟨Try.func43, rfl, Try.ntmps43, by kernel_rfl⟩ (by simp [FV.hand]) (by exact Nat.le_of_ble_eq_true rfl) rfl ?_
 change FW _ _ _ ⟨[(0, .list 8 (l.map OpV.fv)), (1, .list 1 (o.map zH)), (2, .int .i64 i)], []⟩
 (repeat (first | refine FW.seq ?_ | refine FW.region ?_ | refine zc.nil ?_ | refine za rfl rfl rfl ?_ | refine zb rfl rfl rfl ?_))
 refine zK his (by repeat (first | exact zh.nil | refine zh.cons (by exact ym.plain rfl rfl) ?_)) rfl rfl ?_
 cases h1 : zO l i with
 | false =>
  rw [h1, Bool.false_and] at hR
  subst hR
  (repeat (first | refine FW.seq ?_ | refine FW.region ?_ | refine FW.condT rfl ?_ | refine zc.nil ?_ | refine za rfl rfl rfl ?_ | refine zb rfl rfl rfl ?_ | refine Zb rfl rfl rfl ?_ | refine zN rfl rfl rfl rfl ?_ | refine yt rfl rfl ⟨_, _, rfl, rfl, rfl⟩ ?_))
  exact FW.ret ⟨.inl rfl, zD rfl rfl rfl rfl⟩
 | true =>
 rw [h1, Bool.true_and] at hR
 (repeat (first | refine zb rfl rfl rfl ?_ | refine Zb rfl rfl rfl ?_ | refine zb rfl rfl ⟨_, _, rfl, rfl, rfl⟩ ?_))
 refine zK hhs (by repeat (first | exact zh.nil | refine zh.cons (by exact ym.plain rfl rfl) ?_)) rfl ⟨_, _, rfl, rfl, rfl⟩ ?_
 cases h2 : zir o (i : Int) with
 | true =>
  rw [h2, Bool.not_true, Bool.false_and] at hR
  subst hR
  (repeat (first | refine FW.seq ?_ | refine FW.region ?_ | refine FW.condT rfl ?_ | refine zc.nil ?_ | refine za rfl rfl rfl ?_ | refine zM rfl rfl rfl rfl ?_))
  exact FW.ret ⟨.inl rfl, zD rfl rfl rfl rfl⟩
 | false =>
 rw [h2, Bool.not_false, Bool.true_and] at hR
 (repeat (first | refine FW.seq ?_ | refine FW.region ?_ | refine FW.block ?_ | refine FW.skip ?_ | refine FW.condF rfl ?_ | refine zc.nil ?_ | refine za rfl rfl rfl ?_ | refine zM rfl rfl rfl rfl ?_))
 refine FW.loop (fun n : Nat => ⟨[(0, .list 8 (l.map OpV.fv)), (1, .list 1 (o.map zH)), (2, .int .i64 i), (7, .int .i64 (zgb l p.key (o.take n))), (8, .int .i64 n)], []⟩) (fun n => n ≤ o.length ∧ ∀ j, j < n → bef l i (nth o j).toNat = false) (fun n => o.length - n) 0 ⟨Nat.zero_le _, fun j hj => by omega⟩ ?_ ?_
 ·show FLe _ ⟨[(0, .list 8 (l.map OpV.fv)), (1, .list 1 (o.map zH)), (2, .int .i64 i), (7, .int .i64 0), (8, .int .i64 0)], []⟩
  exact (FLe.conv [] (by simp) (by simp) rfl (by repeat (first | exact .nil)) (by repeat (first | exact .nil)) (by repeat (first | exact .nil | refine .cons (.plain rfl rfl rfl) ?_)))
 rintro n ⟨hn, hno⟩
 (repeat (first | refine FW.seq ?_ | refine FW.region ?_ | refine zc.nil ?_ | refine zb rfl rfl rfl ?_ | refine zq rfl rfl (by exact List.length_map _) rfl rfl ?_ | refine zJ rfl rfl rfl rfl ?_))
 refine FW.cond rfl (fun h => ?_) (fun h => ?_)
 ·have hlt : n < o.length := by simpa using h
  clear h
  have hx := hr _ (zn hlt)
  have hsn := zdl l p.key (o.take n) (nth o n)
  rw [← xE hlt] at hsn
  obtain ⟨k, hk⟩ : ∃ k : Nat, nth o n = k := ⟨(nth o n).toNat, by omega⟩
  have hkl : k < l.length := by omega
  have hbs := hbs k hkl
  rw [hk] at hsn
  unfold zf7 at hsn
  rw [Int.toNat_natCast] at hsn
  obtain ⟨v, hv⟩ : ∃ v, zgb l p.key (o.take n) = v := ⟨_, rfl⟩
  rw [hv] at hsn ⊢
  have hst : bef l i k = false → ∀ j, j < n + 1 → bef l i (nth o j).toNat = false := fun hb j hj => by
   by_cases e : j = n
   ·rw [e, hk, Int.toNat_natCast]; exact hb
   ·exact hno j (by omega)
  (repeat (first | refine FW.seq ?_ | refine FW.region ?_ | refine FW.block ?_ | refine FW.skip ?_ | refine zc.nil ?_ | refine za rfl rfl rfl ?_ | refine zb rfl rfl rfl ?_ | refine zx rfl rfl rfl rfl rfl rfl (by simp; omega) rfl rfl ?_ | refine zB rfl rfl rfl (by simp; omega) (by first | exact zd (by omega) | rfl) rfl rfl rfl rfl ?_))
  rw [hk]
  skip
  refine zK hbs (by repeat (first | exact zh.nil | refine zh.cons (by exact ym.plain rfl rfl) ?_)) rfl rfl ?_
  cases hb : bef l i k with
  | true =>
   have hR2 : R = false := by
    rw [hR, show (o.any fun k => bef l i k.toNat) = true from List.any_eq_true.2 ⟨_, zn hlt, by rw [hk, Int.toNat_natCast]; exact hb⟩]; rfl
   subst hR2
   (repeat (first | refine FW.seq ?_ | refine FW.region ?_ | refine FW.condT rfl ?_ | refine zc.nil ?_ | refine za rfl rfl rfl ?_))
   exact FW.ret ⟨.inl rfl, zD rfl rfl rfl rfl⟩
  | false =>
  have hst := hst hb
  obtain ⟨q, hq⟩ : ∃ q, nth l k = q := ⟨_, rfl⟩
  rw [hq] at hsn
  (repeat (first | refine FW.seq ?_ | refine FW.skip ?_ | refine FW.condF rfl ?_ | refine zc.nil ?_))
  refine FW.drawQ (by kernel_rfl) ?_
  (repeat (first | refine zI rfl rfl rfl ?_ | refine zS rfl rfl rfl rfl rfl rfl (by simp; omega) rfl rfl ?_ | refine zU rfl rfl rfl (by simp; omega) (by first | exact zd (by omega) | rfl) rfl rfl rfl rfl ?_ | refine yq rfl rfl rfl rfl rfl rfl rfl ?_ | refine YX rfl rfl rfl rfl ?_))
  rw [hq, hp]
  refine Yx (fun h3 => ?_) (fun h3 => ?_)
  ·rw [h3, Bool.true_and] at hsn
   (repeat (first | refine zG.nil ?_ | refine xn rfl rfl rfl rfl ?_ | refine zI rfl rfl ⟨_, _, rfl, rfl, rfl⟩ ?_ | refine zS rfl rfl rfl rfl rfl rfl (by simp; omega) rfl ⟨_, _, rfl, rfl, rfl⟩ ?_ | refine yq rfl rfl rfl rfl rfl rfl ⟨_, _, rfl, rfl, rfl⟩ ?_ | refine zU rfl rfl rfl (by simp; omega) (by first | exact zd (by omega) | rfl) rfl rfl rfl ⟨_, _, rfl, rfl, rfl⟩ ?_ | refine YX rfl rfl rfl ⟨_, _, rfl, rfl, rfl⟩ ?_))
   rw [hq]
   skip
   refine ⟨by kernel_rfl, ?_⟩
   refine FW.cond rfl (fun h4 => ?_) (fun h4 => ?_)
   ·rw [if_pos (by exact h4)] at hsn
    (repeat (first | refine FW.region ?_ | refine zc.nil ?_ | refine za rfl rfl rfl ?_ | refine zb rfl rfl rfl ?_ | refine zx rfl rfl rfl rfl rfl rfl (by simp; omega) rfl rfl ?_ | refine zB rfl rfl rfl (by simp; omega) (by first | exact zd (by omega) | rfl) rfl rfl rfl rfl ?_ | refine zW rfl rfl rfl rfl rfl rfl rfl ?_ | refine zm rfl rfl (by omega) rfl rfl ?_))
    rw [hq]
    skip
    refine ⟨n + 1, ⟨by omega, hst⟩, by omega, ?_⟩
    rw [hsn]
    exact (FLe.conv [] (by simp) (by simp) rfl (by repeat (first | exact .nil)) (by repeat (first | exact .nil)) (by repeat (first | exact .nil | refine .cons (.plain rfl rfl rfl) ?_)))
   ·rw [if_neg (by rw [show decide (q.k = 1) = false from h4]; decide)] at hsn
    (repeat (first | refine FW.region ?_ | refine FW.skip ?_ | refine zc.nil ?_ | refine za rfl rfl rfl ?_ | refine zb rfl rfl rfl ?_ | refine zm rfl rfl (by omega) rfl rfl ?_))
    refine ⟨n + 1, ⟨by omega, hst⟩, by omega, ?_⟩
    rw [hsn]
    exact (FLe.conv [] (by simp) (by simp) rfl (by repeat (first | exact .nil)) (by repeat (first | exact .nil)) (by repeat (first | exact .nil | refine .cons (.plain rfl rfl rfl) ?_)))
  ·rw [h3, Bool.false_and, if_neg (by decide)] at hsn
   (repeat (first | refine zG.nil ?_ | refine xQ rfl rfl rfl rfl ?_ | refine ZP rfl rfl ⟨_, _, rfl, rfl, rfl⟩ ?_))
   refine ⟨by kernel_rfl, ?_⟩
   (repeat (first | refine FW.region ?_ | refine FW.skip ?_ | refine FW.condF rfl ?_ | refine zc.nil ?_ | refine za rfl rfl rfl ?_ | refine zb rfl rfl rfl ?_ | refine zm rfl rfl (by omega) rfl rfl ?_))
   refine ⟨n + 1, ⟨by omega, hst⟩, by omega, ?_⟩
   rw [hsn]
   exact (FLe.conv [] (by simp) (by simp) rfl (by repeat (first | exact .nil)) (by repeat (first | exact .nil)) (by repeat (first | exact .nil | refine .cons (.plain rfl rfl rfl) ?_)))
 ·obtain rfl : n = o.length := by simp at h; omega
  rw [List.take_length]
  rw [show (o.any fun k => bef l i k.toNat) = false by
   rw [List.any_eq_false]
   intro x hx
   obtain ⟨j, hj, e⟩ := zbE hx
   rw [← e, hno j hj]; decide, Bool.not_false, Bool.true_and] at hR
  generalize zgb l p.key o = v at hR ⊢
  (repeat (first | refine FW.seq ?_ | refine FW.region ?_ | refine FW.exit ?_ | refine zb rfl rfl rfl ?_ | refine zx rfl rfl rfl rfl rfl rfl (by simp; omega) rfl rfl ?_ | refine zB rfl rfl rfl (by simp; omega) (by first | exact zd (by omega) | rfl) rfl rfl rfl rfl ?_ | refine zW rfl rfl rfl rfl rfl rfl rfl ?_ | refine yu rfl rfl rfl rfl ?_))
  rw [hp]
  refine yG (fun h5 => ?_) (fun h5 => ?_)
  ·rw [h5, Bool.true_or] at hR
   subst hR
   (repeat (first | refine zc.nil ?_ | refine za rfl rfl rfl ?_ | refine zN rfl rfl rfl rfl ?_ | refine yt rfl rfl ⟨_, _, rfl, rfl, rfl⟩ ?_))
   exact FW.ret ⟨.inl rfl, zD rfl rfl rfl rfl⟩
  ·rw [h5, Bool.false_or] at hR
   subst hR
   (repeat (first | refine zc.nil ?_ | refine za rfl rfl rfl ?_ | refine zM rfl rfl rfl rfl ?_ | refine zb rfl rfl ⟨_, _, rfl, rfl, rfl⟩ ?_ | refine zx rfl rfl rfl rfl rfl rfl (by simp; omega) rfl ⟨_, _, rfl, rfl, rfl⟩ ?_ | refine zW rfl rfl rfl rfl rfl rfl ⟨_, _, rfl, rfl, rfl⟩ ?_ | refine zB rfl rfl rfl (by simp; omega) (by first | exact zd (by omega) | rfl) rfl rfl rfl ⟨_, _, rfl, rfl, rfl⟩ ?_ | refine yu rfl rfl rfl ⟨_, _, rfl, rfl, rfl⟩ ?_))
   rw [hp]
   skip
   exact FW.ret ⟨.inl rfl, zD rfl rfl rfl rfl⟩
end Go.Proofs.Ytbeebjdnapkhhaa
/-
 The reference of layer 21 at plain values: Exists.
-/
namespace Go.Proofs.Ytbeebjdnapkhhaa
set_option linter.unusedVariables false
open Go.RowKit

def zfW (l : List OpV) (k : Nat) (o : List Int) (i : Nat) : Bool := zal l o (i : Int) && zhW l k (o ++ [(i : Int)])
set_option maxHeartbeats 8000000 in
theorem WX (l : List OpV) (hl : l.length ≤ 1000) : ∀ (k : Nat) (o : List Int), o.length + k = (yZ l).length → (∀ x ∈ o, 0 ≤ x ∧ x < l.length) → zZ Try.prog 22 [.list 8 (l.map OpV.fv), .list 1 (o.map zH)] .fr (.bool (zhW l k o))
 | 0, o, hk, hr => by
  have hcs := UE l (by omega)
  have hil := zdS l
  rw [show zhW l 0 o = true from rfl]
  generalize (yZ l).length = N at hk hcs hil
  refine zZ.of_body (c := (Zf Try.prog zE zA 36)) ⟨Try.func22, rfl, Try.ntmps22, by kernel_rfl⟩ (by simp [FV.hand]) (by exact Nat.le_of_ble_eq_true rfl) rfl ?_
  change FW _ _ _ ⟨[(0, .list 8 (l.map OpV.fv)), (1, .list 1 (o.map zH))], []⟩
  (repeat (first | refine FW.seq ?_ | refine FW.region ?_ | refine zc.nil ?_ | refine za rfl rfl rfl ?_ | refine zb rfl rfl rfl ?_ | refine zq rfl rfl (by exact List.length_map _) rfl rfl ?_))
  refine zK hcs (by repeat (first | exact zh.nil | refine zh.cons (by exact ym.plain rfl rfl) ?_)) rfl rfl ?_
  (repeat (first | refine zc.nil ?_ | refine yu rfl rfl rfl rfl ?_))
  refine FW.condT (congrArg FV.bool (decide_eq_true (by omega))) ?_
  (repeat (first | refine FW.seq ?_ | refine FW.region ?_ | refine zc.nil ?_ | refine za rfl rfl rfl ?_))
  exact FW.ret ⟨.inl rfl, zD rfl rfl rfl rfl⟩
 | k + 1, o, hk, hr => by
  have hcs := UE l (by omega)
  have hil := zdS l
  have ih := fun i (hi : i < l.length) => WX l hl k (o ++ [(i : Int)]) (by simp; omega) (fun x hx => by
   rcases List.mem_append.1 hx with h | h
   ·exact hr x h
   ·obtain rfl := List.mem_singleton.1 h; omega)
  have hfs := fun i hi => zfG l o i (by omega) (by omega) hr hi
  have hex : zhW l (k + 1) o = (List.range l.length).any (zfW l k o) := rfl
  rw [hex]
  obtain ⟨R, hR⟩ : ∃ R, (List.range l.length).any (zfW l k o) = R := ⟨_, rfl⟩
  rw [hR]
  have hno : o.length < (yZ l).length := by omega
  generalize (yZ l).length = N at hno hcs hil
  refine zZ.of_body (c := (Zf Try.prog zE zA 36)) ⟨Try.func22, rfl, Try.ntmps22, by kernel_rfl⟩ (by simp [FV.hand]) (by exact Nat.le_of_ble_eq_true rfl) rfl ?_
  change FW _ _ _ ⟨[(0, .list 8 (l.map OpV.fv)), (1, .list 1 (o.map zH))], []⟩
  (repeat (first | refine FW.seq ?_ | refine FW.region ?_ | refine zc.nil ?_ | refine za rfl rfl rfl ?_ | refine zb rfl rfl rfl ?_ | refine zq rfl rfl (by exact List.length_map _) rfl rfl ?_))
  refine zK hcs (by repeat (first | exact zh.nil | refine zh.cons (by exact ym.plain rfl rfl) ?_)) rfl rfl ?_
  (repeat (first | refine zc.nil ?_ | refine yu rfl rfl rfl rfl ?_))
  refine FW.condF (congrArg FV.bool (decide_eq_false (by omega))) ?_
  (repeat (first | refine FW.seq ?_ | refine FW.region ?_ | refine FW.block ?_ | refine FW.skip ?_ | refine zc.nil ?_ | refine za rfl rfl rfl ?_))
  refine FW.loop (fun i : Nat => ⟨[(0, .list 8 (l.map OpV.fv)), (1, .list 1 (o.map zH)), (5, .int .i64 i)], []⟩) (fun i => i ≤ l.length ∧ (List.range i).any (zfW l k o) = false) (fun i => l.length - i) 0 ⟨Nat.zero_le _, rfl⟩ ?_ ?_
  ·exact (FLe.conv [] (by simp) (by simp) rfl (by repeat (first | exact .nil)) (by repeat (first | exact .nil)) (by repeat (first | exact .nil | refine .cons (.plain rfl rfl rfl) ?_)))
  rintro i ⟨hi, hany⟩
  have hsu : (List.range (i + 1)).any (zfW l k o) = zfW l k o i := by rw [List.range_succ, List.any_append, hany]; simp
  have hst : zfW l k o i = (zal l o (i : Int) && zhW l k (o ++ [(i : Int)])) := rfl
  (repeat (first | refine FW.seq ?_ | refine FW.region ?_ | refine zc.nil ?_ | refine zb rfl rfl rfl ?_ | refine zq rfl rfl (by exact List.length_map _) rfl rfl ?_ | refine zJ rfl rfl rfl rfl ?_))
  refine FW.cond rfl (fun hc => ?_) (fun hc => ?_)
  ·have hlt : i < l.length := by simpa using hc
   have ih := ih i hlt
   have hfs := hfs i hlt
   (repeat (first | refine FW.seq ?_ | refine FW.region ?_ | refine FW.block ?_ | refine FW.skip ?_ | refine zb rfl rfl rfl ?_))
   refine zK hfs (by repeat (first | exact zh.nil | refine zh.cons (by exact ym.plain rfl rfl) ?_)) rfl rfl ?_
   cases hB : zal l o (i : Int) with
   | false =>
    rw [hB, Bool.false_and] at hst
    rw [hst] at hsu
    (repeat (first | refine FW.seq ?_ | refine FW.region ?_ | refine FW.exit ?_ | refine FW.condT rfl ?_ | refine zc.nil ?_ | refine za rfl rfl rfl ?_ | refine zb rfl rfl rfl ?_ | refine Zb rfl rfl rfl ?_ | refine zm rfl rfl (by omega) rfl rfl ?_))
    exact ⟨i + 1, ⟨by omega, hsu⟩, by omega, (FLe.conv [] (by simp) (by simp) rfl (by repeat (first | exact .nil)) (by repeat (first | exact .nil)) (by repeat (first | exact .nil | refine .cons (.plain rfl rfl rfl) ?_)))⟩
   | true =>
   rw [hB, Bool.true_and] at hst
   rw [List.map_append] at ih
   (repeat (first | refine FW.seq ?_ | refine FW.region ?_ | refine FW.skip ?_ | refine FW.condF rfl ?_ | refine zc.nil ?_ | refine za rfl rfl rfl ?_ | refine zb rfl rfl rfl ?_ | refine Zb rfl rfl rfl ?_ | refine zbP rfl rfl rfl rfl (by decide) (by first | exact Xu.own rfl rfl (by decide) (by first | exact List.length_map _ | exact (List.length_map _).symm | exact List.length_replicate | rfl | (simp; done) | omega | (simp; omega)) | exact Xu.list rfl) (by first | (simp; omega) | (simp; done)) (by first | (simp; omega) | (simp; done)) rfl rfl rfl ?_ | refine xD rfl rfl (by first | rfl | (simp; done) | (simp; omega)) rfl rfl rfl (by decide) (by first | exact Xu.own rfl rfl (by decide) (by first | exact List.length_map _ | exact (List.length_map _).symm | exact List.length_replicate | rfl | (simp; done) | omega | (simp; omega)) | exact Xu.list rfl) (by first | (simp; omega) | (simp; done)) (by first | (simp; omega) | (simp; done)) rfl rfl rfl ?_ | refine yJ rfl rfl rfl rfl rfl rfl rfl rfl ?_))
   refine zK ih (by repeat (first | exact zh.nil | refine zh.cons (by first | exact ym.plain rfl rfl | exact ym.own rfl rfl (by decide) (by first | exact (fun _ => rfl) | (intro h; cases h)) (by first | rfl | (simp; done) | (congr 1; omega) | (simp; omega) | (simp [List.take_of_length_le]; done) | (refine congrArg (FV.int .i64) ?_; omega))) ?_)) rfl rfl ?_
   (repeat (first | refine FW.seq ?_ | refine FW.region ?_ | refine zc.nil ?_ | refine za rfl rfl rfl ?_ | refine zb rfl rfl rfl ?_))
   refine FW.cond rfl (fun h3 => ?_) (fun h3 => ?_)
   ·have hR2 : R = true := by
     rw [← hR]
     exact List.any_eq_true.2 ⟨i, List.mem_range.2 hlt, by rw [hst]; exact h3⟩
    subst hR2
    (repeat (first | refine FW.seq ?_ | refine FW.region ?_ | refine zc.nil ?_ | refine za rfl rfl rfl ?_))
    exact FW.ret ⟨.inl rfl, zD rfl rfl rfl rfl⟩
   ·rw [hst, show zhW l k (o ++ [(i : Int)]) = false from h3] at hsu
    (repeat (first | refine FW.region ?_ | refine FW.skip ?_ | refine zc.nil ?_ | refine za rfl rfl rfl ?_ | refine zb rfl rfl rfl ?_ | refine zm rfl rfl (by omega) rfl rfl ?_))
    exact ⟨i + 1, ⟨by omega, hsu⟩, by omega, (FLe.conv [] (by simp) (by simp) rfl (by repeat (first | exact .nil)) (by repeat (first | exact .nil)) (by repeat (first | exact .nil | refine .cons (.plain rfl rfl rfl) ?_)))⟩
  ·obtain rfl : i = l.length := by simp at hc; omega
   rw [hany] at hR
   subst hR
   (repeat (first | refine FW.seq ?_ | refine FW.region ?_ | refine FW.exit ?_ | refine zc.nil ?_ | refine za rfl rfl rfl ?_))
   exact FW.ret ⟨.inl rfl, zD rfl rfl rfl rfl⟩
end Go.Proofs.Ytbeebjdnapkhhaa
