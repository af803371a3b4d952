/-
  simprooflaw21.LinearIsOrder answers true for every input (walked on plain values).
-/
import Derived.Test.YtbeebjdnapkhhaaZLawLinearOrders
namespace Go.Proofs.Ytbeebjdnapkhhaa
set_option linter.unusedVariables false
open Go.RowKit

theorem zjo (l : List Int) (m : Nat) : List.take ((min (l.length : Int) (m : Int)).toNat - 0) (List.drop 0 (l.map zF)) = (l.take m).map zF := by
 rw [List.drop_zero, ← List.map_take, Nat.sub_zero]
 rcases Nat.le_total l.length m with h6 | h6
 ·rw [List.take_of_length_le h6, List.take_of_length_le (by omega)]
 ·rw [show (min (l.length : Int) (m : Int)).toNat = m by omega]
theorem WT (l : List Int) (m : Nat) (hl : l.length ≤ 9223372036854775807) (hm : m ≤ 1000000) : zU Try.prog 33 [.list 1 (l.map zF), .int .i64 m] (.ow 3 1) (.list 1 ((l.take m).map zF)) := by
 have ht := zjo l m
 have htl : ((l.take m).map zF).length ≤ m := by rw [List.length_map, List.length_take]; omega
 refine zU.of_body (c := (xN Try.prog zE zA 14)) ⟨Try.func33, rfl, Try.ntmps33, by kernel_rfl⟩ (by simp [FV.hand]) (by exact Nat.le_of_ble_eq_true rfl) rfl ?_
 change FW _ _ _ ⟨[(0, .list 1 (l.map zF)), (1, .int .i64 m)], []⟩
 (repeat (first | refine FW.seq ?_ | refine FW.region ?_ | refine zc.nil ?_ | refine za rfl rfl rfl ?_ | refine zb rfl rfl rfl ?_ | refine zm rfl rfl (by first | exact List.length_map _ | rfl | omega | (simp; omega)) rfl rfl ?_ | refine zdp rfl rfl rfl rfl ?_ | refine UY rfl rfl rfl rfl (by exact LoR.none) (by exact HiR.lit rfl (by first | rfl | exact (Int.toNat_of_nonneg (by omega)).symm)) (by first | omega | (simp; omega)) (by first | omega | (simp; omega)) rfl rfl ?_))
 rw [ht]
 have hzf := zeT.flatsM (l.take m)
 change ∀ e ∈ (l.take m).map zF, _ at hzf
 generalize (l.take m).map zF = Z at htl hzf ⊢
 (repeat (first | refine zc.nil ?_ | refine za rfl rfl rfl ?_ | refine zb2 rfl rfl rfl rfl (by decide) (by exact Wa.list rfl) (by omega) (by omega) rfl rfl rfl ?_))
 exact FW.ret ⟨.inl rfl, xO rfl rfl rfl rfl (by decide) rfl hzf⟩
theorem zhg {h : List OpV} {o o2 : List Int} (h1 : zfh h o) (h2 : o2.length ≠ o.length) : ZM h o2 = false := by
 rw [Bool.eq_false_iff]
 intro h3
 exact h2 (by rw [(zcX.1 h3).len, h1.len])
set_option maxHeartbeats 8000000 in
theorem Wv (l : List Int) (a0 a1 a2 : Int) (raw : List Int) (i k : Int) (hl : ∀ x ∈ l, I64 x) (hlen : l.length ≤ 9223372036854775807) (i0 : I64 a0) (i1 : I64 a1) (i2 : I64 a2) (hrw : ∀ x ∈ raw, I64 x) (hrl : raw.length ≤ 9223372036854775807) (hi : I64 i) (hk : I64 k) : zU Try.prog 12 [.list 1 (l.map zF), .agg [.int .i64 a0, .int .i64 a1, .int .i64 a2], .list 1 (raw.map zF), .int .i64 i, .int .i64 k] .fr (.bool true) := by
 obtain ⟨z, hz⟩ : ∃ z : Int, (-1 : Int) = z := ⟨_, rfl⟩
 have hB := zfn l a0 a1 a2 z 0 0 hl hlen i0 i1 i2 (by rw [← hz]; exact ⟨by decide, by decide⟩) ⟨by decide, by decide⟩ ⟨by decide, by decide⟩
 have hf := zfm l a0 a1 a2 z 0 0
 obtain ⟨h, hh⟩ : ∃ h, zdK l a0 a1 a2 z 0 0 = h := ⟨_, rfl⟩
 rw [hh] at hf hB
 have hlen60 := hf.len
 have hin := hf.inn
 have hC := YB h (by omega) hin
 have hE := zc1 hf
 have hD := zaM h (by omega)
 refine zU.of_body (c := (xN Try.prog zE zA 108)) ⟨Try.func12, rfl, Try.ntmps12, by kernel_rfl⟩ (by simp [FV.hand]) (by exact Nat.le_of_ble_eq_true rfl) rfl ?_
 change FW _ _ _ ⟨[(0, .list 1 (l.map zF)), (1, .agg [.int .i64 a0, .int .i64 a1, .int .i64 a2]), (2, .list 1 (raw.map zF)), (3, .int .i64 i), (4, .int .i64 k)], []⟩
 (repeat (first | refine FW.seq ?_ | refine FW.region ?_ | refine zc.nil ?_ | refine Va rfl rfl rfl rfl rfl rfl rfl ?_ | refine za rfl rfl rfl ?_ | refine zb rfl rfl rfl ?_ | refine zW rfl rfl rfl (by decide) rfl rfl (by simp; done) rfl rfl rfl rfl ?_))
 refine zf6 rfl rfl rfl rfl rfl rfl rfl rfl rfl rfl rfl ?_
 rw [show (FV.int IntKind.i64 (-1)) = FV.int .i64 z by rw [← hz]]
 refine yc hB (by repeat (first | exact zh.nil | refine zh.cons (by exact yf.plain rfl rfl) ?_)) (List.length_map _) rfl rfl rfl ?_
 (repeat (first | refine FW.seq ?_ | refine FW.region ?_ | refine zc.nil ?_ | refine za rfl rfl rfl ?_ | refine zb rfl rfl rfl ?_))
 refine zH hD (by repeat (first | exact zh.nil | refine zh.cons (by exact yf.own rfl rfl (by decide) (by first | exact (fun _ => rfl) | (intro h; cases h)) (by first | rfl | (simp; done) | (congr 1; omega) | (simp; omega) | (simp [List.take_of_length_le]; done) | (refine congrArg (FV.int .i64) ?_; omega))) ?_)) rfl rfl ?_
 by_cases D : yj h
 ·rw [decide_eq_true D]
  rw [if_pos D] at hE
  rw [hE, ziR hf D] at hC
  have hX := WT raw 8 hrl (by decide)
  obtain ⟨X, hXe⟩ : ∃ X, raw.take 8 = X := ⟨_, rfl⟩
  have hXl : X.length ≤ 8 := by rw [← hXe, List.length_take]; omega
  rw [hXe] at hX
  have hOX := WA h X (by omega) (by omega)
  have hPX := ZE h X (by omega) (by omega) hin D
  generalize ZM h X = BX at hOX hPX
  have hBX : decide (BX ≠ BX) = false := decide_eq_false fun h => h rfl
  (repeat (first | refine FW.seq ?_ | refine FW.region ?_ | refine FW.skip ?_ | refine FW.condF rfl ?_ | refine zc.nil ?_ | refine zb rfl rfl rfl ?_ | refine xE rfl rfl rfl ?_))
  refine yc hX (by repeat (first | exact zh.nil | refine zh.cons (by exact yf.plain rfl rfl) ?_)) (List.length_map _) rfl rfl rfl ?_
  (repeat (first | refine FW.seq ?_ | refine FW.region ?_ | refine zc.nil ?_ | refine za rfl rfl rfl ?_ | refine zb rfl rfl rfl ?_))
  refine zc.le ?_ (FLe.share 31 rfl rfl (List.length_map _).symm)
  by_cases hc : (zfN h).cls = 0
  ·obtain ⟨L, e, o, n⟩ := ziS (zkV hf D) hc
   rw [e] at hC
   dsimp only [zkK.fv] at hC
   rw [← zir] at hC
   have hol : (xg L).length ≤ h.length := by rw [ZZ]; exact n
   generalize xg L = O at hC o hol
   refine xx hC (by repeat (first | exact zh.nil | refine zh.cons (by exact yf.plain rfl rfl) ?_)) rfl rfl ?_
   (repeat (first | refine FW.seq ?_ | refine FW.region ?_ | refine zc.nil ?_ | refine za rfl rfl rfl ?_ | refine zb rfl rfl rfl ?_ | refine zP rfl rfl rfl rfl rfl ?_ | refine yb rfl rfl rfl rfl rfl rfl rfl ?_ | refine zG rfl rfl rfl rfl rfl rfl rfl rfl rfl ?_ | refine xP rfl rfl rfl rfl ?_ | refine zb rfl rfl ⟨_, _, rfl, rfl, rfl⟩ ?_))
   refine zH hPX (by repeat (first | exact zh.nil | refine zh.cons (by exact yf.own rfl rfl (by decide) (by first | exact (fun _ => rfl) | (intro h; cases h)) (by first | rfl | (simp; done) | (congr 1; omega) | (simp; omega) | (simp [List.take_of_length_le]; done) | (refine congrArg (FV.int .i64) ?_; omega))) ?_)) rfl ⟨_, _, rfl, rfl, rfl⟩ ?_
   (repeat (first | refine zb rfl rfl ⟨_, _, rfl, rfl, rfl⟩ ?_))
   refine zH hOX (by repeat (first | exact zh.nil | refine zh.cons (by exact yf.own rfl rfl (by decide) (by first | exact (fun _ => rfl) | (intro h; cases h)) (by first | rfl | (simp; done) | (congr 1; omega) | (simp; omega) | (simp [List.take_of_length_le]; done) | (refine congrArg (FV.int .i64) ?_; omega))) ?_)) rfl ⟨_, _, rfl, rfl, rfl⟩ ?_
   (repeat (first | refine zc.nil ?_ | refine zL rfl rfl rfl rfl ?_ | refine zhQ rfl rfl rfl rfl ⟨_, _, rfl, rfl, rfl⟩ ?_))
   rw [hBX]
   (repeat (first | refine FW.seq ?_ | refine FW.region ?_ | refine FW.skip ?_ | refine FW.condF rfl ?_ | refine zc.nil ?_ | refine za rfl rfl rfl ?_ | refine zb rfl rfl rfl ?_ | refine zn rfl rfl rfl rfl rfl (by simp; done) rfl rfl rfl rfl rfl ?_ | refine xP rfl rfl rfl rfl ?_ | refine zL rfl rfl rfl rfl ?_ | refine zq rfl rfl rfl rfl rfl rfl (by decide) rfl rfl ?_ | refine zb rfl rfl ⟨_, _, rfl, rfl, rfl⟩ ?_ | refine zm rfl rfl (by first | exact List.length_map _ | rfl | (simp; done)) rfl ⟨_, _, rfl, rfl, rfl⟩ ?_ | refine yz rfl rfl rfl ⟨_, _, rfl, rfl, rfl⟩ ?_))
   refine FW.cond rfl (fun h0 => ?_) (fun h0 => ?_)
   ·(repeat (first | refine FW.seq ?_ | refine FW.region ?_))
    refine zH ZN (by repeat (first | exact zh.nil)) rfl rfl ?_
    (repeat (first | refine zc.nil ?_ | refine za rfl rfl rfl ?_))
    refine FW.ret ⟨.inl rfl, zy rfl rfl rfl rfl⟩
   have h0 : O.length ≠ 0 := by
    have := of_decide_eq_false h0
    omega
   obtain ⟨x, hx⟩ : ∃ x : Nat, zN i O.length = x := ⟨(zN i O.length).toNat, (Int.toNat_of_nonneg (yU (by omega))).symm⟩
   have hxl : x < O.length := by have := ZA (n := i) (most := O.length) (by omega); omega
   obtain ⟨y, hy⟩ : ∃ y : Nat, zN k O.length = y := ⟨(zN k O.length).toNat, (Int.toNat_of_nonneg (yU (by omega))).symm⟩
   have hyl : y < O.length := by have := ZA (n := k) (most := O.length) (by omega); omega
   have hAx := xR i O.length hi (by omega) (by omega)
   have hAy := xR k O.length hk (by omega) (by omega)
   rw [hx] at hAx
   rw [hy] at hAy
   have hI1 := WT O O.length (by omega) (by omega)
   rw [List.take_length] at hI1
   have hI2 := WT O x (by omega) (by omega)
   (repeat (first | refine FW.seq ?_ | refine FW.region ?_ | refine FW.skip ?_ | refine zb rfl rfl rfl ?_ | refine zm rfl rfl (by exact List.length_map _) rfl rfl ?_))
   refine zH hAx (by repeat (first | exact zh.nil | refine zh.cons (by exact yf.plain rfl rfl) ?_)) rfl rfl ?_
   (repeat (first | refine FW.seq ?_ | refine FW.region ?_ | refine zc.nil ?_ | refine za rfl rfl rfl ?_ | refine zb rfl rfl rfl ?_ | refine zm rfl rfl (by exact List.length_map _) rfl rfl ?_))
   refine zH hAy (by repeat (first | exact zh.nil | refine zh.cons (by exact yf.plain rfl rfl) ?_)) rfl rfl ?_
   (repeat (first | refine FW.seq ?_ | refine FW.region ?_ | refine zc.nil ?_ | refine za rfl rfl rfl ?_ | refine zb rfl rfl rfl ?_ | refine zm rfl rfl (by exact List.length_map _) rfl rfl ?_))
   refine yc hI1 (by repeat (first | exact zh.nil | refine zh.cons (by exact yf.plain rfl rfl) ?_)) (List.length_map _) rfl rfl rfl ?_
   (repeat (first | refine FW.seq ?_ | refine FW.region ?_ | refine zc.nil ?_ | refine za rfl rfl rfl ?_ | refine zb rfl rfl rfl ?_ | refine zt rfl rfl rfl (by first | omega | (simp; omega)) (by first | exact zd (by omega) | rfl) rfl rfl rfl rfl ?_ | refine zX rfl rfl rfl rfl rfl rfl (by first | omega | (simp; omega)) (by first | exact zd (by omega) | rfl) rfl rfl rfl ?_ | refine zw rfl rfl rfl rfl rfl rfl (by first | omega | (simp; omega)) rfl rfl ?_ | refine zC rfl rfl rfl rfl rfl rfl (by decide) rfl (by first | omega | (simp; omega)) rfl rfl ?_))
   rw [show (O.map zF).set x ((zF (nth O x)).set 0 (FV.int .i64 (nth O y))) = (O.set x (nth O y)).map zF by rw [List.map_set]; rfl]
   obtain ⟨S, hS⟩ : ∃ S, O.set x (nth O y) = S := ⟨_, rfl⟩
   have hSl : S.length = O.length := by rw [← hS, List.length_set]
   rw [hS]
   (repeat (first | refine FW.seq ?_ | refine zc.nil ?_ | refine zX rfl rfl rfl rfl rfl rfl (by simp; omega) (by exact zd (by omega)) rfl rfl rfl ?_))
   rw [show (S.map zF).set y ((zF (nth S y)).set 0 (FV.int .i64 (nth O x))) = (S.set y (nth O x)).map zF by rw [List.map_set]; rfl]
   obtain ⟨S2, hS2⟩ : ∃ S2, S.set y (nth O x) = S2 := ⟨_, rfl⟩
   have hSl2 : S2.length = O.length := by rw [← hS2, List.length_set]; exact hSl
   rw [hS2]
   have hOS := WA h S2 (by omega) (by omega)
   have hPS := ZE h S2 (by omega) (by omega) hin D
   generalize ZM h S2 = BS at hOS hPS
   have hFl : (O.take x ++ O.drop (x + 1)).length ≠ O.length := by rw [List.length_append, List.length_take, List.length_drop]; omega
   have hPF := ZE h (O.take x ++ O.drop (x + 1)) (by omega) (by rw [List.length_append, List.length_take, List.length_drop]; omega) hin D
   rw [zhg o hFl, show (O.take x ++ O.drop (x + 1)).map zF = (O.take x).map zF ++ List.take ((O.map zF).length - (x + 1)) (List.drop (x + 1) (O.map zF)) by
    rw [List.map_append, List.map_drop]; congr 1; exact (List.take_of_length_le (by rw [List.length_drop]; exact Nat.le_refl _)).symm] at hPF
   refine FW.draw ?_
   (repeat (first | refine zM rfl rfl rfl ?_))
   refine zi5 hI2 (by repeat (first | exact zh.nil | refine zh.cons (by exact yf.plain rfl rfl) ?_)) (List.length_map _) rfl rfl rfl ?_
   (repeat (first | refine zI.nil ?_ | refine yE rfl rfl rfl ?_ | refine zM rfl rfl rfl ?_ | refine zeg rfl rfl (by first | exact (List.length_map _).symm | omega | (simp; omega)) rfl rfl rfl (by decide) (by exact Wa.list rfl) (by first | omega | (simp; omega)) (by first | omega | (simp; omega)) rfl rfl rfl ?_ | refine zjK rfl rfl (by omega) rfl rfl ?_ | refine zdh rfl rfl rfl rfl (by exact LoR.some rfl) (by exact HiR.none) (by first | omega | (simp; omega)) (by first | omega | (simp; omega)) rfl rfl ?_))
   refine ⟨by kernel_rfl, ?_⟩
   (repeat (first | refine FW.seq ?_ | refine FW.region ?_ | refine zb rfl rfl rfl ?_))
   refine zH hPS (by repeat (first | exact zh.nil | refine zh.cons (by exact yf.own rfl rfl (by decide) (by first | exact (fun _ => rfl) | (intro h; cases h)) (by first | rfl | (simp; done) | (congr 1; omega) | (simp; omega) | (simp [List.take_of_length_le]; done) | (refine congrArg (FV.int .i64) ?_; omega))) ?_)) rfl rfl ?_
   (repeat (first | refine zb rfl rfl rfl ?_))
   refine zH hOS (by repeat (first | exact zh.nil | refine zh.cons (by exact yf.own rfl rfl (by decide) (by first | exact (fun _ => rfl) | (intro h; cases h)) (by first | rfl | (simp; done) | (congr 1; omega) | (simp; omega) | (simp [List.take_of_length_le]; done) | (refine congrArg (FV.int .i64) ?_; omega))) ?_)) rfl rfl ?_
   (repeat (first | refine zb rfl rfl rfl ?_ | refine zkl rfl rfl rfl rfl rfl ?_))
   rw [show decide (BS = BS) = true from decide_eq_true rfl]
   (repeat (first | refine zb rfl rfl ⟨_, _, rfl, rfl, rfl⟩ ?_))
   refine zH hPF (by repeat (first | exact zh.nil | refine zh.cons (by exact yf.own rfl rfl (by decide) (by first | exact (fun _ => rfl) | (intro h; cases h)) (by first | rfl | (simp; done) | (congr 1; omega) | (simp; omega) | (simp [List.take_of_length_le]; done) | (refine congrArg (FV.int .i64) ?_; omega))) ?_)) rfl ⟨_, _, rfl, rfl, rfl⟩ ?_
   (repeat (first | refine zb rfl rfl rfl ?_ | refine zK rfl rfl rfl rfl ?_ | refine xE rfl rfl ⟨_, _, rfl, rfl, rfl⟩ ?_))
   refine zH ZN (by repeat (first | exact zh.nil)) rfl ⟨_, _, rfl, rfl, rfl⟩ ?_
   (repeat (first | refine zc.nil ?_ | refine za rfl rfl rfl ?_ | refine zK rfl rfl rfl rfl ?_))
   refine FW.ret ⟨.inl rfl, zy rfl rfl rfl rfl⟩
  ·obtain ⟨V, hV⟩ : ∃ V, zfN h = V := ⟨_, rfl⟩
   rw [hV] at hC hc
   obtain ⟨k, a, o, ed⟩ := V
   dsimp only [zkK.fv] at hC hc
   refine xx hC (by repeat (first | exact zh.nil | refine zh.cons (by exact yf.plain rfl rfl) ?_)) rfl rfl ?_
   (repeat (first | refine FW.seq ?_ | refine FW.region ?_ | refine zc.nil ?_ | refine za rfl rfl rfl ?_ | refine zb rfl rfl rfl ?_ | refine zP rfl rfl rfl rfl rfl ?_ | refine yb rfl rfl rfl rfl rfl rfl rfl ?_ | refine zG rfl rfl rfl rfl rfl rfl rfl rfl rfl ?_ | refine xP rfl rfl rfl rfl ?_ | refine zb rfl rfl ⟨_, _, rfl, rfl, rfl⟩ ?_))
   refine zH hPX (by repeat (first | exact zh.nil | refine zh.cons (by exact yf.own rfl rfl (by decide) (by first | exact (fun _ => rfl) | (intro h; cases h)) (by first | rfl | (simp; done) | (congr 1; omega) | (simp; omega) | (simp [List.take_of_length_le]; done) | (refine congrArg (FV.int .i64) ?_; omega))) ?_)) rfl ⟨_, _, rfl, rfl, rfl⟩ ?_
   (repeat (first | refine zb rfl rfl ⟨_, _, rfl, rfl, rfl⟩ ?_))
   refine zH hOX (by repeat (first | exact zh.nil | refine zh.cons (by exact yf.own rfl rfl (by decide) (by first | exact (fun _ => rfl) | (intro h; cases h)) (by first | rfl | (simp; done) | (congr 1; omega) | (simp; omega) | (simp [List.take_of_length_le]; done) | (refine congrArg (FV.int .i64) ?_; omega))) ?_)) rfl ⟨_, _, rfl, rfl, rfl⟩ ?_
   (repeat (first | refine zc.nil ?_ | refine zL rfl rfl rfl rfl ?_ | refine zhQ rfl rfl rfl rfl ⟨_, _, rfl, rfl, rfl⟩ ?_))
   rw [hBX]
   (repeat (first | refine FW.seq ?_ | refine FW.region ?_ | refine FW.skip ?_ | refine FW.condF rfl ?_ | refine zc.nil ?_ | refine za rfl rfl rfl ?_ | refine zb rfl rfl rfl ?_ | refine zn rfl rfl rfl rfl rfl (by simp; done) rfl rfl rfl rfl rfl ?_ | refine xP rfl rfl rfl rfl ?_ | refine zq rfl rfl rfl rfl rfl rfl (by decide) rfl rfl ?_))
   refine yy (fun _ => ?_) (fun e => ?_)
   ·(repeat (first | refine FW.seq ?_ | refine FW.region ?_ | refine FW.condT rfl ?_ | refine zc.nil ?_ | refine zK rfl rfl rfl rfl ?_ | refine ye rfl rfl ⟨_, _, rfl, rfl, rfl⟩ ?_))
    refine zH ZN (by repeat (first | exact zh.nil)) rfl rfl ?_
    (repeat (first | refine zc.nil ?_ | refine za rfl rfl rfl ?_))
    refine FW.ret ⟨.inl rfl, zy rfl rfl rfl rfl⟩
   ·exact absurd (of_decide_eq_false e) (fun h => h hc)
 ·rw [decide_eq_false D]
  (repeat (first | refine FW.seq ?_ | refine FW.region ?_ | refine FW.condT rfl ?_ | refine zc.nil ?_ | refine xE rfl rfl rfl ?_))
  refine zH ZN (by repeat (first | exact zh.nil)) rfl rfl ?_
  (repeat (first | refine zc.nil ?_ | refine za rfl rfl rfl ?_))
  refine FW.ret ⟨.inl rfl, zy rfl rfl rfl rfl⟩
end Go.Proofs.Ytbeebjdnapkhhaa
