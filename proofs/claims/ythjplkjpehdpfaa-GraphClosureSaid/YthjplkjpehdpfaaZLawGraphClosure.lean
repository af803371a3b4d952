/-
  simprooflaw03.GraphClosure answers true for every input (walked on plain values).
-/
import Derived.Test.YthjplkjpehdpfaaZLawGraphComponents
namespace Go.Proofs.Ythjplkjpehdpfaa
set_option linter.unusedVariables false
open Go.RowKit

theorem YJ {n : Nat} {E : List (Nat × Nat)} (hE : InN n E) (fr : List Int) {z : Int} : z ∈ ye n E fr ↔ ∃ v : Nat, z = v ∧ v < n ∧ Rch n E fr v := by
 constructor
 ·intro hz
  have hz' := hz
  simp only [ye, ZM, List.mem_map, List.mem_filter, List.mem_range] at hz
  obtain ⟨v, ⟨h1, _⟩, h3⟩ := hz
  refine ⟨v, h3.symm, h1, (xO hE fr h1).1 ?_⟩
  unfold YD
  rw [h3]; exact decide_eq_true hz'
 ·rintro ⟨v, rfl, hv, hr⟩
  have := (xO hE fr hv).2 hr
  unfold YD at this
  exact of_decide_eq_true this
theorem Rch.mono {n : Nat} {E : List (Nat × Nat)} {fr fr' : List Int} (h : ∀ z ∈ fr, z ∈ fr') {v : Nat} (hr : Rch n E fr v) : Rch n E fr' v := by
 induction hr with
 | start hv hm => exact .start hv (h _ hm)
 | step _ hm ih => exact .step ih hm
theorem zaB {n : Nat} {E : List (Nat × Nat)} (hE : InN n E) (fr : List Int) : ye n E (ye n E fr) = ye n E fr := by
 unfold ye
 refine Wd (fun v hv => ?_) n (Nat.le_refl n)
 rw [VU hE, VU hE]
 show Rch n E (ye n E fr) v ↔ Rch n E fr v
 constructor
 ·intro hr
  induction hr with
  | @start v hv hm =>
   obtain ⟨u, e, _, h⟩ := (YJ hE fr).1 hm
   have : u = v := by omega
   rw [← this]; exact h
  | step hu hm ih =>
   exact .step (ih (hu.lt hE)) hm
 ·intro hr
  exact .start hv ((YJ hE fr).2 ⟨v, rfl, hv, hr⟩)
theorem Yf {c : List Nat} {v : Nat} : YD (xI c) v = true ↔ v ∈ c := by
 unfold YD xI
 rw [decide_eq_true_iff, List.mem_map]
 constructor
 ·rintro ⟨u, hu, e⟩
  have : u = v := by omega
  rw [← this]; exact hu
 ·intro h; exact ⟨v, h, rfl⟩
def zdO (P : List (List Nat)) (v w i : Nat) : Bool := (P.take i).any fun c => YD (xI c) v && YD (xI c) w
theorem zdI (P : List (List Nat)) (v w i : Nat) (h : i < P.length) : zdO P v w (i + 1) = (zdO P v w i || (YD (xI (nth P i)) v && YD (xI (nth P i)) w)) := by
 unfold zdO
 rw [List.take_succ_eq_append_getElem h, List.any_append, nth_eq h]
 simp
theorem zep {P : List (List Nat)} {v w : Nat} : zdO P v w P.length = true ↔ ∃ c ∈ P, v ∈ c ∧ w ∈ c := by
 unfold zdO
 rw [List.take_length, List.any_eq_true]
 constructor
 ·rintro ⟨c, hc, h⟩
  rw [Bool.and_eq_true, Yf, Yf] at h
  exact ⟨c, hc, h⟩
 ·rintro ⟨c, hc, h⟩
  exact ⟨c, hc, by rw [Bool.and_eq_true, Yf, Yf]; exact h⟩
set_option maxHeartbeats 16000000 in
theorem YL (n : Int) (l za zb : List Int) (hn : I64 n) (hl : ∀ x ∈ l, I64 x) (hlen : l.length ≤ 9223372036854775807) (ha : ∀ x ∈ za, I64 x) (halen : za.length ≤ 9223372036854775807) (hb : ∀ x ∈ zb, I64 x) (hblen : zb.length ≤ 9223372036854775807) : yr Try.prog 5 [.int .i64 n, .list 1 (l.map zp), .list 1 (za.map zp), .list 1 (zb.map zp)] .fr (.bool true) := by
 have hsize := zdC n hn
 obtain ⟨k, hk, hk10⟩ := zbG n 10 (by decide)
 have hk' : yS n 10 = k := hk
 rw [hk'] at hsize
 have hE := zdg k l
 have hEl := zcd k l
 refine yr.of_body (c := (Zi Try.prog zE zw 177)) ⟨Try.func5, rfl, Try.ntmps5, by kernel_rfl⟩ (by simp [FV.hand]) (by exact Nat.le_of_ble_eq_true rfl) rfl ?_
 change FW _ _ _ ⟨[(0, .int .i64 n), (1, .list 1 (l.map zp)), (2, .list 1 (za.map zp)), (3, .list 1 (zb.map zp))], []⟩
 (repeat (first | refine FW.seq ?_ | refine FW.region ?_ | refine zg.nil ?_ | refine zf rfl rfl rfl ?_ | refine zd rfl rfl rfl ?_))
 refine zW hsize (by repeat (first | exact zx.nil | refine zx.cons (by exact yT.plain rfl rfl) ?_)) rfl rfl ?_
 (repeat (first | refine FW.seq ?_ | refine FW.region ?_ | refine zg.nil ?_ | refine zf rfl rfl rfl ?_ | refine zd rfl rfl rfl ?_ | refine Zl rfl rfl rfl rfl ?_))
 refine FW.cond rfl (fun hk0 => ?_) (fun hk0 => ?_)
 ·have hR := xj 0 [] za (by decide) (by decide) (fun e he => by cases he) halen
  rw [show ye 0 [] za = [] from rfl] at hR
  (repeat (first | refine FW.seq ?_ | refine FW.region ?_ | refine zd rfl rfl rfl ?_))
  refine yp hR (by repeat (first | exact zx.nil | refine zx.cons (by first | exact yT.plain rfl rfl | exact yT.nil rfl) ?_)) rfl rfl ?_
  (repeat (first | refine zd rfl rfl rfl ?_ | refine Zl rfl rfl rfl rfl ?_ | refine zA rfl rfl (by exact List.length_map _) rfl rfl ?_))
  refine zW Xd (by repeat (first | exact zx.nil)) rfl ⟨_, _, rfl, rfl, rfl⟩ ?_
  (repeat (first | refine zg.nil ?_ | refine zf rfl rfl rfl ?_ | refine zN rfl rfl rfl rfl ?_))
  exact FW.ret ⟨.inl rfl, yx rfl rfl rfl rfl⟩
 have hk0 : 0 < k := by
  have := of_decide_eq_false hk0
  omega
 (repeat (first | refine FW.seq ?_ | refine FW.region ?_ | refine FW.skip ?_ | refine zd rfl rfl rfl ?_))
 refine Xs (zaO k l (by omega) hlen hl) (by repeat (first | exact zx.nil | refine zx.cons (by exact yT.plain rfl rfl) ?_)) (List.length_map _) rfl rfl rfl ?_
 refine zg.le ?_ (FLe.share 38 rfl rfl (by rw [List.length_map]))
 generalize Xf k l = E at hE hEl
 (repeat (first | refine FW.seq ?_ | refine FW.region ?_ | refine FW.block ?_ | refine zg.nil ?_ | refine zf rfl rfl rfl ?_))
 refine FW.loop (fun x : Nat × List Int => ⟨[(2, .list 1 (za.map zp)), (3, .list 1 (zb.map zp)), (9, .int .i64 k), (10, .list 2 (E.map edf)), (11, .own 100 0 0 x.2.length), (12, .int .i64 x.1)], [(100, ⟨0, .own, 3, 1, x.2.map zp⟩)]⟩) (fun x => x.1 ≤ za.length ∧ x.1 ≤ 4 ∧ x.2.length = x.1 ∧ ∀ z ∈ x.2, 0 ≤ z ∧ z < k) (fun x => 4 - x.1) (0, []) ⟨Nat.zero_le _, by decide, rfl, fun z hz => by cases hz⟩ ?_ ?_
 ·show FLe _ ⟨[(2, .list 1 (za.map zp)), (3, .list 1 (zb.map zp)), (9, .int .i64 k), (10, .list 2 (E.map edf)), (11, .own 100 0 0 0), (12, .int .i64 0)], [(100, ⟨0, .own, 3, 1, []⟩)]⟩
  exact (FLe.conv [⟨100, none, 0, ⟨0, .own, 3, 1, []⟩⟩] (by simp) (by simp) rfl (by repeat (first | exact .nil | refine .low rfl ?_)) (by repeat (first | exact .nil | refine .new ?_)) (by repeat (first | exact .nil | refine .cons (.plain rfl rfl rfl) ?_ | refine .cons (.nil rfl (.head _) rfl) ?_)))
 rintro ⟨i, X⟩ ⟨hi, hi4, hXl, hXr⟩
 dsimp only at hi hi4 hXl hXr ⊢
 refine FW.seq ?_
 refine FW.seq ?_
 refine FW.join (fun b : Bool => ⟨[(2, .list 1 (za.map zp)), (3, .list 1 (zb.map zp)), (9, .int .i64 k), (10, .list 2 (E.map edf)), (11, .own 100 0 0 X.length), (12, .int .i64 i), (46, .bool b)], [(100, ⟨0, .own, 3, 1, X.map zp⟩)]⟩) (fun b => b = true → i < za.length ∧ i < 4) ?_ ?_
 ·(repeat (first | refine FW.region ?_ | refine zd rfl rfl rfl ?_ | refine zA rfl rfl (by exact List.length_map _) rfl rfl ?_ | refine zI rfl rfl rfl rfl ?_))
  refine yo (fun h => ?_) (fun h => ?_)
  ·(repeat (first | refine zg.nil ?_ | refine zN rfl rfl rfl rfl ?_ | refine zd rfl rfl ⟨_, _, rfl, rfl, rfl⟩ ?_ | refine zI rfl rfl rfl ⟨_, _, rfl, rfl, rfl⟩ ?_))
   refine ⟨rfl, decide ((i : Int) < 4), fun q => ⟨by simpa using h, by simp at q; omega⟩, ?_⟩
   exact (FLe.conv [⟨100, some 100, 0, ⟨0, .own, 3, 1, X.map zp⟩⟩] (by simp) (by simp) rfl (by repeat (first | exact .nil | refine .low rfl ?_)) (by repeat (first | exact .nil | refine .old rfl (by decide) rfl ?_)) (by repeat (first | exact .nil | refine .cons (.plain rfl rfl rfl) ?_ | refine .cons (.own rfl (.head _) rfl rfl) ?_)))
  ·(repeat (first | refine zg.nil ?_ | refine zU rfl rfl rfl rfl ?_ | refine yj rfl rfl ⟨_, _, rfl, rfl, rfl⟩ ?_))
   refine ⟨rfl, false, fun q => (by cases q), ?_⟩
   exact (FLe.conv [⟨100, some 100, 0, ⟨0, .own, 3, 1, X.map zp⟩⟩] (by simp) (by simp) rfl (by repeat (first | exact .nil | refine .low rfl ?_)) (by repeat (first | exact .nil | refine .old rfl (by decide) rfl ?_)) (by repeat (first | exact .nil | refine .cons (.plain rfl rfl rfl) ?_ | refine .cons (.own rfl (.head _) rfl rfl) ?_)))
 intro b hb1
 refine FW.cond rfl (fun h => ?_) (fun h => ?_)
 ·obtain ⟨hlt, hlt4⟩ := hb1 h
  subst h
  have hxi := ha _ (zF hlt)
  (repeat (first | refine FW.seq ?_ | refine FW.region ?_ | refine FW.block ?_ | refine FW.skip ?_ | refine zd rfl rfl rfl ?_ | refine zy rfl rfl rfl rfl rfl rfl (by simp; omega) rfl rfl ?_ | refine zD rfl rfl rfl (by simp; omega) (by first | exact zh (by omega) | rfl) rfl rfl rfl rfl ?_))
  refine zW (Zd (nth za i) (k : Int) hxi (by omega) (by omega)) (by repeat (first | exact zx.nil | refine zx.cons (by exact yT.plain rfl rfl) ?_)) rfl rfl ?_
  have hy1 := Yd (n := nth za i) (most := (k : Int)) (by omega)
  have hy2 := Xw (n := nth za i) (most := (k : Int)) (by omega)
  generalize yS (nth za i) (k : Int) = y at hy1 hy2
  (repeat (first | refine FW.region ?_ | refine zg.nil ?_ | refine zf rfl rfl rfl ?_ | refine zd rfl rfl rfl ?_ | refine zP rfl rfl rfl rfl rfl rfl rfl rfl ?_ | refine xJ rfl rfl (by first | exact (List.length_map _).symm | (simp; done) | (simp; omega)) rfl rfl rfl (by decide) (by exact xB.own rfl rfl (by decide) (by first | exact List.length_map _ | exact (List.length_map _).symm | exact List.length_replicate | rfl | (simp; done) | omega | (simp; omega))) (by first | (simp; omega) | (simp; done)) (by first | (simp; omega) | (simp; done)) rfl rfl rfl ?_ | refine zC rfl rfl (by omega) rfl rfl ?_))
  refine ⟨(i + 1, X ++ [y]), ⟨by show i + 1 ≤ _; omega, by show i + 1 ≤ 4; omega, by show (X ++ [y]).length = i + 1; simp; omega, fun z hz => by
   rcases List.mem_append.1 hz with h | h
   ·exact hXr z h
   ·rw [List.mem_singleton.1 h]; exact ⟨hy1, hy2⟩⟩, by show 4 - (i + 1) < 4 - i; omega, ?_⟩
  dsimp only
  rw [List.length_append, List.map_append]
  exact (FLe.conv [⟨100, some 57, 0 + 1, ⟨0, .own, 3, 1, X.map zp ++ [y].map zp⟩⟩] (by simp) (by simp) rfl (by repeat (first | exact .nil | refine .low rfl ?_)) (by repeat (first | exact .nil | refine .old rfl (by decide) (by first | rfl | (simp; done)) ?_)) (by repeat (first | exact .nil | refine .cons (.plain rfl rfl (by first | rfl | (simp; done))) ?_ | refine .cons (.own rfl (.head _) rfl (by first | rfl | (simp; done))) ?_)))
 subst h
 clear hb1 hi hlen ha halen hl
 refine FW.le ?_ (FLe.share 11 rfl rfl (by rw [List.length_map]))
 (repeat (first | refine FW.seq ?_ | refine FW.region ?_ | refine FW.block ?_ | refine FW.exit ?_ | refine zg.nil ?_ | refine zf rfl rfl rfl ?_ | refine zd rfl rfl rfl ?_ | refine YT rfl rfl rfl rfl rfl rfl ?_ | refine xJ rfl rfl (by first | rfl | (simp; omega)) rfl rfl rfl (by decide) (by exact xB.list rfl) (by simp; omega) (by simp; omega) rfl rfl rfl ?_))
 refine FW.loop (fun x : Nat × List Int => ⟨[(3, .list 1 (zb.map zp)), (9, .int .i64 k), (10, .list 2 (E.map edf)), (11, .list 1 (X.map zp)), (13, .own 100 0 0 x.2.length), (14, .int .i64 x.1)], [(100, ⟨0, .own, 3, 1, x.2.map zp⟩)]⟩) (fun x => x.1 ≤ zb.length ∧ x.1 ≤ 4 ∧ x.2.length = X.length + x.1 ∧ ∀ z ∈ X, z ∈ x.2) (fun x => 4 - x.1) (0, X) ⟨Nat.zero_le _, Nat.zero_le _, rfl, fun z hz => hz⟩ ?_ ?_
 ·rw [List.nil_append, List.length_map]
  exact (FLe.conv [⟨100, some 60, 0 + 1, ⟨0, .own, 3, 1, X.map zp⟩⟩] (by simp) (by simp) rfl (by repeat (first | exact .nil | refine .low rfl ?_)) (by repeat (first | exact .nil | refine .old rfl (by decide) rfl ?_)) (by repeat (first | exact .nil | refine .cons (.plain rfl rfl rfl) ?_ | refine .cons (.own rfl (.head _) rfl rfl) ?_)))
 rintro ⟨j, Y⟩ ⟨hj, hj4, hYl, hYX⟩
 dsimp only at hj hj4 hYl hYX ⊢
 refine FW.seq ?_
 refine FW.seq ?_
 refine FW.join (fun b : Bool => ⟨[(3, .list 1 (zb.map zp)), (9, .int .i64 k), (10, .list 2 (E.map edf)), (11, .list 1 (X.map zp)), (13, .own 100 0 0 Y.length), (14, .int .i64 j), (68, .bool b)], [(100, ⟨0, .own, 3, 1, Y.map zp⟩)]⟩) (fun b => b = true → j < zb.length ∧ j < 4) ?_ ?_
 ·(repeat (first | refine FW.region ?_ | refine zd rfl rfl rfl ?_ | refine zA rfl rfl (by exact List.length_map _) rfl rfl ?_ | refine zI rfl rfl rfl rfl ?_))
  refine yo (fun h => ?_) (fun h => ?_)
  ·(repeat (first | refine zg.nil ?_ | refine zN rfl rfl rfl rfl ?_ | refine zd rfl rfl ⟨_, _, rfl, rfl, rfl⟩ ?_ | refine zI rfl rfl rfl ⟨_, _, rfl, rfl, rfl⟩ ?_))
   refine ⟨rfl, decide ((j : Int) < 4), fun q => ⟨by simpa using h, by simp at q; omega⟩, ?_⟩
   exact (FLe.conv [⟨100, some 100, 0, ⟨0, .own, 3, 1, Y.map zp⟩⟩] (by simp) (by simp) rfl (by repeat (first | exact .nil | refine .low rfl ?_)) (by repeat (first | exact .nil | refine .old rfl (by decide) rfl ?_)) (by repeat (first | exact .nil | refine .cons (.plain rfl rfl rfl) ?_ | refine .cons (.own rfl (.head _) rfl rfl) ?_)))
  ·(repeat (first | refine zg.nil ?_ | refine zU rfl rfl rfl rfl ?_ | refine yj rfl rfl ⟨_, _, rfl, rfl, rfl⟩ ?_))
   refine ⟨rfl, false, fun q => (by cases q), ?_⟩
   exact (FLe.conv [⟨100, some 100, 0, ⟨0, .own, 3, 1, Y.map zp⟩⟩] (by simp) (by simp) rfl (by repeat (first | exact .nil | refine .low rfl ?_)) (by repeat (first | exact .nil | refine .old rfl (by decide) rfl ?_)) (by repeat (first | exact .nil | refine .cons (.plain rfl rfl rfl) ?_ | refine .cons (.own rfl (.head _) rfl rfl) ?_)))
 intro b hb1
 refine FW.cond rfl (fun h => ?_) (fun h => ?_)
 ·obtain ⟨hlt, hlt4⟩ := hb1 h
  subst h
  have hxi := hb _ (zF hlt)
  (repeat (first | refine FW.seq ?_ | refine FW.region ?_ | refine FW.block ?_ | refine FW.skip ?_ | refine zd rfl rfl rfl ?_ | refine zy rfl rfl rfl rfl rfl rfl (by simp; omega) rfl rfl ?_ | refine zD rfl rfl rfl (by simp; omega) (by first | exact zh (by omega) | rfl) rfl rfl rfl rfl ?_))
  refine zW (Zd (nth zb j) (k : Int) hxi (by omega) (by omega)) (by repeat (first | exact zx.nil | refine zx.cons (by exact yT.plain rfl rfl) ?_)) rfl rfl ?_
  generalize yS (nth zb j) (k : Int) = y
  (repeat (first | refine FW.region ?_ | refine zg.nil ?_ | refine zf rfl rfl rfl ?_ | refine zd rfl rfl rfl ?_ | refine zP rfl rfl rfl rfl rfl rfl rfl rfl ?_ | refine xJ rfl rfl (by first | exact (List.length_map _).symm | (simp; done) | (simp; omega)) rfl rfl rfl (by decide) (by exact xB.own rfl rfl (by decide) (by first | exact List.length_map _ | exact (List.length_map _).symm | exact List.length_replicate | rfl | (simp; done) | omega | (simp; omega))) (by first | (simp; omega) | (simp; done)) (by first | (simp; omega) | (simp; done)) rfl rfl rfl ?_ | refine zC rfl rfl (by omega) rfl rfl ?_))
  refine ⟨(j + 1, Y ++ [y]), ⟨by show j + 1 ≤ _; omega, by show j + 1 ≤ 4; omega, by show (Y ++ [y]).length = X.length + (j + 1); simp; omega, fun z hz => List.mem_append_left _ (hYX z hz)⟩, by show 4 - (j + 1) < 4 - j; omega, ?_⟩
  dsimp only
  rw [List.length_append, List.map_append]
  exact (FLe.conv [⟨100, some 79, 0 + 1, ⟨0, .own, 3, 1, Y.map zp ++ [y].map zp⟩⟩] (by simp) (by simp) rfl (by repeat (first | exact .nil | refine .low rfl ?_)) (by repeat (first | exact .nil | refine .old rfl (by decide) (by first | rfl | (simp; done)) ?_)) (by repeat (first | exact .nil | refine .cons (.plain rfl rfl (by first | rfl | (simp; done))) ?_ | refine .cons (.own rfl (.head _) rfl (by first | rfl | (simp; done))) ?_)))
 subst h
 clear hb1 hj hb hblen
 refine FW.le ?_ (FLe.share 13 rfl rfl (by rw [List.length_map]))
 have hRS := xj k E X (by omega) (by omega) hE (by omega)
 have hRL := xj k E Y (by omega) (by omega) hE (by omega)
 have hRI := xj k E (ye k E X) (by omega) (by omega) hE (by have := Zp k E X; omega)
 rw [zaB hE] at hRI
 have hSL : ∀ z ∈ ye k E X, YD (ye k E Y) z = true := fun z hz => by
  obtain ⟨v, rfl, hv, hr⟩ := (YJ hE X).1 hz
  exact (xO hE Y hv).2 (hr.mono hYX)
 have hSl := Zp k E X
 have hLl := Zp k E Y
 have hXS : ∀ z ∈ X, 0 ≤ z → z < k → YD (ye k E X) z = true := fun z hz h0 h1 => by
  have := (xO hE X (j := z.toNat) (by omega)).2 (.start (by omega) (by rw [Int.toNat_of_nonneg h0]; exact hz))
  rwa [Int.toNat_of_nonneg h0] at this
 have hXin : ∀ z ∈ X, 0 ≤ z ∧ z < k := hXr
 generalize ye k E X = S at hRS hRI hSL hSl hXS
 generalize ye k E Y = L at hRL hSL hLl
 (repeat (first | refine FW.seq ?_ | refine FW.region ?_ | refine FW.exit ?_ | refine zd rfl rfl rfl ?_))
 refine yp hRS (by repeat (first | exact zx.nil | refine zx.cons (by exact yT.plain rfl rfl) ?_)) rfl rfl ?_
 (repeat (first | refine FW.seq ?_ | refine FW.region ?_ | refine zg.nil ?_ | refine zf rfl rfl rfl ?_ | refine zd rfl rfl rfl ?_))
 refine yp hRL (by repeat (first | exact zx.nil | refine zx.cons (by exact yT.plain rfl rfl) ?_)) rfl rfl ?_
 (repeat (first | refine FW.seq ?_ | refine FW.region ?_ | refine FW.block ?_ | refine zg.nil ?_ | refine zf rfl rfl rfl ?_))
 refine FW.loop (fun i : Nat => ⟨[(9, .int .i64 k), (10, .list 2 (E.map edf)), (11, .list 1 (X.map zp)), (15, .list 1 (S.map zp)), (16, .list 1 (L.map zp)), (17, .int .i64 i)], []⟩) (fun i => i ≤ S.length) (fun i => S.length - i) 0 (Nat.zero_le _) (FLe.conv [] (by simp) (by simp) rfl (by repeat (first | exact .nil)) (by repeat (first | exact .nil)) (by repeat (first | exact .nil | refine .cons (.plain rfl rfl rfl) ?_))) ?_
 intro q hq
 (repeat (first | refine FW.seq ?_ | refine FW.region ?_ | refine zg.nil ?_ | refine zd rfl rfl rfl ?_ | refine zA rfl rfl (by exact List.length_map _) rfl rfl ?_ | refine zI rfl rfl rfl rfl ?_))
 refine FW.cond rfl (fun h => ?_) (fun h => ?_)
 ·have hlt : q < S.length := by simpa using h
  have hz := ZH L (nth S q) (by omega)
  rw [hSL _ (zF hlt)] at hz
  (repeat (first | refine FW.seq ?_ | refine FW.region ?_ | refine FW.block ?_ | refine FW.skip ?_ | refine zd rfl rfl rfl ?_ | refine zy rfl rfl rfl rfl rfl rfl (by simp; omega) rfl rfl ?_ | refine zD rfl rfl rfl (by simp; omega) (by first | exact zh (by omega) | rfl) rfl rfl rfl rfl ?_))
  refine zW hz (by repeat (first | exact zx.nil | refine zx.cons (by exact yT.plain rfl rfl) ?_)) rfl rfl ?_
  (repeat (first | refine FW.region ?_ | refine FW.skip ?_ | refine FW.condF rfl ?_ | refine zg.nil ?_ | refine zf rfl rfl rfl ?_ | refine zd rfl rfl rfl ?_ | refine zC rfl rfl (by omega) rfl rfl ?_ | refine Ws rfl rfl rfl ?_))
  exact ⟨q + 1, by omega, by omega, (FLe.conv [] (by simp) (by simp) rfl (by repeat (first | exact .nil)) (by repeat (first | exact .nil)) (by repeat (first | exact .nil | refine .cons (.plain rfl rfl rfl) ?_)))⟩
 clear h hSL
 (repeat (first | refine FW.seq ?_ | refine FW.region ?_ | refine FW.block ?_ | refine FW.exit ?_ | refine zg.nil ?_ | refine zf rfl rfl rfl ?_))
 refine FW.loop (fun i : Nat => ⟨[(9, .int .i64 k), (10, .list 2 (E.map edf)), (11, .list 1 (X.map zp)), (15, .list 1 (S.map zp)), (16, .list 1 (L.map zp)), (18, .int .i64 i)], []⟩) (fun i => i ≤ X.length) (fun i => X.length - i) 0 (Nat.zero_le _) (FLe.conv [] (by simp) (by simp) rfl (by repeat (first | exact .nil)) (by repeat (first | exact .nil)) (by repeat (first | exact .nil | refine .cons (.plain rfl rfl rfl) ?_))) ?_
 intro q2 hq2
 (repeat (first | refine FW.seq ?_ | refine FW.region ?_ | refine zg.nil ?_ | refine zd rfl rfl rfl ?_ | refine zA rfl rfl (by exact List.length_map _) rfl rfl ?_ | refine zI rfl rfl rfl rfl ?_))
 refine FW.cond rfl (fun h => ?_) (fun h => ?_)
 ·have hlt : q2 < X.length := by simpa using h
  have hz := ZH S (nth X q2) (by omega)
  rw [hXS _ (zF hlt) (hXin _ (zF hlt)).1 (hXin _ (zF hlt)).2] at hz
  (repeat (first | refine FW.seq ?_ | refine FW.region ?_ | refine FW.block ?_ | refine FW.skip ?_ | refine zd rfl rfl rfl ?_ | refine zy rfl rfl rfl rfl rfl rfl (by simp; omega) rfl rfl ?_ | refine zD rfl rfl rfl (by simp; omega) (by first | exact zh (by omega) | rfl) rfl rfl rfl rfl ?_))
  refine zW hz (by repeat (first | exact zx.nil | refine zx.cons (by exact yT.plain rfl rfl) ?_)) rfl rfl ?_
  (repeat (first | refine FW.region ?_ | refine FW.skip ?_ | refine FW.condF rfl ?_ | refine zg.nil ?_ | refine zf rfl rfl rfl ?_ | refine zd rfl rfl rfl ?_ | refine zC rfl rfl (by omega) rfl rfl ?_ | refine Ws rfl rfl rfl ?_))
  exact ⟨q2 + 1, by omega, by omega, (FLe.conv [] (by simp) (by simp) rfl (by repeat (first | exact .nil)) (by repeat (first | exact .nil)) (by repeat (first | exact .nil | refine .cons (.plain rfl rfl rfl) ?_)))⟩
 clear h hXS
 (repeat (first | refine FW.seq ?_ | refine FW.region ?_ | refine FW.exit ?_ | refine zd rfl rfl rfl ?_))
 refine yp hRI (by repeat (first | exact zx.nil | refine zx.cons (by exact yT.plain rfl rfl) ?_)) rfl rfl ?_
 (repeat (first | refine zd rfl rfl rfl ?_))
 refine zW (Zg S S (by omega) (by omega)) (by repeat (first | exact zx.nil | refine zx.cons (by exact yT.plain rfl rfl) ?_)) rfl rfl ?_
 rw [show decide (S = S) = true by simp]
 (repeat (first | refine FW.seq ?_ | refine FW.region ?_ | refine FW.skip ?_ | refine FW.condF rfl ?_ | refine zg.nil ?_ | refine zd rfl rfl rfl ?_ | refine Ws rfl rfl rfl ?_))
 have hP := XA k E (by omega) (by omega) hE
 have hPl := zbO k E
 have hPr := zbP (n := k) (E := E)
 have hPt := fun v w hv hw => zab (n := k) (E := E) hE (v := v) (w := w) hv hw
 generalize Zk k E = P at hP hPl hPr hPt
 refine yp hP (by repeat (first | exact zx.nil | refine zx.cons (by exact yT.plain rfl rfl) ?_)) rfl rfl ?_
 (repeat (first | refine FW.seq ?_ | refine FW.region ?_ | refine FW.block ?_ | refine zg.nil ?_ | refine zf rfl rfl rfl ?_))
 refine FW.loop (fun v : Nat => ⟨[(9, .int .i64 k), (10, .list 2 (E.map edf)), (19, .list 1 (P.map Za)), (20, .int .i64 v)], []⟩) (fun v => v ≤ k) (fun v => k - v) 0 (Nat.zero_le _) (FLe.conv [] (by simp) (by simp) rfl (by repeat (first | exact .nil)) (by repeat (first | exact .nil)) (by repeat (first | exact .nil | refine .cons (.plain rfl rfl rfl) ?_))) ?_
 intro v hv
 (repeat (first | refine FW.seq ?_ | refine FW.region ?_ | refine zg.nil ?_ | refine zd rfl rfl rfl ?_ | refine zI rfl rfl rfl rfl ?_))
 refine FW.cond rfl (fun h => ?_) (fun h => ?_)
 ·have hvk : v < k := by simpa using h
  clear h
  (repeat (first | refine FW.seq ?_ | refine FW.region ?_ | refine FW.block ?_ | refine FW.skip ?_ | refine zg.nil ?_ | refine zf rfl rfl rfl ?_))
  refine FW.loop (fun w : Nat => ⟨[(9, .int .i64 k), (10, .list 2 (E.map edf)), (19, .list 1 (P.map Za)), (20, .int .i64 v), (21, .int .i64 w)], []⟩) (fun w => w ≤ k) (fun w => k - w) 0 (Nat.zero_le _) (FLe.conv [] (by simp) (by simp) rfl (by repeat (first | exact .nil)) (by repeat (first | exact .nil)) (by repeat (first | exact .nil | refine .cons (.plain rfl rfl rfl) ?_))) ?_
  intro w hw
  (repeat (first | refine FW.seq ?_ | refine FW.region ?_ | refine zg.nil ?_ | refine zd rfl rfl rfl ?_ | refine zI rfl rfl rfl rfl ?_))
  refine FW.cond rfl (fun h => ?_) (fun h => ?_)
  ·have hwk : w < k := by simpa using h
   clear h
   have h1 := ZH (ye k E [(v : Int)]) w (by have := Zp k E [(v : Int)]; omega)
   have h2 := ZH (ye k E [(w : Int)]) v (by have := Zp k E [(w : Int)]; omega)
   have e1 := xO hE [(v : Int)] hwk
   have e2 := xO hE [(w : Int)] hvk
   have hV := xj k E [(v : Int)] (by omega) (by omega) hE (by simp)
   have hW := xj k E [(w : Int)] (by omega) (by omega) hE (by simp)
   have hboth : zdO P v w P.length = (YD (ye k E [(v : Int)]) w && YD (ye k E [(w : Int)]) v) := by
    rw [Bool.eq_iff_iff, zep, hPt v w hvk hwk, Bool.and_eq_true, e1, e2]
   clear e1 e2
   generalize YD (ye k E [(v : Int)]) w = b1 at h1 hboth
   generalize YD (ye k E [(w : Int)]) v = b2 at h2 hboth
   generalize ye k E [(v : Int)] = g1 at h1 hV
   generalize ye k E [(w : Int)] = g2 at h2 hW
   refine FW.skip ?_
   refine FW.seq ?_
   refine FW.block ?_
   repeat refine FW.seq ?_
   refine FW.join (fun _ : Unit => ⟨[(9, .int .i64 k), (10, .list 2 (E.map edf)), (19, .list 1 (P.map Za)), (20, .int .i64 v), (21, .int .i64 w), (22, .bool (b1 && b2))], []⟩) (fun _ => True) ?_ ?_
   ·(repeat (first | refine FW.region ?_ | refine zd rfl rfl rfl ?_ | refine zP rfl rfl rfl rfl rfl rfl rfl rfl ?_))
    refine zg.le ?_ (FLe.share 137 rfl rfl rfl)
    refine yp hV (by repeat (first | exact zx.nil | refine zx.cons (by exact yT.plain rfl rfl) ?_)) rfl rfl ?_
    (repeat (first | refine zd rfl rfl rfl ?_))
    refine zW h1 (by repeat (first | exact zx.nil | refine zx.cons (by exact yT.plain rfl rfl) ?_)) rfl rfl ?_
    (repeat (first | refine zd rfl rfl rfl ?_))
    refine yo (fun hb1 => ?_) (fun hb1 => ?_)
    ·rw [hb1, Bool.true_and]
     (repeat (first | refine zd rfl rfl ⟨_, _, rfl, rfl, rfl⟩ ?_ | refine zP rfl rfl rfl rfl rfl rfl rfl ⟨_, _, rfl, rfl, rfl⟩ ?_))
     refine zg.le ?_ (FLe.share 145 rfl rfl rfl)
     refine yp hW (by repeat (first | exact zx.nil | refine zx.cons (by exact yT.plain rfl rfl) ?_)) rfl ⟨_, _, rfl, rfl, rfl⟩ ?_
     (repeat (first | refine zd rfl rfl ⟨_, _, rfl, rfl, rfl⟩ ?_))
     refine zW h2 (by repeat (first | exact zx.nil | refine zx.cons (by exact yT.plain rfl rfl) ?_)) rfl ⟨_, _, rfl, rfl, rfl⟩ ?_
     (repeat (first | refine zg.nil ?_ | refine zf rfl rfl rfl ?_ | refine zN rfl rfl rfl rfl ?_))
     refine ⟨rfl, (), trivial, ?_⟩
     exact (FLe.conv [] (by simp) (by simp) rfl (by repeat (first | exact .nil)) (by repeat (first | exact .nil)) (by repeat (first | exact .nil | refine .cons (.plain rfl rfl rfl) ?_)))
    ·rw [hb1, Bool.false_and]
     (repeat (first | refine zg.nil ?_ | refine zf rfl rfl rfl ?_ | refine zU rfl rfl rfl rfl ?_ | refine yj rfl rfl ⟨_, _, rfl, rfl, rfl⟩ ?_))
     refine ⟨rfl, (), trivial, ?_⟩
     exact (FLe.conv [] (by simp) (by simp) rfl (by repeat (first | exact .nil)) (by repeat (first | exact .nil)) (by repeat (first | exact .nil | refine .cons (.plain rfl rfl rfl) ?_)))
   ·intro _ _
    (repeat (first | refine FW.seq ?_ | refine FW.region ?_ | refine FW.block ?_ | refine zg.nil ?_ | refine zf rfl rfl rfl ?_))
    rw [show FV.bool false = FV.bool (zdO P v w 0) from rfl]
    refine FW.loop (fun i : Nat => ⟨[(9, .int .i64 k), (10, .list 2 (E.map edf)), (19, .list 1 (P.map Za)), (20, .int .i64 v), (21, .int .i64 w), (22, .bool (b1 && b2)), (23, .bool (zdO P v w i)), (24, .int .i64 i)], []⟩) (fun i => i ≤ P.length) (fun i => P.length - i) 0 (Nat.zero_le _) (FLe.conv [] (by simp) (by simp) rfl (by repeat (first | exact .nil)) (by repeat (first | exact .nil)) (by repeat (first | exact .nil | refine .cons (.plain rfl rfl rfl) ?_))) ?_
    intro i hi
    have hts := zdI P v w i
    have hte : i = P.length → zdO P v w i = (b1 && b2) := fun e => by rw [e]; exact hboth
    generalize zdO P v w i = g at hts hte
    (repeat (first | refine FW.seq ?_ | refine FW.region ?_ | refine zg.nil ?_ | refine zd rfl rfl rfl ?_ | refine zA rfl rfl (by exact List.length_map _) rfl rfl ?_ | refine zI rfl rfl rfl rfl ?_))
    refine FW.cond rfl (fun h => ?_) (fun h => ?_)
    ·have hlt : i < P.length := by simpa using h
     clear h hte
     have hts := hts hlt
     have hcl := hPr _ (zF hlt)
     obtain ⟨c, hc⟩ : ∃ c, nth P i = c := ⟨_, rfl⟩
     rw [hc] at hts hcl
     have k1 := ZH (xI c) v (by rw [Yg]; omega)
     have k2 := ZH (xI c) w (by rw [Yg]; omega)
     rw [za7] at k1 k2
     generalize YD (xI c) v = c1 at k1 hts
     generalize YD (xI c) w = c2 at k2 hts
     (repeat (first | refine FW.seq ?_ | refine FW.region ?_ | refine FW.block ?_ | refine FW.skip ?_ | refine zd rfl rfl rfl ?_))
     refine yo (fun hg => ?_) (fun hg => ?_)
     ·rw [hg, Bool.true_or] at hts
      (repeat (first | refine FW.region ?_ | refine zg.nil ?_ | refine zf rfl rfl rfl ?_ | refine zd rfl rfl rfl ?_ | refine zN rfl rfl rfl rfl ?_ | refine zC rfl rfl (by omega) rfl rfl ?_ | refine yj rfl rfl ⟨_, _, rfl, rfl, rfl⟩ ?_))
      refine ⟨i + 1, by omega, by omega, ?_⟩
      rw [hts]
      exact (FLe.conv [] (by simp) (by simp) rfl (by repeat (first | exact .nil)) (by repeat (first | exact .nil)) (by repeat (first | exact .nil | refine .cons (.plain rfl rfl rfl) ?_)))
     ·rw [hg, Bool.false_or] at hts
      (repeat (first | refine zd rfl rfl ⟨_, _, rfl, rfl, rfl⟩ ?_ | refine zy rfl rfl rfl rfl rfl rfl (by simp; omega) rfl ⟨_, _, rfl, rfl, rfl⟩ ?_ | refine zD rfl rfl rfl (by simp; omega) (by first | exact zh (by omega) | rfl) rfl rfl rfl ⟨_, _, rfl, rfl, rfl⟩ ?_))
      rw [hc]
      refine zW k1 (by repeat (first | exact zx.nil | refine zx.cons (by exact yT.plain rfl rfl) ?_)) rfl ⟨_, _, rfl, rfl, rfl⟩ ?_
      (repeat (first | refine zd rfl rfl ⟨_, _, rfl, rfl, rfl⟩ ?_))
      refine yo (fun hc1 => ?_) (fun hc1 => ?_)
      ·rw [hc1, Bool.true_and] at hts
       (repeat (first | refine zd rfl rfl ⟨_, _, rfl, rfl, rfl⟩ ?_ | refine zy rfl rfl rfl rfl rfl rfl (by simp; omega) rfl ⟨_, _, rfl, rfl, rfl⟩ ?_ | refine zD rfl rfl rfl (by simp; omega) (by first | exact zh (by omega) | rfl) rfl rfl rfl ⟨_, _, rfl, rfl, rfl⟩ ?_))
       rw [hc]
       refine zW k2 (by repeat (first | exact zx.nil | refine zx.cons (by exact yT.plain rfl rfl) ?_)) rfl ⟨_, _, rfl, rfl, rfl⟩ ?_
       (repeat (first | refine FW.region ?_ | refine zg.nil ?_ | refine zf rfl rfl rfl ?_ | refine zd rfl rfl rfl ?_ | refine zU rfl rfl rfl rfl ?_ | refine zC rfl rfl (by omega) rfl rfl ?_ | refine zN rfl rfl rfl ⟨_, _, rfl, rfl, rfl⟩ ?_))
       refine ⟨i + 1, by omega, by omega, ?_⟩
       rw [hts]
       exact (FLe.conv [] (by simp) (by simp) rfl (by repeat (first | exact .nil)) (by repeat (first | exact .nil)) (by repeat (first | exact .nil | refine .cons (.plain rfl rfl rfl) ?_)))
      ·rw [hc1, Bool.false_and] at hts
       (repeat (first | refine FW.region ?_ | refine zg.nil ?_ | refine zf rfl rfl rfl ?_ | refine zd rfl rfl rfl ?_ | refine zU rfl rfl rfl rfl ?_ | refine zC rfl rfl (by omega) rfl rfl ?_ | refine zU rfl rfl rfl ⟨_, _, rfl, rfl, rfl⟩ ?_ | refine yj rfl rfl ⟨_, _, rfl, rfl, rfl⟩ ?_))
       refine ⟨i + 1, by omega, by omega, ?_⟩
       rw [hts]
       exact (FLe.conv [] (by simp) (by simp) rfl (by repeat (first | exact .nil)) (by repeat (first | exact .nil)) (by repeat (first | exact .nil | refine .cons (.plain rfl rfl rfl) ?_)))
    ·have hie : i = P.length := by simp at h; omega
     rw [hte hie]
     (repeat (first | refine FW.seq ?_ | refine FW.region ?_ | refine FW.exit ?_ | refine zg.nil ?_ | refine zd rfl rfl rfl ?_ | refine ze4 rfl rfl rfl rfl rfl ?_))
     refine FW.cond rfl (fun h => absurd rfl (of_decide_eq_true h)) (fun _ => ?_)
     (repeat (first | refine FW.region ?_ | refine FW.skip ?_ | refine zg.nil ?_ | refine zf rfl rfl rfl ?_ | refine zd rfl rfl rfl ?_ | refine zC rfl rfl (by omega) rfl rfl ?_))
     exact ⟨w + 1, by omega, by omega, (FLe.conv [] (by simp) (by simp) rfl (by repeat (first | exact .nil)) (by repeat (first | exact .nil)) (by repeat (first | exact .nil | refine .cons (.plain rfl rfl rfl) ?_)))⟩
  ·(repeat (first | refine FW.region ?_ | refine FW.exit ?_ | refine zg.nil ?_ | refine zf rfl rfl rfl ?_ | refine zd rfl rfl rfl ?_ | refine zC rfl rfl (by omega) rfl rfl ?_))
   exact ⟨v + 1, by omega, by omega, (FLe.conv [] (by simp) (by simp) rfl (by repeat (first | exact .nil)) (by repeat (first | exact .nil)) (by repeat (first | exact .nil | refine .cons (.plain rfl rfl rfl) ?_)))⟩
 ·(repeat (first | refine FW.seq ?_ | refine FW.region ?_ | refine FW.exit ?_))
  refine zW Xd (by repeat (first | exact zx.nil)) rfl rfl ?_
  (repeat (first | refine zg.nil ?_ | refine zf rfl rfl rfl ?_))
  exact FW.ret ⟨.inl rfl, yx rfl rfl rfl rfl⟩
end Go.Proofs.Ythjplkjpehdpfaa
