/-
  simprooflaw21.LinearIncluded answers true for every input (walked on plain values).
-/
import Derived.Test.YtbeebjdnapkhhaaZFmLOnly
namespace Go.Proofs.Ytbeebjdnapkhhaa
set_option linter.unusedVariables false
open Go.RowKit

def Wh (l : List OpV) (k : Nat) : List Bool := (List.range l.length).map fun i => decide (i < k) && zR l i
theorem Zt (l : List OpV) (k : Nat) : (Wh l k).length = l.length := by simp [Wh]
theorem Wi {l : List OpV} {k i : Nat} (hi : i < l.length) : nth (Wh l k) i = (decide (i < k) && zR l i) := by unfold Wh; rw [zg (by simpa using hi)]; simp
theorem zfe (l : List OpV) : Wh l 0 = List.replicate l.length false := by
 refine zx (by simp [Zt]) fun i hi => ?_
 rw [Zt] at hi
 rw [Wi hi, zg (show i < (List.replicate l.length false).length by simpa using hi)]
 simp
theorem zfd {l : List OpV} {k : Nat} (hk : k < l.length) : Wh l (k + 1) = (Wh l k).set k (zR l k) := by
 refine zx (by simp [Zt]) fun i hi => ?_
 rw [Zt] at hi
 rw [Wi hi, yO (by rw [Zt]; exact hi), Wi hi]
 by_cases e : k = i
 ·subst e; simp
 ·rw [if_neg e]
  congr 1
  exact decide_eq_decide.2 (by omega)
theorem zgC (h : List OpV) (c : Int) : xa h (zbU (Wh h h.length) h.length) c where
 inc := List.pairwise_lt_range.sublist List.filter_sublist
 rng x hx := (zew.1 hx).1
 all i hi _ hc := zew.2 ⟨hi, by rw [Wi hi, hc, decide_eq_true hi]; rfl⟩
set_option maxHeartbeats 8000000 in
theorem XH (l : List Int) (a0 a1 a2 b0 b1 b2 : Int) (hl : ∀ x ∈ l, I64 x) (hlen : l.length ≤ 9223372036854775807) (i0 : I64 a0) (i1 : I64 a1) (i2 : I64 a2) (j0 : I64 b0) (j1 : I64 b1) (j2 : I64 b2) : yd Try.prog 7 [.list 1 (l.map zE), .agg [.int .i64 a0, .int .i64 a1, .int .i64 a2], .agg [.int .i64 b0, .int .i64 b1, .int .i64 b2]] .fr (.bool true) := by
 obtain ⟨h, hh⟩ : ∃ h, zdi l a0 a1 a2 b0 b1 b2 = h := ⟨_, rfl⟩
 have hf := zeN l a0 a1 a2 b0 b1 b2
 have hB := zeO l a0 a1 a2 b0 b1 b2 hl hlen i0 i1 i2 j0 j1 j2
 rw [hh] at hf hB
 have hlen60 := hf.len
 have hin := hf.inn
 have hC := Zd h (by omega) hin
 have hE := zcA hf
 refine yd.of_body (c := (ZD Try.prog zF zy 67)) ⟨Try.func7, rfl, Try.ntmps7, by kernel_rfl⟩ (by simp [FV.hand]) (by exact Nat.le_of_ble_eq_true rfl) rfl ?_
 change FW _ _ _ ⟨[(0, .list 1 (l.map zE)), (1, .agg [.int .i64 a0, .int .i64 a1, .int .i64 a2]), (2, .agg [.int .i64 b0, .int .i64 b1, .int .i64 b2])], []⟩
 by_cases D : zX h
 ·rw [if_pos D] at hE
  rw [hE, zig hf D] at hC
  have hK := zgC h
  have hsub := zim h (Wh h h.length)
  have hOn := zfh h (Wh h h.length) (by omega) (Zt _ _)
  have hD' := (hK 0).dom D
  have hvk := zjL D hD' fun c => (hK c).cls D hin
  have hcc := fun c => (hK c).cls D hin
  obtain ⟨h', hh'⟩ : ∃ h', Xt h (zbU (Wh h h.length) h.length) = h' := ⟨_, rfl⟩
  rw [hh'] at hsub hOn hD' hvk
  simp only [hh'] at hcc
  have hin' : ∀ o ∈ h', zaf o := fun o ho => hin o (hsub.subset ho)
  have hl' : h'.length ≤ h.length := hsub.length_le
  have hC' := Zd h' (by omega) hin'
  have hE' : zbT h' = 0 := by
   unfold zbT
   rw [if_neg (by simp [(hf.wf.sub hsub).check]), if_pos hD']
  have hF' : zfR h' = (zda h').fv := by unfold zfR; rw [hE', if_neg (by decide)]
  rw [hE', hF'] at hC'
  have hv2 : (zda h').cls = (zda h).cls ∧ (zda h').arg = (zda h).arg := by
   rw [VA.1, VA.1, VA.2, VA.2, hvk]
   cases UZ h with
   | none => exact ⟨rfl, rfl⟩
   | some c => exact ⟨hcc c, rfl⟩
  obtain ⟨V, hV⟩ : ∃ V, zda h = V := ⟨_, rfl⟩
  obtain ⟨V', hV'⟩ : ∃ V', zda h' = V' := ⟨_, rfl⟩
  rw [hV] at hC hv2
  rw [hV'] at hC' hv2
  obtain ⟨k, a, o, ed⟩ := V
  obtain ⟨k', a', o', ed'⟩ := V'
  dsimp only [zkA.fv] at hC hC' hv2
  obtain ⟨rfl, rfl⟩ := hv2
  have his := fun i hi => zaB h i (by omega) hi
  (repeat (first | refine FW.seq ?_ | refine FW.region ?_ | refine zc.nil ?_ | refine XK rfl rfl rfl rfl rfl rfl rfl ?_ | refine za rfl rfl rfl ?_ | refine zb rfl rfl rfl ?_ | refine zL rfl rfl rfl (by decide) rfl rfl (by simp; done) rfl rfl rfl rfl ?_))
  refine zU hB (by repeat (first | exact zi.nil | refine zi.cons (by exact ym.plain rfl rfl) ?_)) (List.length_map _) rfl rfl rfl ?_
  refine zc.le ?_ (FLe.share 17 rfl rfl (List.length_map _).symm)
  (repeat (first | refine FW.seq ?_ | refine FW.region ?_ | refine zc.nil ?_ | refine za rfl rfl rfl ?_ | refine zb rfl rfl rfl ?_))
  refine xn hC (by repeat (first | exact zi.nil | refine zi.cons (by exact ym.plain rfl rfl) ?_)) rfl rfl ?_
  (repeat (first | refine FW.seq ?_ | refine FW.region ?_ | refine FW.block ?_ | refine FW.skip ?_ | refine FW.condF rfl ?_ | refine zc.nil ?_ | refine za rfl rfl rfl ?_ | refine zb rfl rfl rfl ?_ | refine zI rfl rfl rfl rfl rfl ?_ | refine zT rfl rfl rfl rfl rfl rfl rfl ?_ | refine zB rfl rfl rfl rfl rfl rfl rfl rfl rfl ?_ | refine YA rfl rfl rfl rfl ?_ | refine zw rfl rfl (by first | exact List.length_map _ | rfl | omega) rfl rfl ?_ | refine WU rfl rfl rfl rfl rfl rfl rfl rfl (by omega) (by omega) rfl rfl rfl ?_))
  refine FW.loop (fun i : Nat => ⟨[(7, .list 8 (h.map OpV.fv)), (8, .ptr 101 0 0 0), (10, .own 102 0 0 h.length), (11, .int .i64 i)], [(101, ⟨0, .own, 30, 5, [[.int .i64 2, .int .i64 k', .int .i64 a', .list 1 (o.map yg), .list 3 (ed.map rtf)]]⟩), (102, ⟨0, .own, 4, 1, (Wh h i).map bof⟩)]⟩) (fun i => i ≤ h.length) (fun i => h.length - i) 0 (Nat.zero_le _) ?_ ?_
  ·rw [zfe, List.map_replicate]
   exact (FLe.conv [⟨101, some 8, 0 + 1, ⟨0, .own, 30, 5, [[.int .i64 2, .int .i64 k', .int .i64 a', .list 1 (o.map yg), .list 3 (ed.map rtf)]]⟩⟩, ⟨102, some 28, 0 + 1, ⟨0, .own, 4, 1, List.replicate h.length (bof false)⟩⟩] (by simp) (by simp) rfl (by repeat (first | exact .nil | refine .low rfl ?_)) (by repeat (first | exact .nil | refine .old rfl (by decide) rfl ?_)) (by repeat (first | exact .nil | refine .cons (.plain rfl rfl rfl) ?_ | refine .cons (.ptr rfl (.head _) rfl) ?_ | refine .cons (.own rfl (.tail _ (.head _)) rfl rfl) ?_)))
  intro i hi
  have hsl := Zt h i
  have hss := fun hk => zfd (l := h) (k := i) hk
  (repeat (first | refine FW.seq ?_ | refine FW.region ?_ | refine zc.nil ?_ | refine zb rfl rfl rfl ?_ | refine zw rfl rfl (by exact List.length_map _) rfl rfl ?_ | refine zH rfl rfl rfl rfl ?_))
  refine FW.cond rfl (fun hc => ?_) (fun hc => ?_)
  ·have hlt : i < h.length := by simpa using hc
   have his := his i hlt
   have hss := hss hlt
   generalize Wh h i = S at hsl hss ⊢
   (repeat (first | refine FW.seq ?_ | refine FW.region ?_ | refine FW.block ?_ | refine FW.skip ?_ | refine zb rfl rfl rfl ?_))
   refine zM his (by repeat (first | exact zi.nil | refine zi.cons (by exact ym.plain rfl rfl) ?_)) rfl rfl ?_
   (repeat (first | refine FW.region ?_ | refine zc.nil ?_ | refine za rfl rfl rfl ?_ | refine zb rfl rfl rfl ?_ | refine zV rfl rfl rfl rfl rfl rfl (by first | omega | (simp; omega)) (by first | exact zd (by omega) | rfl) rfl rfl rfl ?_ | refine zu rfl rfl rfl rfl rfl rfl (by decide) rfl (by first | omega | (simp; omega)) rfl rfl ?_ | refine zt rfl rfl (by omega) rfl rfl ?_))
   refine ⟨i + 1, by omega, by omega, ?_⟩
   rw [hss, List.map_set]
   exact (FLe.conv [⟨101, some 101, 0, ⟨0, .own, 30, 5, [[.int .i64 2, .int .i64 k', .int .i64 a', .list 1 (o.map yg), .list 3 (ed.map rtf)]]⟩⟩, ⟨102, some 102, 0, ⟨0, .own, 4, 1, (S.map bof).set i (bof (zR h i))⟩⟩] (by simp) (by simp) rfl (by repeat (first | exact .nil | refine .low rfl ?_)) (by repeat (first | exact .nil | refine .old rfl (by decide) rfl ?_)) (by repeat (first | exact .nil | refine .cons (.plain rfl rfl rfl) ?_ | refine .cons (.ptr rfl (.head _) rfl) ?_ | refine .cons (.own rfl (.tail _ (.head _)) rfl rfl) ?_)))
  ·obtain rfl : i = h.length := by simp at hc; omega
   generalize Wh h h.length = S at hsl hOn ⊢
   (repeat (first | refine FW.seq ?_ | refine FW.region ?_ | refine FW.exit ?_ | refine zb rfl rfl rfl ?_))
   refine zU hOn (by repeat (first | exact zi.nil | refine zi.cons (by first | exact ym.plain rfl rfl | exact ym.own rfl rfl (by decide) (by first | exact (fun _ => rfl) | (intro h; cases h)) (by first | rfl | (simp; done) | (congr 1; omega) | (simp; omega) | (simp [List.take_of_length_le]; done) | (refine congrArg (FV.int .i64) ?_; omega))) ?_)) (List.length_map _) rfl rfl rfl ?_
   refine zc.le ?_ (FLe.share 44 rfl rfl (List.length_map _).symm)
   refine xn hC' (by repeat (first | exact zi.nil | refine zi.cons (by exact ym.plain rfl rfl) ?_)) rfl rfl ?_
   (repeat (first | refine FW.seq ?_ | refine FW.region ?_ | refine zc.nil ?_ | refine za rfl rfl rfl ?_ | refine zb rfl rfl rfl ?_ | refine zI rfl rfl rfl rfl rfl ?_ | refine zT rfl rfl rfl rfl rfl rfl rfl ?_ | refine zB rfl rfl rfl rfl rfl rfl rfl rfl rfl ?_ | refine yH rfl rfl rfl rfl ?_ | refine zK rfl rfl rfl rfl ?_ | refine zm rfl rfl rfl rfl rfl rfl (by decide) rfl ⟨_, _, rfl, rfl, rfl⟩ ?_ | refine zn rfl rfl rfl rfl rfl (by simp; done) rfl rfl rfl rfl ⟨_, _, rfl, rfl, rfl⟩ ?_ | refine yH rfl rfl rfl ⟨_, _, rfl, rfl, rfl⟩ ?_))
   rw [show decide (k' = k') = true from decide_eq_true rfl]
   (repeat (first | refine zb rfl rfl rfl ?_ | refine zK rfl rfl rfl rfl ?_ | refine zm rfl rfl rfl rfl rfl rfl (by decide) rfl ⟨_, _, rfl, rfl, rfl⟩ ?_ | refine zn rfl rfl rfl rfl rfl (by simp; done) rfl rfl rfl rfl ⟨_, _, rfl, rfl, rfl⟩ ?_ | refine yH rfl rfl rfl ⟨_, _, rfl, rfl, rfl⟩ ?_))
   rw [show decide (a' = a') = true from decide_eq_true rfl]
   skip
   refine zM Vf (by repeat (first | exact zi.nil)) rfl ⟨_, _, rfl, rfl, rfl⟩ ?_
   (repeat (first | refine zc.nil ?_ | refine za rfl rfl rfl ?_ | refine zK rfl rfl rfl rfl ?_))
   refine FW.ret ⟨.inl rfl, zQ rfl rfl rfl rfl⟩
 ·rw [if_neg D] at hE
  rw [hE, show zfR h = noV by unfold zfR; rw [hE, if_pos (by decide)]] at hC
  unfold noV at hC
  (repeat (first | refine FW.seq ?_ | refine FW.region ?_ | refine zc.nil ?_ | refine XK rfl rfl rfl rfl rfl rfl rfl ?_ | refine za rfl rfl rfl ?_ | refine zb rfl rfl rfl ?_ | refine zL rfl rfl rfl (by decide) rfl rfl (by simp; done) rfl rfl rfl rfl ?_))
  refine zU hB (by repeat (first | exact zi.nil | refine zi.cons (by exact ym.plain rfl rfl) ?_)) (List.length_map _) rfl rfl rfl ?_
  refine zc.le ?_ (FLe.share 17 rfl rfl (List.length_map _).symm)
  (repeat (first | refine FW.seq ?_ | refine FW.region ?_ | refine zc.nil ?_ | refine za rfl rfl rfl ?_ | refine zb rfl rfl rfl ?_))
  refine xn hC (by repeat (first | exact zi.nil | refine zi.cons (by exact ym.plain rfl rfl) ?_)) rfl rfl ?_
  (repeat (first | refine FW.seq ?_ | refine FW.region ?_ | refine FW.condT rfl ?_ | refine zc.nil ?_ | refine za rfl rfl rfl ?_ | refine zb rfl rfl rfl ?_ | refine zI rfl rfl rfl rfl rfl ?_ | refine zT rfl rfl rfl rfl rfl rfl rfl ?_ | refine zB rfl rfl rfl rfl rfl rfl rfl rfl rfl ?_ | refine YA rfl rfl rfl rfl ?_))
  refine zM Vf (by repeat (first | exact zi.nil)) rfl rfl ?_
  (repeat (first | refine zc.nil ?_ | refine za rfl rfl rfl ?_))
  refine FW.ret ⟨.inl rfl, zQ rfl rfl rfl rfl⟩
end Go.Proofs.Ytbeebjdnapkhhaa
