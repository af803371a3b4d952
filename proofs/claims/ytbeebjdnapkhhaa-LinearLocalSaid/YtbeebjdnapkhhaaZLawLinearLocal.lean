/-
  simprooflaw21.LinearLocal answers true for every input (walked on plain values).
-/
import Derived.Test.YtbeebjdnapkhhaaZFmLOnly
namespace Go.Proofs.Ytbeebjdnapkhhaa
set_option linter.unusedVariables false
open Go.RowKit

def zbS (l : List OpV) (c : Int) (k : Nat) : List Bool := (List.range l.length).map fun i => decide (i < k) && decide ((nth l i).key = c)
theorem Yq (l : List OpV) (c : Int) (k : Nat) : (zbS l c k).length = l.length := by simp [zbS]
theorem We {l : List OpV} {c : Int} {k i : Nat} (hi : i < l.length) : nth (zbS l c k) i = (decide (i < k) && decide ((nth l i).key = c)) := by unfold zbS; rw [zg (by simpa using hi)]; simp
theorem zgG (l : List OpV) (c : Int) : zbS l c 0 = List.replicate l.length false := by
 refine zx (by simp [Yq]) fun i hi => ?_
 rw [Yq] at hi
 rw [We hi, zg (show i < (List.replicate l.length false).length by simpa using hi)]
 simp
theorem zgF {l : List OpV} {c : Int} {k : Nat} (hk : k < l.length) : zbS l c (k + 1) = (zbS l c k).set k (decide ((nth l k).key = c)) := by
 refine zx (by simp [Yq]) fun i hi => ?_
 rw [Yq] at hi
 rw [We hi, yN (by rw [Yq]; exact hi), We hi]
 by_cases e : k = i
 ·subst e; simp
 ·rw [if_neg e]
  congr 1
  exact decide_eq_decide.2 (by omega)
theorem zej (h : List OpV) (c : Int) : yZ h (zaa (zbS h c h.length) h.length) c where
 inc := List.pairwise_lt_range.sublist List.filter_sublist
 rng x hx := (zby.1 hx).1
 all i hi hk _ := zby.2 ⟨hi, by rw [We hi, decide_eq_true hk, decide_eq_true hi]; rfl⟩
theorem zgR {h : List OpV} (D : zU h) (hin : ∀ o ∈ h, VG o) (c : Int) : (zfg (YC h (zaa (zbS h c h.length) h.length))).cls = (YD h c).cls := by
 have K := zej h c
 have D' := K.dom D
 have hc := K.cls D hin
 have hall : ∀ i, i < (YC h (zaa (zbS h c h.length) h.length)).length → (nth (YC h (zaa (zbS h c h.length) h.length)) i).key = c := fun i hi => by
  rw [yF] at hi
  rw [yg hi]
  have := zby.1 (zy hi)
  rw [We this.1] at this
  simp only [Bool.and_eq_true, decide_eq_true_eq] at this
  exact this.2.2
 generalize YC h (zaa (zbS h c h.length) h.length) = h' at D' hc hall ⊢
 rw [zem.1]
 cases hv : zay h' with
 | none =>
  dsimp only
  rw [← hc]
  refine (Classical.byContradiction fun hne => ?_)
  have := (VB (l := h') D' (c := c)).2 ⟨fun e => hne e.symm, fun d hd => ?_⟩
  ·rw [hv] at this; cases this
  ·have hd' : d ∈ yB h' := Classical.byContradiction fun hno => hd (Vc.2 (Vr D' hno))
   obtain ⟨o, ho, hok⟩ := (xz h' d).1 hd'
   obtain ⟨j, hj, e⟩ := List.getElem_of_mem ho
   have := hall j hj
   rw [zg hj, e, hok] at this
   omega
 | some d =>
  dsimp only
  have hd := ((VB D').1 hv).1
  have hd' : d ∈ yB h' := Classical.byContradiction fun hno => hd (Vc.2 (Vr D' hno))
  obtain ⟨o, ho, hok⟩ := (xz h' d).1 hd'
  obtain ⟨j, hj, e⟩ := List.getElem_of_mem ho
  have := hall j hj
  rw [zg hj, e, hok] at this
  subst this
  exact hc
theorem zi3 {h : List OpV} (hf : zeH false h) (D : zU h) {d : Int} (hd : (YD h d).cls ≠ 0) : 0 ≤ d ∧ d ≤ 1 := by
 have hd' : d ∈ yB h := Classical.byContradiction fun hno => hd (Vc.2 (Vr D hno))
 obtain ⟨o, ho, hok⟩ := (xz h d).1 hd'
 rw [← hok]
 exact (hf.ops o ho).key
set_option maxHeartbeats 8000000 in
theorem Vm (l : List Int) (a0 a1 a2 b0 b1 b2 : Int) (hl : ∀ x ∈ l, I64 x) (hlen : l.length ≤ 9223372036854775807) (i0 : I64 a0) (i1 : I64 a1) (i2 : I64 a2) (j0 : I64 b0) (j1 : I64 b1) (j2 : I64 b2) : yd Try.prog 6 [.list 1 (l.map zE), .agg [.int .i64 a0, .int .i64 a1, .int .i64 a2], .agg [.int .i64 b0, .int .i64 b1, .int .i64 b2]] .fr (.bool true) := by
 obtain ⟨h, hh⟩ : ∃ h, zdf l a0 a1 a2 b0 b1 b2 = h := ⟨_, rfl⟩
 have hf := zeM l a0 a1 a2 b0 b1 b2
 have hB := zeN l a0 a1 a2 b0 b1 b2 hl hlen i0 i1 i2 j0 j1 j2
 rw [hh] at hf hB
 have hlen60 := hf.len
 have hin := hf.inn
 have hC := Zd h (by omega) hin
 have hE := zcz hf
 refine yd.of_body (c := (ZJ Try.prog zF zA 82)) ⟨Try.func6, rfl, Try.ntmps6, by kernel_rfl⟩ (by simp [FV.hand]) (by exact Nat.le_of_ble_eq_true rfl) rfl ?_
 change FW _ _ _ ⟨[(0, .list 1 (l.map zE)), (1, .agg [.int .i64 a0, .int .i64 a1, .int .i64 a2]), (2, .agg [.int .i64 b0, .int .i64 b1, .int .i64 b2])], []⟩
 by_cases D : zU h
 ·rw [if_pos D] at hE
  rw [hE, zif hf D] at hC
  have hlt2 := @zem h
  obtain ⟨V, hV⟩ : ∃ V, zfg h = V := ⟨_, rfl⟩
  rw [hV] at hC hlt2
  obtain ⟨vk, va, o, ed⟩ := V
  dsimp only [zjZ.fv] at hC hlt2
  (repeat (first | refine FW.seq ?_ | refine FW.region ?_ | refine zc.nil ?_ | refine XG rfl rfl rfl rfl rfl rfl rfl ?_ | refine za rfl rfl rfl ?_ | refine zb rfl rfl rfl ?_ | refine zL rfl rfl rfl (by decide) rfl rfl (by simp; done) rfl rfl rfl rfl ?_))
  refine zR hB (by repeat (first | exact zi.nil | refine zi.cons (by exact yh.plain rfl rfl) ?_)) (List.length_map _) rfl rfl rfl ?_
  refine zc.le ?_ (FLe.share 18 rfl rfl (List.length_map _).symm)
  (repeat (first | refine FW.seq ?_ | refine FW.region ?_ | refine zc.nil ?_ | refine za rfl rfl rfl ?_ | refine zb rfl rfl rfl ?_))
  refine xn hC (by repeat (first | exact zi.nil | refine zi.cons (by exact yh.plain rfl rfl) ?_)) rfl rfl ?_
  (repeat (first | refine FW.seq ?_ | refine FW.region ?_ | refine FW.block ?_ | refine FW.skip ?_ | refine FW.condF rfl ?_ | refine zc.nil ?_ | refine za rfl rfl rfl ?_ | refine zb rfl rfl rfl ?_ | refine zI rfl rfl rfl rfl rfl ?_ | refine zQ rfl rfl rfl rfl rfl rfl rfl ?_ | refine zB rfl rfl rfl rfl rfl rfl rfl rfl rfl ?_ | refine Yz rfl rfl rfl rfl ?_))
  refine FW.loop (fun k : Nat => ⟨[(7, .list 8 (h.map OpV.fv)), (8, .ptr 101 0 0 0), (10, .int .i64 k)], [(101, ⟨0, .own, 30, 5, [[.int .i64 2, .int .i64 vk, .int .i64 va, .list 1 (o.map ye), .list 3 (ed.map rtf)]]⟩)]⟩) (fun k => k ≤ 2 ∧ ∀ d : Nat, d < k → (YD h (d : Int)).cls = 0) (fun k => 2 - k) 0 ⟨by omega, fun d hd => by omega⟩ ?_ ?_
  ·exact (FLe.conv [⟨101, some 8, 0 + 1, ⟨0, .own, 30, 5, [[.int .i64 2, .int .i64 vk, .int .i64 va, .list 1 (o.map ye), .list 3 (ed.map rtf)]]⟩⟩] (by simp) (by simp) rfl (by repeat (first | exact .nil | refine .low rfl ?_)) (by repeat (first | exact .nil | refine .old rfl (by decide) rfl ?_)) (by repeat (first | exact .nil | refine .cons (.plain rfl rfl rfl) ?_ | refine .cons (.ptr rfl (.head _) rfl) ?_)))
  rintro k ⟨hk2, hno⟩
  (repeat (first | refine FW.seq ?_ | refine FW.region ?_ | refine zc.nil ?_ | refine zb rfl rfl rfl ?_ | refine zH rfl rfl rfl rfl ?_))
  refine FW.cond rfl (fun hc => ?_) (fun hc => ?_)
  ·have hk : k < 2 := by
    have := of_decide_eq_true hc
    omega
   clear hc
   have hsub := zil h (zbS h (k : Int) h.length)
   have hOn := zfe h (zbS h (k : Int) h.length) (by omega) (Yq _ _ _)
   have hD' := (zej h (k : Int)).dom D
   have hpv := zgR D hin (k : Int)
   obtain ⟨h', hh'⟩ : ∃ h', YC h (zaa (zbS h (k : Int) h.length) h.length) = h' := ⟨_, rfl⟩
   rw [hh'] at hsub hOn hD' hpv
   have hin' : ∀ o ∈ h', VG o := fun o ho => hin o (hsub.subset ho)
   have hl' : h'.length ≤ h.length := hsub.length_le
   have hC' := Zd h' (by omega) hin'
   have hE' : zbT h' = 0 := by
    unfold zbT
    rw [if_neg (by simp [(hf.wf.sub hsub).check]), if_pos hD']
   have hF' : zfO h' = (zfg h').fv := by unfold zfO; rw [hE', if_neg (by decide)]
   rw [hE', hF'] at hC'
   obtain ⟨V', hV'⟩ : ∃ V', zfg h' = V' := ⟨_, rfl⟩
   rw [hV'] at hC' hpv
   obtain ⟨k', a', o', ed'⟩ := V'
   dsimp only [zjZ.fv] at hC' hpv
   have hyes : k' ≠ 0 → vk = k' ∧ va = k := fun hne => by
    have hvk : zay h = some (k : Int) := (VB D).2 ⟨by rw [← hpv]; exact hne, fun d hd => by
     have h01 := zi3 hf D hd
     refine Int.not_lt.1 fun hlt => hd ?_
     have := hno d.toNat (by omega)
     rw [show ((d.toNat : Nat) : Int) = d by omega] at this
     exact this⟩
    rw [hvk] at hlt2
    exact ⟨by rw [hlt2.1, hpv], hlt2.2⟩
   have hnext : k' = 0 → ∀ d : Nat, d < k + 1 → (YD h (d : Int)).cls = 0 := fun h0 d hd => by
    by_cases e : d = k
    ·rw [e, ← hpv]; exact h0
    ·exact hno d (by omega)
   (repeat (first | refine FW.seq ?_ | refine FW.region ?_ | refine FW.block ?_ | refine FW.skip ?_ | refine zc.nil ?_ | refine za rfl rfl rfl ?_ | refine zb rfl rfl rfl ?_ | refine zw rfl rfl (by first | exact List.length_map _ | rfl | omega) rfl rfl ?_ | refine WP rfl rfl rfl rfl rfl rfl rfl rfl (by omega) (by omega) rfl rfl rfl ?_))
   refine FW.loop (fun i : Nat => ⟨[(7, .list 8 (h.map OpV.fv)), (8, .ptr 101 0 0 0), (10, .int .i64 k), (11, .own 102 0 0 h.length), (12, .int .i64 i)], [(101, ⟨0, .own, 30, 5, [[.int .i64 2, .int .i64 vk, .int .i64 va, .list 1 (o.map ye), .list 3 (ed.map rtf)]]⟩), (102, ⟨0, .own, 4, 1, (zbS h (k : Int) i).map bof⟩)]⟩) (fun i => i ≤ h.length) (fun i => h.length - i) 0 (Nat.zero_le _) ?_ ?_
   ·rw [zgG, List.map_replicate]
    exact (FLe.conv [⟨101, some 101, 0, ⟨0, .own, 30, 5, [[.int .i64 2, .int .i64 vk, .int .i64 va, .list 1 (o.map ye), .list 3 (ed.map rtf)]]⟩⟩, ⟨102, some 33, 0 + 1, ⟨0, .own, 4, 1, List.replicate h.length (bof false)⟩⟩] (by simp) (by simp) rfl (by repeat (first | exact .nil | refine .low rfl ?_)) (by repeat (first | exact .nil | refine .old rfl (by decide) rfl ?_)) (by repeat (first | exact .nil | refine .cons (.plain rfl rfl rfl) ?_ | refine .cons (.ptr rfl (.head _) rfl) ?_ | refine .cons (.own rfl (.tail _ (.head _)) rfl rfl) ?_)))
   intro i hi
   have hsl := Yq h (k : Int) i
   have hss := fun hk => zgF (l := h) (c := (k : Int)) (k := i) hk
   (repeat (first | refine FW.seq ?_ | refine FW.region ?_ | refine zc.nil ?_ | refine zb rfl rfl rfl ?_ | refine zH rfl rfl rfl rfl ?_ | refine zw rfl rfl (by exact List.length_map _) rfl rfl ?_))
   refine FW.cond rfl (fun hc => ?_) (fun hc => ?_)
   ·have hlt : i < h.length := by simpa using hc
    have hss := hss hlt
    generalize zbS h (k : Int) i = S at hsl hss ⊢
    (repeat (first | refine FW.seq ?_ | refine FW.region ?_ | refine FW.block ?_ | refine FW.skip ?_ | refine zc.nil ?_ | refine za rfl rfl rfl ?_ | refine zb rfl rfl rfl ?_ | refine zD rfl rfl rfl (by first | omega | (simp; omega)) (by first | exact zd (by omega) | rfl) rfl rfl rfl rfl ?_ | refine zS rfl rfl rfl rfl rfl rfl (by first | omega | (simp; omega)) (by first | exact zd (by omega) | rfl) rfl rfl rfl ?_ | refine zC rfl rfl rfl rfl rfl rfl (by first | omega | (simp; omega)) rfl rfl ?_ | refine zt rfl rfl rfl rfl rfl rfl (by decide) rfl (by first | omega | (simp; omega)) rfl rfl ?_ | refine yS rfl rfl rfl rfl rfl rfl rfl ?_ | refine yy rfl rfl rfl rfl ?_ | refine zu rfl rfl (by omega) rfl rfl ?_))
    refine ⟨i + 1, by omega, by omega, ?_⟩
    rw [hss, List.map_set]
    exact (FLe.conv [⟨101, some 101, 0, ⟨0, .own, 30, 5, [[.int .i64 2, .int .i64 vk, .int .i64 va, .list 1 (o.map ye), .list 3 (ed.map rtf)]]⟩⟩, ⟨102, some 102, 0, ⟨0, .own, 4, 1, (S.map bof).set i (bof (decide ((nth h i).key = (k : Int))))⟩⟩] (by simp) (by simp) rfl (by repeat (first | exact .nil | refine .low rfl ?_)) (by repeat (first | exact .nil | refine .old rfl (by decide) rfl ?_)) (by repeat (first | exact .nil | refine .cons (.plain rfl rfl rfl) ?_ | refine .cons (.ptr rfl (.head _) rfl) ?_ | refine .cons (.own rfl (.tail _ (.head _)) rfl rfl) ?_)))
   ·obtain rfl : i = h.length := by simp at hc; omega
    generalize zbS h (k : Int) h.length = S at hsl hOn ⊢
    (repeat (first | refine FW.seq ?_ | refine FW.region ?_ | refine FW.exit ?_ | refine zb rfl rfl rfl ?_))
    refine zR hOn (by repeat (first | exact zi.nil | refine zi.cons (by first | exact yh.plain rfl rfl | exact yh.own rfl rfl (by decide) (by first | exact (fun _ => rfl) | (intro h; cases h)) (by first | rfl | (simp; done) | (congr 1; omega) | (simp; omega) | (simp [List.take_of_length_le]; done) | (refine congrArg (FV.int .i64) ?_; omega))) ?_)) (List.length_map _) rfl rfl rfl ?_
    refine zc.le ?_ (FLe.share 53 rfl rfl (List.length_map _).symm)
    refine xn hC' (by repeat (first | exact zi.nil | refine zi.cons (by exact yh.plain rfl rfl) ?_)) rfl rfl ?_
    (repeat (first | refine FW.seq ?_ | refine FW.region ?_ | refine FW.skip ?_ | refine FW.condF rfl ?_ | refine zc.nil ?_ | refine za rfl rfl rfl ?_ | refine zb rfl rfl rfl ?_ | refine zm rfl rfl rfl rfl rfl (by simp; done) rfl rfl rfl rfl rfl ?_ | refine zI rfl rfl rfl rfl rfl ?_ | refine zQ rfl rfl rfl rfl rfl rfl rfl ?_ | refine zB rfl rfl rfl rfl rfl rfl rfl rfl rfl ?_ | refine Yz rfl rfl rfl rfl ?_ | refine zj rfl rfl rfl rfl rfl rfl (by decide) rfl rfl ?_))
    refine FW.cond rfl (fun hc => ?_) (fun hc => ?_)
    ·obtain ⟨rfl, rfl⟩ := hyes (by simpa using hc)
     (repeat (first | refine FW.seq ?_ | refine FW.region ?_ | refine zb rfl rfl rfl ?_ | refine zm rfl rfl rfl rfl rfl (by simp; done) rfl rfl rfl rfl rfl ?_ | refine zj rfl rfl rfl rfl rfl rfl (by decide) rfl rfl ?_ | refine yy rfl rfl rfl rfl ?_))
     rw [show decide (vk = vk) = true from decide_eq_true rfl]
     (repeat (first | refine zb rfl rfl rfl ?_ | refine zK rfl rfl rfl rfl ?_ | refine zj rfl rfl rfl rfl rfl rfl (by decide) rfl ⟨_, _, rfl, rfl, rfl⟩ ?_ | refine zm rfl rfl rfl rfl rfl (by simp; done) rfl rfl rfl rfl ⟨_, _, rfl, rfl, rfl⟩ ?_ | refine zb rfl rfl ⟨_, _, rfl, rfl, rfl⟩ ?_ | refine yy rfl rfl rfl ⟨_, _, rfl, rfl, rfl⟩ ?_))
     rw [show decide ((k : Int) = k) = true from decide_eq_true rfl]
     skip
     refine zM YS (by repeat (first | exact zi.nil)) rfl ⟨_, _, rfl, rfl, rfl⟩ ?_
     (repeat (first | refine zc.nil ?_ | refine za rfl rfl rfl ?_ | refine zK rfl rfl rfl rfl ?_))
     refine FW.ret ⟨.inl rfl, zZ rfl rfl rfl rfl⟩
    ·(repeat (first | refine FW.region ?_ | refine FW.skip ?_ | refine zc.nil ?_ | refine za rfl rfl rfl ?_ | refine zb rfl rfl rfl ?_ | refine zu rfl rfl (by omega) rfl rfl ?_))
     exact ⟨k + 1, ⟨by omega, hnext (by simpa using hc)⟩, by omega, (FLe.conv [⟨101, some 101, 0, ⟨0, .own, 30, 5, [[.int .i64 2, .int .i64 vk, .int .i64 va, .list 1 (o.map ye), .list 3 (ed.map rtf)]]⟩⟩] (by simp) (by simp) rfl (by repeat (first | exact .nil | refine .low rfl ?_)) (by repeat (first | exact .nil | refine .old rfl (by decide) rfl ?_)) (by repeat (first | exact .nil | refine .cons (.plain rfl rfl rfl) ?_ | refine .cons (.ptr rfl (.head _) rfl) ?_)))⟩
  ·have hk : k = 2 := by
    have := of_decide_eq_false hc
    omega
   subst hk
   have hvk : vk = 0 := by
    cases hv : zay h with
    | none => rw [hv] at hlt2; exact hlt2.1
    | some d =>
     have hd := ((VB D).1 hv).1
     have h01 := zi3 hf D hd
     have := hno d.toNat (by omega)
     rw [show ((d.toNat : Nat) : Int) = d by omega] at this
     exact absurd this hd
   subst hvk
   (repeat (first | refine FW.seq ?_ | refine FW.region ?_ | refine FW.exit ?_ | refine zb rfl rfl rfl ?_ | refine zm rfl rfl rfl rfl rfl (by simp; done) rfl rfl rfl rfl rfl ?_ | refine zj rfl rfl rfl rfl rfl rfl (by decide) rfl rfl ?_ | refine yy rfl rfl rfl rfl ?_))
   refine zM YS (by repeat (first | exact zi.nil)) rfl ⟨_, _, rfl, rfl, rfl⟩ ?_
   (repeat (first | refine zc.nil ?_ | refine za rfl rfl rfl ?_ | refine zK rfl rfl rfl rfl ?_))
   refine FW.ret ⟨.inl rfl, zZ rfl rfl rfl rfl⟩
 ·rw [if_neg D] at hE
  rw [hE, show zfO h = noV by unfold zfO; rw [hE, if_pos (by decide)]] at hC
  unfold noV at hC
  (repeat (first | refine FW.seq ?_ | refine FW.region ?_ | refine zc.nil ?_ | refine XG rfl rfl rfl rfl rfl rfl rfl ?_ | refine za rfl rfl rfl ?_ | refine zb rfl rfl rfl ?_ | refine zL rfl rfl rfl (by decide) rfl rfl (by simp; done) rfl rfl rfl rfl ?_))
  refine zR hB (by repeat (first | exact zi.nil | refine zi.cons (by exact yh.plain rfl rfl) ?_)) (List.length_map _) rfl rfl rfl ?_
  refine zc.le ?_ (FLe.share 18 rfl rfl (List.length_map _).symm)
  (repeat (first | refine FW.seq ?_ | refine FW.region ?_ | refine zc.nil ?_ | refine za rfl rfl rfl ?_ | refine zb rfl rfl rfl ?_))
  refine xn hC (by repeat (first | exact zi.nil | refine zi.cons (by exact yh.plain rfl rfl) ?_)) rfl rfl ?_
  (repeat (first | refine FW.seq ?_ | refine FW.region ?_ | refine FW.condT rfl ?_ | refine zc.nil ?_ | refine za rfl rfl rfl ?_ | refine zb rfl rfl rfl ?_ | refine zI rfl rfl rfl rfl rfl ?_ | refine zQ rfl rfl rfl rfl rfl rfl rfl ?_ | refine zB rfl rfl rfl rfl rfl rfl rfl rfl rfl ?_ | refine Yz rfl rfl rfl rfl ?_))
  refine zM YS (by repeat (first | exact zi.nil)) rfl rfl ?_
  (repeat (first | refine zc.nil ?_ | refine za rfl rfl rfl ?_))
  refine FW.ret ⟨.inl rfl, zZ rfl rfl rfl rfl⟩
end Go.Proofs.Ytbeebjdnapkhhaa
