/-
  Functions of package linear, at plain values: the ends of a cluster, the conflict of two.
-/
import Derived.Test.YtbeebjdnapkhhaaZFmLin1
namespace Go.Proofs.Ytbeebjdnapkhhaa
set_option linter.unusedVariables false
open Go.RowKit

def natf (i : Nat) : List FV := [.int .i64 (i : Int)]
structure ClV where
 ini : Bool
 ops : List Nat
 deriving DecidableEq, Inhabited
def ClV.fv (c : ClV) : List FV := [.bool c.ini, .list 1 (c.ops.map natf)]
def backL (o : OpV) : Int := if o.done then o.ret else 9223372036854775807
theorem ends1_spec (l : List OpV) (i : Nat) (hi : i < l.length) : Spec Try.prog 87 ([.int .i64 i] ++ [.eptr 1 [[.list 8 (l.map OpV.fv)]] 0 0]) .fr (.int .i64 (backL (nth l i))) := by
 obtain ⟨o, ho⟩ : ∃ o, nth l i = o := ⟨_, rfl⟩
 rw [ho]
 refine Spec.of_body (c := (cxOf Try.prog tyAt_ok mixed_ok 15)) ⟨Try.func87, rfl, Try.ntmps87, by kernel_rfl⟩ (by simp [FV.hand]) (by exact Nat.le_of_ble_eq_true rfl) rfl ?_
 change FW _ _ _ ⟨[(0, .int .i64 i), (1, .eptr 1 [[.list 8 (l.map OpV.fv)]] 0 0)], []⟩
 (repeat (first | refine FW.seq ?_ | refine FW.region ?_ | refine RunN.nil ?_ | refine rn_assign rfl rfl rfl ?_ | refine rn_loadE rfl rfl rfl (by first | (simp; omega) | (simp; done)) (by first | exact getD_map (by omega) | rfl) rfl rfl rfl rfl ?_ | refine rn_move rfl rfl rfl ?_ | refine rn_indexL rfl rfl rfl rfl rfl rfl (by first | (simp; omega) | (simp; done)) rfl rfl ?_ | refine rn_fieldE rfl rfl rfl rfl rfl rfl rfl ?_ | refine rn_not rfl rfl rfl ?_))
 rw [ho]
 skip
 refine FW.cond rfl (fun h => ?_) (fun h => ?_)
 ·have h : o.done = false := by simpa using h
  have : backL o = 9223372036854775807 := by unfold backL; rw [h]; rfl
  rw [this]
  (repeat (first | refine FW.seq ?_ | refine FW.region ?_ | refine RunN.nil ?_ | refine rn_assign rfl rfl rfl ?_))
  exact FW.ret ⟨.inl rfl, ret_flat rfl rfl rfl rfl⟩
 ·have h : o.done = true := by simpa using h
  have : backL o = o.ret := by unfold backL; rw [h]; rfl
  rw [this]
  (repeat (first | refine FW.seq ?_ | refine FW.region ?_ | refine FW.skip ?_ | refine RunN.nil ?_ | refine rn_assign rfl rfl rfl ?_ | refine rn_loadE rfl rfl rfl (by first | (simp; omega) | (simp; done)) (by first | exact getD_map (by omega) | rfl) rfl rfl rfl rfl ?_ | refine rn_move rfl rfl rfl ?_ | refine rn_indexL rfl rfl rfl rfl rfl rfl (by first | (simp; omega) | (simp; done)) rfl rfl ?_ | refine rn_fieldE rfl rfl rfl rfl rfl rfl rfl ?_))
  rw [ho]
  skip
  exact FW.ret ⟨.inl rfl, ret_flat rfl rfl rfl rfl⟩

def fstS (l : List OpV) (b i : Nat) : Nat := if backL (nth l i) < backL (nth l b) then i else b
def lstS (l : List OpV) (b i : Nat) : Nat := if (nth l b).call < (nth l i).call then i else b
def fstOp (l : List OpV) (c : List Nat) : Nat := c.foldl (fstS l) (nth c 0)
def lstOp (l : List OpV) (c : List Nat) : Nat := c.foldl (lstS l) (nth c 0)
def fstTo (l : List OpV) (c : List Nat) (k : Nat) : Nat := (c.take k).foldl (fstS l) (nth c 0)
def lstTo (l : List OpV) (c : List Nat) (k : Nat) : Nat := (c.take k).foldl (lstS l) (nth c 0)
theorem fstTo_succ {l : List OpV} {c : List Nat} {k : Nat} (h : k < c.length) : fstTo l c (k + 1) = fstS l (fstTo l c k) (nth c k) := by
 unfold fstTo; rw [List.take_succ_eq_append_getElem h, List.foldl_append, nth_eq h]; rfl
theorem lstTo_succ {l : List OpV} {c : List Nat} {k : Nat} (h : k < c.length) : lstTo l c (k + 1) = lstS l (lstTo l c k) (nth c k) := by
 unfold lstTo; rw [List.take_succ_eq_append_getElem h, List.foldl_append, nth_eq h]; rfl
theorem fstTo_mem {l : List OpV} {c : List Nat} (h0 : 0 < c.length) : ∀ {k : Nat}, k ≤ c.length → fstTo l c k ∈ c
 | 0, _ => nth_mem h0
 | k + 1, hk => by
  rw [fstTo_succ (by omega)]
  unfold fstS
  split
  ·exact nth_mem (by omega)
  ·exact fstTo_mem h0 (by omega)
theorem lstTo_mem {l : List OpV} {c : List Nat} (h0 : 0 < c.length) : ∀ {k : Nat}, k ≤ c.length → lstTo l c k ∈ c
 | 0, _ => nth_mem h0
 | k + 1, hk => by
  rw [lstTo_succ (by omega)]
  unfold lstS
  split
  ·exact nth_mem (by omega)
  ·exact lstTo_mem h0 (by omega)
theorem fstTo_all (l : List OpV) (c : List Nat) : fstTo l c c.length = fstOp l c := by unfold fstTo fstOp; rw [List.take_length]
theorem lstTo_all (l : List OpV) (c : List Nat) : lstTo l c c.length = lstOp l c := by unfold lstTo lstOp; rw [List.take_length]
def endsF (l : List OpV) (c : List Nat) : FV := .tup [.int .i64 (fstOp l c : Nat), .int .i64 (backL (nth l (fstOp l c))), .int .i64 (lstOp l c : Nat), .int .i64 (nth l (lstOp l c)).call]
set_option maxHeartbeats 4000000 in
theorem ends_spec (l : List OpV) (c : ClV) (hl : l.length ≤ 1000000000) (hcl : c.ops.length ≤ 1000000000) (h0 : 0 < c.ops.length) (hr : ∀ i ∈ c.ops, i < l.length) : Spec Try.prog 72 [.agg c.fv, .list 8 (l.map OpV.fv)] .fr (endsF l c.ops) := by
 obtain ⟨b, C⟩ := c
 dsimp only at h0 hr hcl ⊢
 refine Spec.of_body (c := (cxOf Try.prog tyAt_ok mixed_ok 58)) ⟨Try.func72, rfl, Try.ntmps72, by kernel_rfl⟩ (by simp [FV.hand]) (by exact Nat.le_of_ble_eq_true rfl) rfl ?_
 change FW _ _ _ ⟨[(0, .agg [.bool b, .list 1 (C.map natf)]), (1, .list 8 (l.map OpV.fv))], []⟩
 (repeat (first | refine FW.seq ?_ | refine FW.region ?_ | refine RunN.nil ?_ | refine rn_boxA rfl rfl rfl rfl rfl rfl rfl ?_ | refine rn_box1 rfl rfl rfl rfl rfl ?_ | refine rn_assign rfl rfl rfl ?_))
 refine RunN.le ?_ (FLe.shareP 3 rfl rfl)
 (repeat (first | refine FW.seq ?_ | refine RunN.nil ?_ | refine rn_assign rfl rfl rfl ?_ | refine rn_makeFn1 rfl rfl rfl rfl ?_))
 refine FW.drawQ (by kernel_rfl) ?_
 (repeat (first | refine RunD.nil ?_ | refine rd_assign rfl rfl rfl ?_ | refine rd_fieldP rfl rfl rfl rfl rfl rfl (by decide) rfl rfl ?_ | refine rd_loadE rfl rfl rfl (by first | (simp; omega) | (simp; done)) (by first | exact getD_map (by omega) | rfl) rfl rfl rfl rfl ?_ | refine rd_loadP rfl rfl rfl rfl rfl (by first | (simp; omega) | (simp; done)) (by first | exact getD_map (by omega) | rfl) rfl rfl rfl rfl ?_ | refine rd_indexL rfl rfl rfl rfl rfl rfl (by first | (simp; omega) | (simp; done)) rfl rfl ?_))
 refine ⟨by kernel_rfl, ?_⟩
 (repeat (first | refine FW.seq ?_ | refine FW.region ?_ | refine FW.block ?_ | refine RunN.nil ?_ | refine rn_fieldP rfl rfl rfl rfl rfl rfl (by decide) rfl rfl ?_ | refine rn_loadP rfl rfl rfl rfl rfl (by simp; done) rfl rfl rfl rfl rfl ?_ | refine rn_lenList rfl rfl (by first | exact List.length_map _ | rfl | (simp; done)) rfl rfl ?_ | refine rn_move rfl rfl rfl ?_))
 refine FW.loop (fun k : Nat => ⟨[(3, .eptr 1 [[.list 8 (l.map OpV.fv)]] 0 0), (8, .fn 87 [.eptr 1 [[.list 8 (l.map OpV.fv)]] 0 0]), (4, .int .i64 (fstTo l C k : Nat)), (6, .int .i64 (lstTo l C k : Nat)), (21, .list 1 (C.map natf)), (22, .int .i64 C.length), (23, .int .i64 k)], []⟩) (fun k => k ≤ C.length) (fun k => C.length - k) 0 (Nat.zero_le _) ?_ ?_
 ·show FLe _ ⟨[(3, .eptr 1 [[.list 8 (l.map OpV.fv)]] 0 0), (8, .fn 87 [.eptr 1 [[.list 8 (l.map OpV.fv)]] 0 0]), (4, .int .i64 (nth C 0 : Nat)), (6, .int .i64 (nth C 0 : Nat)), (21, .list 1 (C.map natf)), (22, .int .i64 C.length), (23, .int .i64 0)], []⟩
  exact (FLe.conv [] (by simp) (by simp) rfl (by repeat (first | exact .nil | refine .low rfl ?_ | refine .same rfl ?_ | refine .bump (Nat.lt_succ_self _) ?_)) (by repeat (first | exact .nil)) (by repeat (first | exact .nil | refine .cons (.plain rfl rfl rfl) ?_)))
 intro k hk
 have hfm := hr _ (fstTo_mem (l := l) h0 hk)
 have hlm := hr _ (lstTo_mem (l := l) h0 hk)
 have hfs := fun h => fstTo_succ (l := l) (c := C) (k := k) h
 have hls := fun h => lstTo_succ (l := l) (c := C) (k := k) h
 obtain ⟨f, hf⟩ : ∃ f, fstTo l C k = f := ⟨_, rfl⟩
 obtain ⟨g, hg⟩ : ∃ g, lstTo l C k = g := ⟨_, rfl⟩
 rw [hf] at hfm hfs ⊢
 rw [hg] at hlm hls ⊢
 have hef := ends1_spec l f hfm
 (repeat (first | refine FW.seq ?_ | refine FW.region ?_ | refine RunN.nil ?_ | refine rn_lss rfl rfl rfl rfl ?_))
 refine FW.cond rfl (fun h => ?_) (fun h => ?_)
 ·have hlt : k < C.length := by simpa using h
  clear h
  have hfs := hfs hlt
  have hls := hls hlt
  obtain ⟨i, hi⟩ : ∃ i, nth C k = i := ⟨_, rfl⟩
  have hil : i < l.length := by rw [← hi]; exact hr _ (nth_mem hlt)
  have hei := ends1_spec l i hil
  rw [hi] at hfs hls
  unfold fstS at hfs
  unfold lstS at hls
  (repeat (first | refine FW.seq ?_ | refine FW.region ?_ | refine FW.block ?_ | refine FW.skip ?_ | refine RunN.nil ?_ | refine rn_assign rfl rfl rfl ?_ | refine rn_loadE rfl rfl rfl (by simp; omega) (by first | exact getD_map (by omega) | rfl) rfl rfl rfl rfl ?_ | refine rn_indexL rfl rfl rfl rfl rfl rfl (by simp; omega) rfl rfl ?_ | refine rn_move rfl rfl rfl ?_))
  rw [hi]
  skip
  refine rn_callV rfl hei (by repeat (first | exact ArgsR.nil | refine ArgsR.cons (by exact ArgR.plain rfl rfl) ?_)) rfl rfl ?_
  (repeat (first | refine rn_move rfl rfl rfl ?_))
  refine rn_callV rfl hef (by repeat (first | exact ArgsR.nil | refine ArgsR.cons (by exact ArgR.plain rfl rfl) ?_)) rfl rfl ?_
  (repeat (first | refine RunN.nil ?_ | refine rn_lss rfl rfl rfl rfl ?_))
  refine FW.join (fun q : Nat => ⟨[(3, .eptr 1 [[.list 8 (l.map OpV.fv)]] 0 0), (8, .fn 87 [.eptr 1 [[.list 8 (l.map OpV.fv)]] 0 0]), (4, .int .i64 (q : Nat)), (10, .int .i64 i), (6, .int .i64 g), (21, .list 1 (C.map natf)), (22, .int .i64 C.length), (23, .int .i64 k)], []⟩) (fun q => fstTo l C (k + 1) = q) ?_ ?_
  ·refine FW.cond rfl (fun h => ?_) (fun h => ?_)
   ·rw [if_pos (by simpa using h)] at hfs
    (repeat (first | refine FW.region ?_ | refine RunN.nil ?_ | refine rn_assign rfl rfl rfl ?_ | refine rn_move rfl rfl rfl ?_))
    refine ⟨rfl, i, hfs, ?_⟩
    exact (FLe.conv [] (by simp) (by simp) rfl (by repeat (first | exact .nil | refine .low rfl ?_ | refine .same rfl ?_ | refine .bump (Nat.lt_succ_self _) ?_)) (by repeat (first | exact .nil)) (by repeat (first | exact .nil | refine .cons (.plain rfl rfl rfl) ?_)))
   ·rw [if_neg (by simpa using h)] at hfs
    (repeat (first | refine FW.skip ?_))
    refine ⟨rfl, f, hfs, ?_⟩
    exact (FLe.conv [] (by simp) (by simp) rfl (by repeat (first | exact .nil | refine .low rfl ?_ | refine .same rfl ?_ | refine .bump (Nat.lt_succ_self _) ?_)) (by repeat (first | exact .nil)) (by repeat (first | exact .nil | refine .cons (.plain rfl rfl rfl) ?_)))
  rintro q hq
  refine FW.seq ?_
  refine FW.drawQ (by kernel_rfl) ?_
  (repeat (first | refine RunD.nil ?_ | refine rd_fieldE rfl rfl rfl rfl rfl rfl rfl ?_ | refine rd_loadE rfl rfl rfl (by first | (simp; omega) | (simp; done)) (by first | exact getD_map (by omega) | rfl) rfl rfl rfl rfl ?_ | refine rd_indexL rfl rfl rfl rfl rfl rfl (by first | (simp; omega) | (simp; done)) rfl rfl ?_ | refine rd_move rfl rfl rfl ?_ | refine rd_gtr rfl rfl rfl rfl ?_))
  refine ⟨by kernel_rfl, ?_⟩
  refine FW.cond rfl (fun h => ?_) (fun h => ?_)
  ·rw [if_pos (by simpa using h)] at hls
   (repeat (first | refine FW.region ?_ | refine RunN.nil ?_ | refine rn_assign rfl rfl rfl ?_ | refine rn_move rfl rfl rfl ?_ | refine rn_add rfl rfl (by omega) rfl rfl ?_))
   refine ⟨k + 1, by omega, by omega, ?_⟩
   rw [hq, hls]
   exact (FLe.conv [] (by simp) (by simp) rfl (by repeat (first | exact .nil | refine .low rfl ?_ | refine .same rfl ?_ | refine .bump (Nat.lt_succ_self _) ?_)) (by repeat (first | exact .nil)) (by repeat (first | exact .nil | refine .cons (.plain rfl rfl rfl) ?_)))
  ·rw [if_neg (by simpa using h)] at hls
   (repeat (first | refine FW.region ?_ | refine FW.skip ?_ | refine RunN.nil ?_ | refine rn_move rfl rfl rfl ?_ | refine rn_add rfl rfl (by omega) rfl rfl ?_))
   refine ⟨k + 1, by omega, by omega, ?_⟩
   rw [hq, hls]
   exact (FLe.conv [] (by simp) (by simp) rfl (by repeat (first | exact .nil | refine .low rfl ?_ | refine .same rfl ?_ | refine .bump (Nat.lt_succ_self _) ?_)) (by repeat (first | exact .nil)) (by repeat (first | exact .nil | refine .cons (.plain rfl rfl rfl) ?_)))
 ·obtain rfl : k = C.length := by simp at h; omega
  rw [fstTo_all] at hf
  rw [lstTo_all] at hg
  unfold endsF
  rw [hf, hg]
  (repeat (first | refine FW.seq ?_ | refine FW.exit ?_))
  refine FW.drawQ (by kernel_rfl) ?_
  (repeat (first | refine rd_move rfl rfl rfl ?_))
  refine rd_callV rfl hef (by repeat (first | exact ArgsR.nil | refine ArgsR.cons (by exact ArgR.plain rfl rfl) ?_)) rfl rfl ?_
  (repeat (first | refine RunD.nil ?_ | refine rd_assign rfl rfl rfl ?_ | refine rd_fieldE rfl rfl rfl rfl rfl rfl rfl ?_ | refine rd_loadE rfl rfl rfl (by first | (simp; omega) | (simp; done)) (by first | exact getD_map (by omega) | rfl) rfl rfl rfl rfl ?_ | refine rd_indexL rfl rfl rfl rfl rfl rfl (by first | (simp; omega) | (simp; done)) rfl rfl ?_ | refine rd_move rfl rfl rfl ?_))
  refine ⟨by kernel_rfl, ?_⟩
  skip
  exact FW.ret ⟨.inl rfl, .flat (.cons (.tmp 4 rfl rfl) (.cons (.tmp 5 rfl rfl) (.cons (.tmp 6 rfl rfl) (.cons (.tmp 7 rfl rfl) .nil)))) rfl rfl⟩

def rtf (e : Nat × Nat) : List FV := [.int .i64 (e.1 : Nat), .int .i64 (e.2 : Nat), .int .i64 5]
def finL (l : List OpV) (c : List Nat) : Int := backL (nth l (fstOp l c))
def staL (l : List OpV) (c : List Nat) : Int := (nth l (lstOp l c)).call
def confE (l : List OpV) (x y : ClV) : List (Nat × Nat) :=
 if finL l y.ops ≥ staL l x.ops then []
 else if x.ini = true then [(fstOp l y.ops, lstOp l x.ops)]
 else if finL l x.ops < staL l y.ops then [(fstOp l x.ops, lstOp l y.ops), (fstOp l y.ops, lstOp l x.ops)]
 else []
def edsF (E : List (Nat × Nat)) : FV := match E with | [] => .nil | e :: E => .list 3 ((e :: E).map rtf)
set_option maxHeartbeats 4000000 in
theorem conflict_spec (l : List OpV) (x y : ClV) (hl : l.length ≤ 1000000000) (hx : x.ops.length ≤ 1000000000) (hy : y.ops.length ≤ 1000000000) (x0 : 0 < x.ops.length) (y0 : 0 < y.ops.length) (xr : ∀ i ∈ x.ops, i < l.length) (yr : ∀ i ∈ y.ops, i < l.length) :
  Spec Try.prog 58 [.list 8 (l.map OpV.fv), .agg x.fv, .agg y.fv] .sh (edsF (confE l x y)) := by
 have hex := ends_spec l x hl hx x0 xr
 have hey := ends_spec l y hl hy y0 yr
 have hE : confE l x y = if finL l y.ops ≥ staL l x.ops then [] else if x.ini = true then [(fstOp l y.ops, lstOp l x.ops)] else if finL l x.ops < staL l y.ops then [(fstOp l x.ops, lstOp l y.ops), (fstOp l y.ops, lstOp l x.ops)] else [] := rfl
 unfold finL staL at hE
 obtain ⟨R, hR⟩ : ∃ R, confE l x y = R := ⟨_, rfl⟩
 rw [hR] at hE ⊢
 obtain ⟨bx, X⟩ := x
 obtain ⟨b2, Y⟩ := y
 dsimp only [ClV.fv] at *
 unfold endsF at hex hey
 obtain ⟨fx, hfx⟩ : ∃ z, backL (nth l (fstOp l X)) = z := ⟨_, rfl⟩
 obtain ⟨fy, hfy⟩ : ∃ z, backL (nth l (fstOp l Y)) = z := ⟨_, rfl⟩
 obtain ⟨sx, hsx⟩ : ∃ z, (nth l (lstOp l X)).call = z := ⟨_, rfl⟩
 obtain ⟨sy, hsy⟩ : ∃ z, (nth l (lstOp l Y)).call = z := ⟨_, rfl⟩
 rw [hfx, hsx] at hex
 rw [hfy, hsy] at hey
 rw [hfx, hfy, hsx, hsy] at hE
 generalize fstOp l X = a at hex hE
 generalize lstOp l X = b at hex hE
 generalize fstOp l Y = c at hey hE
 generalize lstOp l Y = d at hey hE
 have hh : (edsF R).hand = none := by unfold edsF; split <;> rfl
 refine Spec.of_body (c := (cxOf Try.prog tyAt_ok mixed_ok 53)) ⟨Try.func58, rfl, Try.ntmps58, by kernel_rfl⟩ (by simp [FV.hand]) (by exact Nat.le_of_ble_eq_true rfl) hh ?_
 change FW _ _ _ ⟨[(0, .list 8 (l.map OpV.fv)), (1, .agg [.bool bx, .list 1 (X.map natf)]), (2, .agg [.bool b2, .list 1 (Y.map natf)])], []⟩
 (repeat (first | refine FW.seq ?_ | refine FW.region ?_ | refine RunN.nil ?_ | refine rn_boxA rfl rfl rfl rfl rfl rfl rfl ?_ | refine rn_assign rfl rfl rfl ?_ | refine rn_loadPA rfl rfl rfl (by decide) rfl rfl (by simp; done) rfl rfl rfl rfl ?_ | refine rn_move rfl rfl rfl ?_))
 refine rn_call hex (by repeat (first | exact ArgsR.nil | refine ArgsR.cons (by exact ArgR.plain rfl rfl) ?_)) rfl rfl ?_
 (repeat (first | refine FW.seq ?_ | refine FW.region ?_ | refine RunN.nil ?_ | refine rn_assign rfl rfl rfl ?_ | refine rn_loadPA rfl rfl rfl (by decide) rfl rfl (by simp; done) rfl rfl rfl rfl ?_ | refine rn_move rfl rfl rfl ?_ | refine rn_extract rfl rfl rfl rfl rfl ?_))
 refine rn_call hey (by repeat (first | exact ArgsR.nil | refine ArgsR.cons (by exact ArgR.plain rfl rfl) ?_)) rfl rfl ?_
 (repeat (first | refine FW.seq ?_ | refine FW.region ?_ | refine FW.block ?_ | refine RunN.nil ?_ | refine rn_assign rfl rfl rfl ?_ | refine rn_move rfl rfl rfl ?_ | refine rn_extract rfl rfl rfl rfl rfl ?_ | refine rn_buildK rfl rfl rfl rfl ?_ | refine rn_alloc rfl rfl rfl rfl rfl rfl rfl ?_ | refine rn_storeVA rfl rfl rfl rfl rfl rfl rfl rfl rfl ?_ | refine rn_geq rfl rfl rfl rfl ?_ | refine FillK.nil ?_ | refine FillK.one rfl rfl rfl rfl rfl ?_))
 refine FW.cond rfl (fun h1 => ?_) (fun h1 => ?_)
 ·rw [if_pos (by simpa using h1)] at hE
  subst hE
  (repeat (first | refine FW.seq ?_ | refine FW.region ?_ | refine RunN.nil ?_ | refine rn_assign rfl rfl rfl ?_))
  exact FW.ret ⟨.inl rfl, .sh (.cons (.tmp 6 rfl rfl) .nil) rfl rfl⟩
 rw [if_neg (by simpa using h1)] at hE
 (repeat (first | refine FW.seq ?_ | refine FW.region ?_ | refine RunN.nil ?_ | refine rn_assign rfl rfl rfl ?_ | refine rn_loadP rfl rfl rfl rfl rfl (by simp; done) rfl rfl rfl rfl rfl ?_ | refine rn_fieldP rfl rfl rfl rfl rfl rfl (by decide) rfl rfl ?_))
 refine FW.cond rfl (fun h2 => ?_) (fun h2 => ?_)
 ·have h2 : bx = true := h2
  rw [if_pos h2] at hE
  subst hE
  (repeat (first | refine FW.seq ?_ | refine FW.region ?_ | refine RunN.nil ?_ | refine rn_assign rfl rfl rfl ?_ | refine rn_loadPA rfl rfl rfl (by decide) rfl rfl (by simp; done) rfl rfl rfl rfl ?_ | refine rn_buildS1A rfl rfl rfl rfl rfl rfl rfl rfl rfl rfl ?_))
  refine FW.le ?_ (FLe.share 6 rfl rfl rfl)
  exact FW.ret ⟨.inl rfl, .sh (.cons (.tmp 6 rfl rfl) .nil) rfl rfl⟩
 have h2 : ¬ bx = true := by rw [show bx = false from h2]; decide
 rw [if_neg h2] at hE
 (repeat (first | refine FW.seq ?_ | refine FW.region ?_ | refine RunN.nil ?_ | refine rn_assign rfl rfl rfl ?_ | refine rn_move rfl rfl rfl ?_ | refine rn_lss rfl rfl rfl rfl ?_))
 refine FW.cond rfl (fun h3 => ?_) (fun h3 => ?_)
 ·rw [if_pos (by simpa using h3)] at hE
  subst hE
  (repeat (first | refine FW.seq ?_ | refine FW.region ?_ | refine rn_loadPA rfl rfl rfl (by decide) rfl rfl (by simp; done) rfl rfl rfl rfl ?_ | refine rn_move rfl rfl rfl ?_ | refine rn_buildK rfl rfl rfl rfl ?_ | refine FillK.nil ?_ | refine FillK.one rfl rfl rfl rfl rfl ?_))
  refine rn_buildS (es := [rtf (a, d), rtf (c, b)]) rfl rfl rfl (by refine PtsS.agg rfl rfl rfl ?_; refine PtsS.agg rfl rfl rfl ?_; exact PtsS.nil) rfl rfl rfl rfl rfl rfl ?_
  (repeat (first | refine RunN.nil ?_ | refine rn_assign rfl rfl rfl ?_))
  refine FW.le ?_ (FLe.share 6 rfl rfl rfl)
  exact FW.ret ⟨.inl rfl, .sh (.cons (.tmp 6 rfl rfl) .nil) rfl rfl⟩
 ·rw [if_neg (by simpa using h3)] at hE
  subst hE
  (repeat (first | refine FW.seq ?_ | refine FW.region ?_ | refine FW.skip ?_ | refine RunN.nil ?_ | refine rn_assign rfl rfl rfl ?_))
  exact FW.ret ⟨.inl rfl, .sh (.cons (.tmp 6 rfl rfl) .nil) rfl rfl⟩
end Go.Proofs.Ytbeebjdnapkhhaa
