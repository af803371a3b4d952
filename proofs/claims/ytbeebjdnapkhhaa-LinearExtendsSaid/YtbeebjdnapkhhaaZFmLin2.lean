/-
  Functions of package linear, at plain values: the ends of a cluster, the conflict of two.
-/
import Derived.Test.YtbeebjdnapkhhaaZFmLin1
namespace Go.Proofs.Ytbeebjdnapkhhaa
set_option linter.unusedVariables false
open Go.RowKit

def zQ (i : Nat) : List FV := [.int .i64 (i : Int)]
structure ClV where
 ini : Bool
 ops : List Nat
 deriving DecidableEq, Inhabited
def ClV.fv (c : ClV) : List FV := [.bool c.ini, .list 1 (c.ops.map zQ)]
def YG (o : OpV) : Int := if o.done then o.ret else 9223372036854775807
theorem zaI (l : List OpV) (i : Nat) (hi : i < l.length) : yg Try.prog 87 ([.int .i64 i] ++ [.eptr 1 [[.list 8 (l.map OpV.fv)]] 0 0]) .fr (.int .i64 (YG (nth l i))) := by
 obtain ⟨o, ho⟩ : ∃ o, nth l i = o := ⟨_, rfl⟩
 rw [ho]
 refine yg.of_body (c := (Zy Try.prog zG zA 15)) ⟨Try.func87, rfl, Try.ntmps87, by kernel_rfl⟩ (by simp [FV.hand]) (by exact Nat.le_of_ble_eq_true rfl) rfl ?_
 change FW _ _ _ ⟨[(0, .int .i64 i), (1, .eptr 1 [[.list 8 (l.map OpV.fv)]] 0 0)], []⟩
 (repeat (first | refine FW.seq ?_ | refine FW.region ?_ | refine zc.nil ?_ | refine za rfl rfl rfl ?_ | refine zB rfl rfl rfl (by first | (simp; omega) | (simp; done)) (by first | exact zd (by omega) | rfl) rfl rfl rfl rfl ?_ | refine zb rfl rfl rfl ?_ | refine zD rfl rfl rfl rfl rfl rfl (by first | (simp; omega) | (simp; done)) rfl rfl ?_ | refine ym rfl rfl rfl rfl rfl rfl rfl ?_ | refine Yz rfl rfl rfl ?_))
 rw [ho]
 skip
 refine FW.cond rfl (fun h => ?_) (fun h => ?_)
 ·have h : o.done = false := by simpa using h
  have : YG o = 9223372036854775807 := by unfold YG; rw [h]; rfl
  rw [this]
  (repeat (first | refine FW.seq ?_ | refine FW.region ?_ | refine zc.nil ?_ | refine za rfl rfl rfl ?_))
  exact FW.ret ⟨.inl rfl, zO rfl rfl rfl rfl⟩
 ·have h : o.done = true := by simpa using h
  have : YG o = o.ret := by unfold YG; rw [h]; rfl
  rw [this]
  (repeat (first | refine FW.seq ?_ | refine FW.region ?_ | refine FW.skip ?_ | refine zc.nil ?_ | refine za rfl rfl rfl ?_ | refine zB rfl rfl rfl (by first | (simp; omega) | (simp; done)) (by first | exact zd (by omega) | rfl) rfl rfl rfl rfl ?_ | refine zb rfl rfl rfl ?_ | refine zD rfl rfl rfl rfl rfl rfl (by first | (simp; omega) | (simp; done)) rfl rfl ?_ | refine ym rfl rfl rfl rfl rfl rfl rfl ?_))
  rw [ho]
  skip
  exact FW.ret ⟨.inl rfl, zO rfl rfl rfl rfl⟩

def zj7 (l : List OpV) (b i : Nat) : Nat := if YG (nth l i) < YG (nth l b) then i else b
def zj9 (l : List OpV) (b i : Nat) : Nat := if (nth l b).call < (nth l i).call then i else b
def Xr (l : List OpV) (c : List Nat) : Nat := c.foldl (zj7 l) (nth c 0)
def Xv (l : List OpV) (c : List Nat) : Nat := c.foldl (zj9 l) (nth c 0)
def zak (l : List OpV) (c : List Nat) (k : Nat) : Nat := (c.take k).foldl (zj7 l) (nth c 0)
def zby (l : List OpV) (c : List Nat) (k : Nat) : Nat := (c.take k).foldl (zj9 l) (nth c 0)
theorem WC {l : List OpV} {c : List Nat} {k : Nat} (h : k < c.length) : zak l c (k + 1) = zj7 l (zak l c k) (nth c k) := by
 unfold zak; rw [List.take_succ_eq_append_getElem h, List.foldl_append, zi h]; rfl
theorem WH {l : List OpV} {c : List Nat} {k : Nat} (h : k < c.length) : zby l c (k + 1) = zj9 l (zby l c k) (nth c k) := by
 unfold zby; rw [List.take_succ_eq_append_getElem h, List.foldl_append, zi h]; rfl
theorem Ua {l : List OpV} {c : List Nat} (h0 : 0 < c.length) : ∀ {k : Nat}, k ≤ c.length → zak l c k ∈ c
 | 0, _ => zn h0
 | k + 1, hk => by
  rw [WC (by omega)]
  unfold zj7
  split
  ·exact zn (by omega)
  ·exact Ua h0 (by omega)
theorem Ut {l : List OpV} {c : List Nat} (h0 : 0 < c.length) : ∀ {k : Nat}, k ≤ c.length → zby l c k ∈ c
 | 0, _ => zn h0
 | k + 1, hk => by
  rw [WH (by omega)]
  unfold zj9
  split
  ·exact zn (by omega)
  ·exact Ut h0 (by omega)
theorem VZ (l : List OpV) (c : List Nat) : zak l c c.length = Xr l c := by unfold zak Xr; rw [List.take_length]
theorem Us (l : List OpV) (c : List Nat) : zby l c c.length = Xv l c := by unfold zby Xv; rw [List.take_length]
def zgi (l : List OpV) (c : List Nat) : FV := .tup [.int .i64 (Xr l c : Nat), .int .i64 (YG (nth l (Xr l c))), .int .i64 (Xv l c : Nat), .int .i64 (nth l (Xv l c)).call]
set_option maxHeartbeats 4000000 in
theorem XV (l : List OpV) (c : ClV) (hl : l.length ≤ 1000000000) (hcl : c.ops.length ≤ 1000000000) (h0 : 0 < c.ops.length) (hr : ∀ i ∈ c.ops, i < l.length) : yg Try.prog 72 [.agg c.fv, .list 8 (l.map OpV.fv)] .fr (zgi l c.ops) := by
 obtain ⟨b, C⟩ := c
 dsimp only at h0 hr hcl ⊢
 refine yg.of_body (c := (Zy Try.prog zG zA 58)) ⟨Try.func72, rfl, Try.ntmps72, by kernel_rfl⟩ (by simp [FV.hand]) (by exact Nat.le_of_ble_eq_true rfl) rfl ?_
 change FW _ _ _ ⟨[(0, .agg [.bool b, .list 1 (C.map zQ)]), (1, .list 8 (l.map OpV.fv))], []⟩
 (repeat (first | refine FW.seq ?_ | refine FW.region ?_ | refine zc.nil ?_ | refine WO rfl rfl rfl rfl rfl rfl rfl ?_ | refine zbK rfl rfl rfl rfl rfl ?_ | refine za rfl rfl rfl ?_))
 refine zc.le ?_ (FLe.shareP 3 rfl rfl)
 (repeat (first | refine FW.seq ?_ | refine zc.nil ?_ | refine za rfl rfl rfl ?_ | refine WQ rfl rfl rfl rfl ?_))
 refine FW.drawQ (by kernel_rfl) ?_
 (repeat (first | refine zE.nil ?_ | refine xH rfl rfl rfl ?_ | refine ZX rfl rfl rfl rfl rfl rfl (by decide) rfl rfl ?_ | refine yh rfl rfl rfl (by first | (simp; omega) | (simp; done)) (by first | exact zd (by omega) | rfl) rfl rfl rfl rfl ?_ | refine Zj rfl rfl rfl rfl rfl (by first | (simp; omega) | (simp; done)) (by first | exact zd (by omega) | rfl) rfl rfl rfl rfl ?_ | refine yj rfl rfl rfl rfl rfl rfl (by first | (simp; omega) | (simp; done)) rfl rfl ?_))
 refine ⟨by kernel_rfl, ?_⟩
 (repeat (first | refine FW.seq ?_ | refine FW.region ?_ | refine FW.block ?_ | refine zc.nil ?_ | refine zt rfl rfl rfl rfl rfl rfl (by decide) rfl rfl ?_ | refine zq rfl rfl rfl rfl rfl (by simp; done) rfl rfl rfl rfl rfl ?_ | refine zm rfl rfl (by first | exact List.length_map _ | rfl | (simp; done)) rfl rfl ?_ | refine zb rfl rfl rfl ?_))
 refine FW.loop (fun k : Nat => ⟨[(3, .eptr 1 [[.list 8 (l.map OpV.fv)]] 0 0), (8, .fn 87 [.eptr 1 [[.list 8 (l.map OpV.fv)]] 0 0]), (4, .int .i64 (zak l C k : Nat)), (6, .int .i64 (zby l C k : Nat)), (21, .list 1 (C.map zQ)), (22, .int .i64 C.length), (23, .int .i64 k)], []⟩) (fun k => k ≤ C.length) (fun k => C.length - k) 0 (Nat.zero_le _) ?_ ?_
 ·show FLe _ ⟨[(3, .eptr 1 [[.list 8 (l.map OpV.fv)]] 0 0), (8, .fn 87 [.eptr 1 [[.list 8 (l.map OpV.fv)]] 0 0]), (4, .int .i64 (nth C 0 : Nat)), (6, .int .i64 (nth C 0 : Nat)), (21, .list 1 (C.map zQ)), (22, .int .i64 C.length), (23, .int .i64 0)], []⟩
  exact (FLe.conv [] (by simp) (by simp) rfl (by repeat (first | exact .nil | refine .low rfl ?_ | refine .same rfl ?_ | refine .bump (Nat.lt_succ_self _) ?_)) (by repeat (first | exact .nil)) (by repeat (first | exact .nil | refine .cons (.plain rfl rfl rfl) ?_)))
 intro k hk
 have hfm := hr _ (Ua (l := l) h0 hk)
 have hlm := hr _ (Ut (l := l) h0 hk)
 have hfs := fun h => WC (l := l) (c := C) (k := k) h
 have hls := fun h => WH (l := l) (c := C) (k := k) h
 obtain ⟨f, hf⟩ : ∃ f, zak l C k = f := ⟨_, rfl⟩
 obtain ⟨g, hg⟩ : ∃ g, zby l C k = g := ⟨_, rfl⟩
 rw [hf] at hfm hfs ⊢
 rw [hg] at hlm hls ⊢
 have hef := zaI l f hfm
 (repeat (first | refine FW.seq ?_ | refine FW.region ?_ | refine zc.nil ?_ | refine zH rfl rfl rfl rfl ?_))
 refine FW.cond rfl (fun h => ?_) (fun h => ?_)
 ·have hlt : k < C.length := by simpa using h
  clear h
  have hfs := hfs hlt
  have hls := hls hlt
  obtain ⟨i, hi⟩ : ∃ i, nth C k = i := ⟨_, rfl⟩
  have hil : i < l.length := by rw [← hi]; exact hr _ (zn hlt)
  have hei := zaI l i hil
  rw [hi] at hfs hls
  unfold zj7 at hfs
  unfold zj9 at hls
  (repeat (first | refine FW.seq ?_ | refine FW.region ?_ | refine FW.block ?_ | refine FW.skip ?_ | refine zc.nil ?_ | refine za rfl rfl rfl ?_ | refine zB rfl rfl rfl (by simp; omega) (by first | exact zd (by omega) | rfl) rfl rfl rfl rfl ?_ | refine zD rfl rfl rfl rfl rfl rfl (by simp; omega) rfl rfl ?_ | refine zb rfl rfl rfl ?_))
  rw [hi]
  skip
  refine zbM rfl hei (by repeat (first | exact zj.nil | refine zj.cons (by exact yu.plain rfl rfl) ?_)) rfl rfl ?_
  (repeat (first | refine zb rfl rfl rfl ?_))
  refine zbM rfl hef (by repeat (first | exact zj.nil | refine zj.cons (by exact yu.plain rfl rfl) ?_)) rfl rfl ?_
  (repeat (first | refine zc.nil ?_ | refine zH rfl rfl rfl rfl ?_))
  refine FW.join (fun q : Nat => ⟨[(3, .eptr 1 [[.list 8 (l.map OpV.fv)]] 0 0), (8, .fn 87 [.eptr 1 [[.list 8 (l.map OpV.fv)]] 0 0]), (4, .int .i64 (q : Nat)), (10, .int .i64 i), (6, .int .i64 g), (21, .list 1 (C.map zQ)), (22, .int .i64 C.length), (23, .int .i64 k)], []⟩) (fun q => zak l C (k + 1) = q) ?_ ?_
  ·refine FW.cond rfl (fun h => ?_) (fun h => ?_)
   ·rw [if_pos (by simpa using h)] at hfs
    (repeat (first | refine FW.region ?_ | refine zc.nil ?_ | refine za rfl rfl rfl ?_ | refine zb rfl rfl rfl ?_))
    refine ⟨rfl, i, hfs, ?_⟩
    exact (FLe.conv [] (by simp) (by simp) rfl (by repeat (first | exact .nil | refine .low rfl ?_ | refine .same rfl ?_ | refine .bump (Nat.lt_succ_self _) ?_)) (by repeat (first | exact .nil)) (by repeat (first | exact .nil | refine .cons (.plain rfl rfl rfl) ?_)))
   ·rw [if_neg (by simpa using h)] at hfs
    (repeat (first | refine FW.skip ?_))
    refine ⟨rfl, f, hfs, ?_⟩
    exact (FLe.conv [] (by simp) (by simp) rfl (by repeat (first | exact .nil | refine .low rfl ?_ | refine .same rfl ?_ | refine .bump (Nat.lt_succ_self _) ?_)) (by repeat (first | exact .nil)) (by repeat (first | exact .nil | refine .cons (.plain rfl rfl rfl) ?_)))
  rintro q hq
  refine FW.seq ?_
  refine FW.drawQ (by kernel_rfl) ?_
  (repeat (first | refine zE.nil ?_ | refine xI rfl rfl rfl rfl rfl rfl rfl ?_ | refine yh rfl rfl rfl (by first | (simp; omega) | (simp; done)) (by first | exact zd (by omega) | rfl) rfl rfl rfl rfl ?_ | refine yj rfl rfl rfl rfl rfl rfl (by first | (simp; omega) | (simp; done)) rfl rfl ?_ | refine zV rfl rfl rfl ?_ | refine zky rfl rfl rfl rfl ?_))
  refine ⟨by kernel_rfl, ?_⟩
  refine FW.cond rfl (fun h => ?_) (fun h => ?_)
  ·rw [if_pos (by simpa using h)] at hls
   (repeat (first | refine FW.region ?_ | refine zc.nil ?_ | refine za rfl rfl rfl ?_ | refine zb rfl rfl rfl ?_ | refine zu rfl rfl (by omega) rfl rfl ?_))
   refine ⟨k + 1, by omega, by omega, ?_⟩
   rw [hq, hls]
   exact (FLe.conv [] (by simp) (by simp) rfl (by repeat (first | exact .nil | refine .low rfl ?_ | refine .same rfl ?_ | refine .bump (Nat.lt_succ_self _) ?_)) (by repeat (first | exact .nil)) (by repeat (first | exact .nil | refine .cons (.plain rfl rfl rfl) ?_)))
  ·rw [if_neg (by simpa using h)] at hls
   (repeat (first | refine FW.region ?_ | refine FW.skip ?_ | refine zc.nil ?_ | refine zb rfl rfl rfl ?_ | refine zu rfl rfl (by omega) rfl rfl ?_))
   refine ⟨k + 1, by omega, by omega, ?_⟩
   rw [hq, hls]
   exact (FLe.conv [] (by simp) (by simp) rfl (by repeat (first | exact .nil | refine .low rfl ?_ | refine .same rfl ?_ | refine .bump (Nat.lt_succ_self _) ?_)) (by repeat (first | exact .nil)) (by repeat (first | exact .nil | refine .cons (.plain rfl rfl rfl) ?_)))
 ·obtain rfl : k = C.length := by simp at h; omega
  rw [VZ] at hf
  rw [Us] at hg
  unfold zgi
  rw [hf, hg]
  (repeat (first | refine FW.seq ?_ | refine FW.exit ?_))
  refine FW.drawQ (by kernel_rfl) ?_
  (repeat (first | refine zV rfl rfl rfl ?_))
  refine ziB rfl hef (by repeat (first | exact zj.nil | refine zj.cons (by exact yu.plain rfl rfl) ?_)) rfl rfl ?_
  (repeat (first | refine zE.nil ?_ | refine xH rfl rfl rfl ?_ | refine xI rfl rfl rfl rfl rfl rfl rfl ?_ | refine yh rfl rfl rfl (by first | (simp; omega) | (simp; done)) (by first | exact zd (by omega) | rfl) rfl rfl rfl rfl ?_ | refine yj rfl rfl rfl rfl rfl rfl (by first | (simp; omega) | (simp; done)) rfl rfl ?_ | refine zV rfl rfl rfl ?_))
  refine ⟨by kernel_rfl, ?_⟩
  skip
  exact FW.ret ⟨.inl rfl, .flat (.cons (.tmp 4 rfl rfl) (.cons (.tmp 5 rfl rfl) (.cons (.tmp 6 rfl rfl) (.cons (.tmp 7 rfl rfl) .nil)))) rfl rfl⟩

def rtf (e : Nat × Nat) : List FV := [.int .i64 (e.1 : Nat), .int .i64 (e.2 : Nat), .int .i64 5]
def zbi (l : List OpV) (c : List Nat) : Int := YG (nth l (Xr l c))
def zdc (l : List OpV) (c : List Nat) : Int := (nth l (Xv l c)).call
def Vf (l : List OpV) (x y : ClV) : List (Nat × Nat) :=
 if zbi l y.ops ≥ zdc l x.ops then []
 else if x.ini = true then [(Xr l y.ops, Xv l x.ops)]
 else if zbi l x.ops < zdc l y.ops then [(Xr l x.ops, Xv l y.ops), (Xr l y.ops, Xv l x.ops)]
 else []
def zkg (E : List (Nat × Nat)) : FV := match E with | [] => .nil | e :: E => .list 3 ((e :: E).map rtf)
set_option maxHeartbeats 4000000 in
theorem zbh (l : List OpV) (x y : ClV) (hl : l.length ≤ 1000000000) (hx : x.ops.length ≤ 1000000000) (hy : y.ops.length ≤ 1000000000) (x0 : 0 < x.ops.length) (y0 : 0 < y.ops.length) (xr : ∀ i ∈ x.ops, i < l.length) (yr : ∀ i ∈ y.ops, i < l.length) :
  yg Try.prog 58 [.list 8 (l.map OpV.fv), .agg x.fv, .agg y.fv] .sh (zkg (Vf l x y)) := by
 have hex := XV l x hl hx x0 xr
 have hey := XV l y hl hy y0 yr
 have hE : Vf l x y = if zbi l y.ops ≥ zdc l x.ops then [] else if x.ini = true then [(Xr l y.ops, Xv l x.ops)] else if zbi l x.ops < zdc l y.ops then [(Xr l x.ops, Xv l y.ops), (Xr l y.ops, Xv l x.ops)] else [] := rfl
 unfold zbi zdc at hE
 obtain ⟨R, hR⟩ : ∃ R, Vf l x y = R := ⟨_, rfl⟩
 rw [hR] at hE ⊢
 obtain ⟨bx, X⟩ := x
 obtain ⟨b2, Y⟩ := y
 dsimp only [ClV.fv] at *
 unfold zgi at hex hey
 obtain ⟨fx, hfx⟩ : ∃ z, YG (nth l (Xr l X)) = z := ⟨_, rfl⟩
 obtain ⟨fy, hfy⟩ : ∃ z, YG (nth l (Xr l Y)) = z := ⟨_, rfl⟩
 obtain ⟨sx, hsx⟩ : ∃ z, (nth l (Xv l X)).call = z := ⟨_, rfl⟩
 obtain ⟨sy, hsy⟩ : ∃ z, (nth l (Xv l Y)).call = z := ⟨_, rfl⟩
 rw [hfx, hsx] at hex
 rw [hfy, hsy] at hey
 rw [hfx, hfy, hsx, hsy] at hE
 generalize Xr l X = a at hex hE
 generalize Xv l X = b at hex hE
 generalize Xr l Y = c at hey hE
 generalize Xv l Y = d at hey hE
 have hh : (zkg R).hand = none := by unfold zkg; split <;> rfl
 refine yg.of_body (c := (Zy Try.prog zG zA 53)) ⟨Try.func58, rfl, Try.ntmps58, by kernel_rfl⟩ (by simp [FV.hand]) (by exact Nat.le_of_ble_eq_true rfl) hh ?_
 change FW _ _ _ ⟨[(0, .list 8 (l.map OpV.fv)), (1, .agg [.bool bx, .list 1 (X.map zQ)]), (2, .agg [.bool b2, .list 1 (Y.map zQ)])], []⟩
 (repeat (first | refine FW.seq ?_ | refine FW.region ?_ | refine zc.nil ?_ | refine WO rfl rfl rfl rfl rfl rfl rfl ?_ | refine za rfl rfl rfl ?_ | refine zS rfl rfl rfl (by decide) rfl rfl (by simp; done) rfl rfl rfl rfl ?_ | refine zb rfl rfl rfl ?_))
 refine zJ hex (by repeat (first | exact zj.nil | refine zj.cons (by exact yu.plain rfl rfl) ?_)) rfl rfl ?_
 (repeat (first | refine FW.seq ?_ | refine FW.region ?_ | refine zc.nil ?_ | refine za rfl rfl rfl ?_ | refine zS rfl rfl rfl (by decide) rfl rfl (by simp; done) rfl rfl rfl rfl ?_ | refine zb rfl rfl rfl ?_ | refine zI rfl rfl rfl rfl rfl ?_))
 refine zJ hey (by repeat (first | exact zj.nil | refine zj.cons (by exact yu.plain rfl rfl) ?_)) rfl rfl ?_
 (repeat (first | refine FW.seq ?_ | refine FW.region ?_ | refine FW.block ?_ | refine zc.nil ?_ | refine za rfl rfl rfl ?_ | refine zb rfl rfl rfl ?_ | refine zI rfl rfl rfl rfl rfl ?_ | refine yI rfl rfl rfl rfl ?_ | refine zY rfl rfl rfl rfl rfl rfl rfl ?_ | refine zC rfl rfl rfl rfl rfl rfl rfl rfl rfl ?_ | refine zaY rfl rfl rfl rfl ?_ | refine yP.nil ?_ | refine yP.one rfl rfl rfl rfl rfl ?_))
 refine FW.cond rfl (fun h1 => ?_) (fun h1 => ?_)
 ·rw [if_pos (by simpa using h1)] at hE
  subst hE
  (repeat (first | refine FW.seq ?_ | refine FW.region ?_ | refine zc.nil ?_ | refine za rfl rfl rfl ?_))
  exact FW.ret ⟨.inl rfl, .sh (.cons (.tmp 6 rfl rfl) .nil) rfl rfl⟩
 rw [if_neg (by simpa using h1)] at hE
 (repeat (first | refine FW.seq ?_ | refine FW.region ?_ | refine zc.nil ?_ | refine za rfl rfl rfl ?_ | refine zq rfl rfl rfl rfl rfl (by simp; done) rfl rfl rfl rfl rfl ?_ | refine zt rfl rfl rfl rfl rfl rfl (by decide) rfl rfl ?_))
 refine FW.cond rfl (fun h2 => ?_) (fun h2 => ?_)
 ·have h2 : bx = true := h2
  rw [if_pos h2] at hE
  subst hE
  (repeat (first | refine FW.seq ?_ | refine FW.region ?_ | refine zc.nil ?_ | refine za rfl rfl rfl ?_ | refine zS rfl rfl rfl (by decide) rfl rfl (by simp; done) rfl rfl rfl rfl ?_ | refine yT rfl rfl rfl rfl rfl rfl rfl rfl rfl rfl ?_))
  refine FW.le ?_ (FLe.share 6 rfl rfl rfl)
  exact FW.ret ⟨.inl rfl, .sh (.cons (.tmp 6 rfl rfl) .nil) rfl rfl⟩
 have h2 : ¬ bx = true := by rw [show bx = false from h2]; decide
 rw [if_neg h2] at hE
 (repeat (first | refine FW.seq ?_ | refine FW.region ?_ | refine zc.nil ?_ | refine za rfl rfl rfl ?_ | refine zb rfl rfl rfl ?_ | refine zH rfl rfl rfl rfl ?_))
 refine FW.cond rfl (fun h3 => ?_) (fun h3 => ?_)
 ·rw [if_pos (by simpa using h3)] at hE
  subst hE
  (repeat (first | refine FW.seq ?_ | refine FW.region ?_ | refine zS rfl rfl rfl (by decide) rfl rfl (by simp; done) rfl rfl rfl rfl ?_ | refine zb rfl rfl rfl ?_ | refine yI rfl rfl rfl rfl ?_ | refine yP.nil ?_ | refine yP.one rfl rfl rfl rfl rfl ?_))
  refine Wo (es := [rtf (a, d), rtf (c, b)]) rfl rfl rfl (by refine ZG.agg rfl rfl rfl ?_; refine ZG.agg rfl rfl rfl ?_; exact ZG.nil) rfl rfl rfl rfl rfl rfl ?_
  (repeat (first | refine zc.nil ?_ | refine za rfl rfl rfl ?_))
  refine FW.le ?_ (FLe.share 6 rfl rfl rfl)
  exact FW.ret ⟨.inl rfl, .sh (.cons (.tmp 6 rfl rfl) .nil) rfl rfl⟩
 ·rw [if_neg (by simpa using h3)] at hE
  subst hE
  (repeat (first | refine FW.seq ?_ | refine FW.region ?_ | refine FW.skip ?_ | refine zc.nil ?_ | refine za rfl rfl rfl ?_))
  exact FW.ret ⟨.inl rfl, .sh (.cons (.tmp 6 rfl rfl) .nil) rfl rfl⟩
end Go.Proofs.Ytbeebjdnapkhhaa
