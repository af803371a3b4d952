/-
  Functions of package linear, at plain values: the ends of a cluster, the conflict of two.
-/
import Derived.Test.YtbeebjdnapkhhaaZFmLin1
namespace Go.Proofs.Ytbeebjdnapkhhaa
set_option linter.unusedVariables false
open Go.RowKit

def yg (i : Nat) : List FV := [.int .i64 (i : Int)]
structure ClV where
 ini : Bool
 ops : List Nat
 deriving DecidableEq, Inhabited
def ClV.fv (c : ClV) : List FV := [.bool c.ini, .list 1 (c.ops.map yg)]
def ZT (o : OpV) : Int := if o.done then o.ret else 9223372036854775807
theorem zaK (l : List OpV) (i : Nat) (hi : i < l.length) : yd Try.prog 87 ([.int .i64 i] ++ [.eptr 1 [[.list 8 (l.map OpV.fv)]] 0 0]) .fr (.int .i64 (ZT (nth l i))) := by
 obtain ⟨o, ho⟩ : ∃ o, nth l i = o := ⟨_, rfl⟩
 rw [ho]
 refine yd.of_body (c := (ZD Try.prog zF zy 15)) ⟨Try.func87, rfl, Try.ntmps87, by kernel_rfl⟩ (by simp [FV.hand]) (by exact Nat.le_of_ble_eq_true rfl) rfl ?_
 change FW _ _ _ ⟨[(0, .int .i64 i), (1, .eptr 1 [[.list 8 (l.map OpV.fv)]] 0 0)], []⟩
 (repeat (first | refine FW.seq ?_ | refine FW.region ?_ | refine zc.nil ?_ | refine za rfl rfl rfl ?_ | refine zD rfl rfl rfl (by first | (simp; omega) | (simp; done)) (by first | exact zd (by omega) | rfl) rfl rfl rfl rfl ?_ | refine zb rfl rfl rfl ?_ | refine zC rfl rfl rfl rfl rfl rfl (by first | (simp; omega) | (simp; done)) rfl rfl ?_ | refine yI rfl rfl rfl rfl rfl rfl rfl ?_ | refine YV rfl rfl rfl ?_))
 rw [ho]
 skip
 refine FW.cond rfl (fun h => ?_) (fun h => ?_)
 ·have h : o.done = false := by simpa using h
  have : ZT o = 9223372036854775807 := by unfold ZT; rw [h]; rfl
  rw [this]
  (repeat (first | refine FW.seq ?_ | refine FW.region ?_ | refine zc.nil ?_ | refine za rfl rfl rfl ?_))
  exact FW.ret ⟨.inl rfl, zQ rfl rfl rfl rfl⟩
 ·have h : o.done = true := by simpa using h
  have : ZT o = o.ret := by unfold ZT; rw [h]; rfl
  rw [this]
  (repeat (first | refine FW.seq ?_ | refine FW.region ?_ | refine FW.skip ?_ | refine zc.nil ?_ | refine za rfl rfl rfl ?_ | refine zD rfl rfl rfl (by first | (simp; omega) | (simp; done)) (by first | exact zd (by omega) | rfl) rfl rfl rfl rfl ?_ | refine zb rfl rfl rfl ?_ | refine zC rfl rfl rfl rfl rfl rfl (by first | (simp; omega) | (simp; done)) rfl rfl ?_ | refine yI rfl rfl rfl rfl rfl rfl rfl ?_))
  rw [ho]
  skip
  exact FW.ret ⟨.inl rfl, zQ rfl rfl rfl rfl⟩

def zjV (l : List OpV) (b i : Nat) : Nat := if ZT (nth l i) < ZT (nth l b) then i else b
def zjX (l : List OpV) (b i : Nat) : Nat := if (nth l b).call < (nth l i).call then i else b
def YL (l : List OpV) (c : List Nat) : Nat := c.foldl (zjV l) (nth c 0)
def Xs (l : List OpV) (c : List Nat) : Nat := c.foldl (zjX l) (nth c 0)
def zap (l : List OpV) (c : List Nat) (k : Nat) : Nat := (c.take k).foldl (zjV l) (nth c 0)
def zby (l : List OpV) (c : List Nat) (k : Nat) : Nat := (c.take k).foldl (zjX l) (nth c 0)
theorem WG {l : List OpV} {c : List Nat} {k : Nat} (h : k < c.length) : zap l c (k + 1) = zjV l (zap l c k) (nth c k) := by
 unfold zap; rw [List.take_succ_eq_append_getElem h, List.foldl_append, zg h]; rfl
theorem WM {l : List OpV} {c : List Nat} {k : Nat} (h : k < c.length) : zby l c (k + 1) = zjX l (zby l c k) (nth c k) := by
 unfold zby; rw [List.take_succ_eq_append_getElem h, List.foldl_append, zg h]; rfl
theorem Uj {l : List OpV} {c : List Nat} (h0 : 0 < c.length) : ∀ {k : Nat}, k ≤ c.length → zap l c k ∈ c
 | 0, _ => zA h0
 | k + 1, hk => by
  rw [WG (by omega)]
  unfold zjV
  split
  ·exact zA (by omega)
  ·exact Uj h0 (by omega)
theorem UC {l : List OpV} {c : List Nat} (h0 : 0 < c.length) : ∀ {k : Nat}, k ≤ c.length → zby l c k ∈ c
 | 0, _ => zA h0
 | k + 1, hk => by
  rw [WM (by omega)]
  unfold zjX
  split
  ·exact zA (by omega)
  ·exact UC h0 (by omega)
theorem Ui (l : List OpV) (c : List Nat) : zap l c c.length = YL l c := by unfold zap YL; rw [List.take_length]
theorem UB (l : List OpV) (c : List Nat) : zby l c c.length = Xs l c := by unfold zby Xs; rw [List.take_length]
def zf9 (l : List OpV) (c : List Nat) : FV := .tup [.int .i64 (YL l c : Nat), .int .i64 (ZT (nth l (YL l c))), .int .i64 (Xs l c : Nat), .int .i64 (nth l (Xs l c)).call]
set_option maxHeartbeats 4000000 in
theorem XX (l : List OpV) (c : ClV) (hl : l.length ≤ 1000000000) (hcl : c.ops.length ≤ 1000000000) (h0 : 0 < c.ops.length) (hr : ∀ i ∈ c.ops, i < l.length) : yd Try.prog 72 [.agg c.fv, .list 8 (l.map OpV.fv)] .fr (zf9 l c.ops) := by
 obtain ⟨b, C⟩ := c
 dsimp only at h0 hr hcl ⊢
 refine yd.of_body (c := (ZD Try.prog zF zy 58)) ⟨Try.func72, rfl, Try.ntmps72, by kernel_rfl⟩ (by simp [FV.hand]) (by exact Nat.le_of_ble_eq_true rfl) rfl ?_
 change FW _ _ _ ⟨[(0, .agg [.bool b, .list 1 (C.map yg)]), (1, .list 8 (l.map OpV.fv))], []⟩
 (repeat (first | refine FW.seq ?_ | refine FW.region ?_ | refine zc.nil ?_ | refine XK rfl rfl rfl rfl rfl rfl rfl ?_ | refine zbH rfl rfl rfl rfl rfl ?_ | refine za rfl rfl rfl ?_))
 refine zc.le ?_ (FLe.shareP 3 rfl rfl)
 (repeat (first | refine FW.seq ?_ | refine zc.nil ?_ | refine za rfl rfl rfl ?_ | refine WV rfl rfl rfl rfl ?_))
 refine FW.drawQ (by kernel_rfl) ?_
 (repeat (first | refine zG.nil ?_ | refine xD rfl rfl rfl ?_ | refine Yd rfl rfl rfl rfl rfl rfl (by decide) rfl rfl ?_ | refine yh rfl rfl rfl (by first | (simp; omega) | (simp; done)) (by first | exact zd (by omega) | rfl) rfl rfl rfl rfl ?_ | refine Zf rfl rfl rfl rfl rfl (by first | (simp; omega) | (simp; done)) (by first | exact zd (by omega) | rfl) rfl rfl rfl rfl ?_ | refine yp rfl rfl rfl rfl rfl rfl (by first | (simp; omega) | (simp; done)) rfl rfl ?_))
 refine ⟨by kernel_rfl, ?_⟩
 (repeat (first | refine FW.seq ?_ | refine FW.region ?_ | refine FW.block ?_ | refine zc.nil ?_ | refine zm rfl rfl rfl rfl rfl rfl (by decide) rfl rfl ?_ | refine zn rfl rfl rfl rfl rfl (by simp; done) rfl rfl rfl rfl rfl ?_ | refine zw rfl rfl (by first | exact List.length_map _ | rfl | (simp; done)) rfl rfl ?_ | refine zb rfl rfl rfl ?_))
 refine FW.loop (fun k : Nat => ⟨[(3, .eptr 1 [[.list 8 (l.map OpV.fv)]] 0 0), (8, .fn 87 [.eptr 1 [[.list 8 (l.map OpV.fv)]] 0 0]), (4, .int .i64 (zap l C k : Nat)), (6, .int .i64 (zby l C k : Nat)), (21, .list 1 (C.map yg)), (22, .int .i64 C.length), (23, .int .i64 k)], []⟩) (fun k => k ≤ C.length) (fun k => C.length - k) 0 (Nat.zero_le _) ?_ ?_
 ·show FLe _ ⟨[(3, .eptr 1 [[.list 8 (l.map OpV.fv)]] 0 0), (8, .fn 87 [.eptr 1 [[.list 8 (l.map OpV.fv)]] 0 0]), (4, .int .i64 (nth C 0 : Nat)), (6, .int .i64 (nth C 0 : Nat)), (21, .list 1 (C.map yg)), (22, .int .i64 C.length), (23, .int .i64 0)], []⟩
  exact (FLe.conv [] (by simp) (by simp) rfl (by repeat (first | exact .nil | refine .low rfl ?_ | refine .same rfl ?_ | refine .bump (Nat.lt_succ_self _) ?_)) (by repeat (first | exact .nil)) (by repeat (first | exact .nil | refine .cons (.plain rfl rfl rfl) ?_)))
 intro k hk
 have hfm := hr _ (Uj (l := l) h0 hk)
 have hlm := hr _ (UC (l := l) h0 hk)
 have hfs := fun h => WG (l := l) (c := C) (k := k) h
 have hls := fun h => WM (l := l) (c := C) (k := k) h
 obtain ⟨f, hf⟩ : ∃ f, zap l C k = f := ⟨_, rfl⟩
 obtain ⟨g, hg⟩ : ∃ g, zby l C k = g := ⟨_, rfl⟩
 rw [hf] at hfm hfs ⊢
 rw [hg] at hlm hls ⊢
 have hef := zaK l f hfm
 (repeat (first | refine FW.seq ?_ | refine FW.region ?_ | refine zc.nil ?_ | refine zH rfl rfl rfl rfl ?_))
 refine FW.cond rfl (fun h => ?_) (fun h => ?_)
 ·have hlt : k < C.length := by simpa using h
  clear h
  have hfs := hfs hlt
  have hls := hls hlt
  obtain ⟨i, hi⟩ : ∃ i, nth C k = i := ⟨_, rfl⟩
  have hil : i < l.length := by rw [← hi]; exact hr _ (zA hlt)
  have hei := zaK l i hil
  rw [hi] at hfs hls
  unfold zjV at hfs
  unfold zjX at hls
  (repeat (first | refine FW.seq ?_ | refine FW.region ?_ | refine FW.block ?_ | refine FW.skip ?_ | refine zc.nil ?_ | refine za rfl rfl rfl ?_ | refine zD rfl rfl rfl (by simp; omega) (by first | exact zd (by omega) | rfl) rfl rfl rfl rfl ?_ | refine zC rfl rfl rfl rfl rfl rfl (by simp; omega) rfl rfl ?_ | refine zb rfl rfl rfl ?_))
  rw [hi]
  skip
  refine zbJ rfl hei (by repeat (first | exact zi.nil | refine zi.cons (by exact ym.plain rfl rfl) ?_)) rfl rfl ?_
  (repeat (first | refine zb rfl rfl rfl ?_))
  refine zbJ rfl hef (by repeat (first | exact zi.nil | refine zi.cons (by exact ym.plain rfl rfl) ?_)) rfl rfl ?_
  (repeat (first | refine zc.nil ?_ | refine zH rfl rfl rfl rfl ?_))
  refine FW.join (fun q : Nat => ⟨[(3, .eptr 1 [[.list 8 (l.map OpV.fv)]] 0 0), (8, .fn 87 [.eptr 1 [[.list 8 (l.map OpV.fv)]] 0 0]), (4, .int .i64 (q : Nat)), (10, .int .i64 i), (6, .int .i64 g), (21, .list 1 (C.map yg)), (22, .int .i64 C.length), (23, .int .i64 k)], []⟩) (fun q => zap l C (k + 1) = q) ?_ ?_
  ·refine FW.cond rfl (fun h => ?_) (fun h => ?_)
   ·rw [if_pos (by simpa using h)] at hfs
    (repeat (first | refine FW.region ?_ | refine zc.nil ?_ | refine za rfl rfl rfl ?_ | refine zb rfl rfl rfl ?_))
    refine ⟨rfl, i, hfs, ?_⟩
    exact (FLe.conv [] (by simp) (by simp) rfl (by repeat (first | exact .nil | refine .low rfl ?_ | refine .same rfl ?_ | refine .bump (Nat.lt_succ_self _) ?_)) (by repeat (first | exact .nil)) (by repeat (first | exact .nil | refine .cons (.plain rfl rfl rfl) ?_)))
   ·rw [if_neg (by simpa using h)] at hfs
    (repeat (first | refine FW.skip ?_))
    refine ⟨rfl, f, hfs, ?_⟩
    exact (FLe.conv [] (by simp) (by simp) rfl (by repeat (first | exact .nil | refine .low rfl ?_ | refine .same rfl ?_ | refine .bump (Nat.lt_succ_self _) ?_)) (by repeat (first | exact .nil)) (by repeat (first | exact .nil | refine .cons (.plain rfl rfl rfl) ?_)))
  rintro q hq
  refine FW.seq ?_
  refine FW.drawQ (by kernel_rfl) ?_
  (repeat (first | refine zG.nil ?_ | refine xY rfl rfl rfl rfl rfl rfl rfl ?_ | refine yh rfl rfl rfl (by first | (simp; omega) | (simp; done)) (by first | exact zd (by omega) | rfl) rfl rfl rfl rfl ?_ | refine yp rfl rfl rfl rfl rfl rfl (by first | (simp; omega) | (simp; done)) rfl rfl ?_ | refine zS rfl rfl rfl ?_ | refine zkm rfl rfl rfl rfl ?_))
  refine ⟨by kernel_rfl, ?_⟩
  refine FW.cond rfl (fun h => ?_) (fun h => ?_)
  ·rw [if_pos (by simpa using h)] at hls
   (repeat (first | refine FW.region ?_ | refine zc.nil ?_ | refine za rfl rfl rfl ?_ | refine zb rfl rfl rfl ?_ | refine zt rfl rfl (by omega) rfl rfl ?_))
   refine ⟨k + 1, by omega, by omega, ?_⟩
   rw [hq, hls]
   exact (FLe.conv [] (by simp) (by simp) rfl (by repeat (first | exact .nil | refine .low rfl ?_ | refine .same rfl ?_ | refine .bump (Nat.lt_succ_self _) ?_)) (by repeat (first | exact .nil)) (by repeat (first | exact .nil | refine .cons (.plain rfl rfl rfl) ?_)))
  ·rw [if_neg (by simpa using h)] at hls
   (repeat (first | refine FW.region ?_ | refine FW.skip ?_ | refine zc.nil ?_ | refine zb rfl rfl rfl ?_ | refine zt rfl rfl (by omega) rfl rfl ?_))
   refine ⟨k + 1, by omega, by omega, ?_⟩
   rw [hq, hls]
   exact (FLe.conv [] (by simp) (by simp) rfl (by repeat (first | exact .nil | refine .low rfl ?_ | refine .same rfl ?_ | refine .bump (Nat.lt_succ_self _) ?_)) (by repeat (first | exact .nil)) (by repeat (first | exact .nil | refine .cons (.plain rfl rfl rfl) ?_)))
 ·obtain rfl : k = C.length := by simp at h; omega
  rw [Ui] at hf
  rw [UB] at hg
  unfold zf9
  rw [hf, hg]
  (repeat (first | refine FW.seq ?_ | refine FW.exit ?_))
  refine FW.drawQ (by kernel_rfl) ?_
  (repeat (first | refine zS rfl rfl rfl ?_))
  refine ziy rfl hef (by repeat (first | exact zi.nil | refine zi.cons (by exact ym.plain rfl rfl) ?_)) rfl rfl ?_
  (repeat (first | refine zG.nil ?_ | refine xD rfl rfl rfl ?_ | refine xY rfl rfl rfl rfl rfl rfl rfl ?_ | refine yh rfl rfl rfl (by first | (simp; omega) | (simp; done)) (by first | exact zd (by omega) | rfl) rfl rfl rfl rfl ?_ | refine yp rfl rfl rfl rfl rfl rfl (by first | (simp; omega) | (simp; done)) rfl rfl ?_ | refine zS rfl rfl rfl ?_))
  refine ⟨by kernel_rfl, ?_⟩
  skip
  exact FW.ret ⟨.inl rfl, .flat (.cons (.tmp 4 rfl rfl) (.cons (.tmp 5 rfl rfl) (.cons (.tmp 6 rfl rfl) (.cons (.tmp 7 rfl rfl) .nil)))) rfl rfl⟩

def rtf (e : Nat × Nat) : List FV := [.int .i64 (e.1 : Nat), .int .i64 (e.2 : Nat), .int .i64 5]
def Vd (l : List OpV) (c : List Nat) : Int := ZT (nth l (YL l c))
def VD (l : List OpV) (c : List Nat) : Int := (nth l (Xs l c)).call
def YI (l : List OpV) (x y : ClV) : List (Nat × Nat) :=
 if Vd l y.ops ≥ VD l x.ops then []
 else if x.ini = true then [(YL l y.ops, Xs l x.ops)]
 else if Vd l x.ops < VD l y.ops then [(YL l x.ops, Xs l y.ops), (YL l y.ops, Xs l x.ops)]
 else []
def zj3 (E : List (Nat × Nat)) : FV := match E with | [] => .nil | e :: E => .list 3 ((e :: E).map rtf)
set_option maxHeartbeats 4000000 in
theorem zbk (l : List OpV) (x y : ClV) (hl : l.length ≤ 1000000000) (hx : x.ops.length ≤ 1000000000) (hy : y.ops.length ≤ 1000000000) (x0 : 0 < x.ops.length) (y0 : 0 < y.ops.length) (xr : ∀ i ∈ x.ops, i < l.length) (yr : ∀ i ∈ y.ops, i < l.length) :
  yd Try.prog 58 [.list 8 (l.map OpV.fv), .agg x.fv, .agg y.fv] .sh (zj3 (YI l x y)) := by
 have hex := XX l x hl hx x0 xr
 have hey := XX l y hl hy y0 yr
 have hE : YI l x y = if Vd l y.ops ≥ VD l x.ops then [] else if x.ini = true then [(YL l y.ops, Xs l x.ops)] else if Vd l x.ops < VD l y.ops then [(YL l x.ops, Xs l y.ops), (YL l y.ops, Xs l x.ops)] else [] := rfl
 unfold Vd VD at hE
 obtain ⟨R, hR⟩ : ∃ R, YI l x y = R := ⟨_, rfl⟩
 rw [hR] at hE ⊢
 obtain ⟨bx, X⟩ := x
 obtain ⟨b2, Y⟩ := y
 dsimp only [ClV.fv] at *
 unfold zf9 at hex hey
 obtain ⟨fx, hfx⟩ : ∃ z, ZT (nth l (YL l X)) = z := ⟨_, rfl⟩
 obtain ⟨fy, hfy⟩ : ∃ z, ZT (nth l (YL l Y)) = z := ⟨_, rfl⟩
 obtain ⟨sx, hsx⟩ : ∃ z, (nth l (Xs l X)).call = z := ⟨_, rfl⟩
 obtain ⟨sy, hsy⟩ : ∃ z, (nth l (Xs l Y)).call = z := ⟨_, rfl⟩
 rw [hfx, hsx] at hex
 rw [hfy, hsy] at hey
 rw [hfx, hfy, hsx, hsy] at hE
 generalize YL l X = a at hex hE
 generalize Xs l X = b at hex hE
 generalize YL l Y = c at hey hE
 generalize Xs l Y = d at hey hE
 have hh : (zj3 R).hand = none := by unfold zj3; split <;> rfl
 refine yd.of_body (c := (ZD Try.prog zF zy 53)) ⟨Try.func58, rfl, Try.ntmps58, by kernel_rfl⟩ (by simp [FV.hand]) (by exact Nat.le_of_ble_eq_true rfl) hh ?_
 change FW _ _ _ ⟨[(0, .list 8 (l.map OpV.fv)), (1, .agg [.bool bx, .list 1 (X.map yg)]), (2, .agg [.bool b2, .list 1 (Y.map yg)])], []⟩
 (repeat (first | refine FW.seq ?_ | refine FW.region ?_ | refine zc.nil ?_ | refine XK rfl rfl rfl rfl rfl rfl rfl ?_ | refine za rfl rfl rfl ?_ | refine zL rfl rfl rfl (by decide) rfl rfl (by simp; done) rfl rfl rfl rfl ?_ | refine zb rfl rfl rfl ?_))
 refine zM hex (by repeat (first | exact zi.nil | refine zi.cons (by exact ym.plain rfl rfl) ?_)) rfl rfl ?_
 (repeat (first | refine FW.seq ?_ | refine FW.region ?_ | refine zc.nil ?_ | refine za rfl rfl rfl ?_ | refine zL rfl rfl rfl (by decide) rfl rfl (by simp; done) rfl rfl rfl rfl ?_ | refine zb rfl rfl rfl ?_ | refine zI rfl rfl rfl rfl rfl ?_))
 refine zM hey (by repeat (first | exact zi.nil | refine zi.cons (by exact ym.plain rfl rfl) ?_)) rfl rfl ?_
 (repeat (first | refine FW.seq ?_ | refine FW.region ?_ | refine FW.block ?_ | refine zc.nil ?_ | refine za rfl rfl rfl ?_ | refine zb rfl rfl rfl ?_ | refine zI rfl rfl rfl rfl rfl ?_ | refine yG rfl rfl rfl rfl ?_ | refine zT rfl rfl rfl rfl rfl rfl rfl ?_ | refine zB rfl rfl rfl rfl rfl rfl rfl rfl rfl ?_ | refine za1 rfl rfl rfl rfl ?_ | refine yR.nil ?_ | refine yR.one rfl rfl rfl rfl rfl ?_))
 refine FW.cond rfl (fun h1 => ?_) (fun h1 => ?_)
 ·rw [if_pos (by simpa using h1)] at hE
  subst hE
  (repeat (first | refine FW.seq ?_ | refine FW.region ?_ | refine zc.nil ?_ | refine za rfl rfl rfl ?_))
  exact FW.ret ⟨.inl rfl, .sh (.cons (.tmp 6 rfl rfl) .nil) rfl rfl⟩
 rw [if_neg (by simpa using h1)] at hE
 (repeat (first | refine FW.seq ?_ | refine FW.region ?_ | refine zc.nil ?_ | refine za rfl rfl rfl ?_ | refine zn rfl rfl rfl rfl rfl (by simp; done) rfl rfl rfl rfl rfl ?_ | refine zm rfl rfl rfl rfl rfl rfl (by decide) rfl rfl ?_))
 refine FW.cond rfl (fun h2 => ?_) (fun h2 => ?_)
 ·have h2 : bx = true := h2
  rw [if_pos h2] at hE
  subst hE
  (repeat (first | refine FW.seq ?_ | refine FW.region ?_ | refine zc.nil ?_ | refine za rfl rfl rfl ?_ | refine zL rfl rfl rfl (by decide) rfl rfl (by simp; done) rfl rfl rfl rfl ?_ | refine yT rfl rfl rfl rfl rfl rfl rfl rfl rfl rfl ?_))
  refine FW.le ?_ (FLe.share 6 rfl rfl rfl)
  exact FW.ret ⟨.inl rfl, .sh (.cons (.tmp 6 rfl rfl) .nil) rfl rfl⟩
 have h2 : ¬ bx = true := by rw [show bx = false from h2]; decide
 rw [if_neg h2] at hE
 (repeat (first | refine FW.seq ?_ | refine FW.region ?_ | refine zc.nil ?_ | refine za rfl rfl rfl ?_ | refine zb rfl rfl rfl ?_ | refine zH rfl rfl rfl rfl ?_))
 refine FW.cond rfl (fun h3 => ?_) (fun h3 => ?_)
 ·rw [if_pos (by simpa using h3)] at hE
  subst hE
  (repeat (first | refine FW.seq ?_ | refine FW.region ?_ | refine zL rfl rfl rfl (by decide) rfl rfl (by simp; done) rfl rfl rfl rfl ?_ | refine zb rfl rfl rfl ?_ | refine yG rfl rfl rfl rfl ?_ | refine yR.nil ?_ | refine yR.one rfl rfl rfl rfl rfl ?_))
  refine Wu (es := [rtf (a, d), rtf (c, b)]) rfl rfl rfl (by refine ZL.agg rfl rfl rfl ?_; refine ZL.agg rfl rfl rfl ?_; exact ZL.nil) rfl rfl rfl rfl rfl rfl ?_
  (repeat (first | refine zc.nil ?_ | refine za rfl rfl rfl ?_))
  refine FW.le ?_ (FLe.share 6 rfl rfl rfl)
  exact FW.ret ⟨.inl rfl, .sh (.cons (.tmp 6 rfl rfl) .nil) rfl rfl⟩
 ·rw [if_neg (by simpa using h3)] at hE
  subst hE
  (repeat (first | refine FW.seq ?_ | refine FW.region ?_ | refine FW.skip ?_ | refine zc.nil ?_ | refine za rfl rfl rfl ?_))
  exact FW.ret ⟨.inl rfl, .sh (.cons (.tmp 6 rfl rfl) .nil) rfl rfl⟩
end Go.Proofs.Ytbeebjdnapkhhaa
