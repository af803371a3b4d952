/-
  Functions of package linear, at plain values: the ends of a cluster, the conflict of two.
-/
import Derived.Test.YtbeebjdnapkhhaaZFmLin1
namespace Go.Proofs.Ytbeebjdnapkhhaa
set_option linter.unusedVariables false
open Go.RowKit

def yp (i : Nat) : List FV := [.int .i64 (i : Int)]
structure ClV where
 ini : Bool
 ops : List Nat
 deriving DecidableEq, Inhabited
def ClV.fv (c : ClV) : List FV := [.bool c.ini, .list 1 (c.ops.map yp)]
def Yu (o : OpV) : Int := if o.done then o.ret else 9223372036854775807
theorem zau (l : List OpV) (i : Nat) (hi : i < l.length) : yc Try.prog 87 ([.int .i64 i] ++ [.eptr 1 [[.list 8 (l.map OpV.fv)]] 0 0]) .fr (.int .i64 (Yu (nth l i))) := by
 obtain ⟨o, ho⟩ : ∃ o, nth l i = o := ⟨_, rfl⟩
 rw [ho]
 refine yc.of_body (c := (Zq Try.prog zE zy 15)) ⟨Try.func87, rfl, Try.ntmps87, by kernel_rfl⟩ (by simp [FV.hand]) (by exact Nat.le_of_ble_eq_true rfl) rfl ?_
 change FW _ _ _ ⟨[(0, .int .i64 i), (1, .eptr 1 [[.list 8 (l.map OpV.fv)]] 0 0)], []⟩
 (repeat (first | refine FW.seq ?_ | refine FW.region ?_ | refine zd.nil ?_ | refine za rfl rfl rfl ?_ | refine zD rfl rfl rfl (by first | (simp; omega) | (simp; done)) (by first | exact zc (by omega) | rfl) rfl rfl rfl rfl ?_ | refine zb rfl rfl rfl ?_ | refine zu rfl rfl rfl rfl rfl rfl (by first | (simp; omega) | (simp; done)) rfl rfl ?_ | refine yh rfl rfl rfl rfl rfl rfl rfl ?_ | refine YN rfl rfl rfl ?_))
 rw [ho]
 skip
 refine FW.cond rfl (fun h => ?_) (fun h => ?_)
 ·have h : o.done = false := by simpa using h
  have : Yu o = 9223372036854775807 := by unfold Yu; rw [h]; rfl
  rw [this]
  (repeat (first | refine FW.seq ?_ | refine FW.region ?_ | refine zd.nil ?_ | refine za rfl rfl rfl ?_))
  exact FW.ret ⟨.inl rfl, zK rfl rfl rfl rfl⟩
 ·have h : o.done = true := by simpa using h
  have : Yu o = o.ret := by unfold Yu; rw [h]; rfl
  rw [this]
  (repeat (first | refine FW.seq ?_ | refine FW.region ?_ | refine FW.skip ?_ | refine zd.nil ?_ | refine za rfl rfl rfl ?_ | refine zD rfl rfl rfl (by first | (simp; omega) | (simp; done)) (by first | exact zc (by omega) | rfl) rfl rfl rfl rfl ?_ | refine zb rfl rfl rfl ?_ | refine zu rfl rfl rfl rfl rfl rfl (by first | (simp; omega) | (simp; done)) rfl rfl ?_ | refine yh rfl rfl rfl rfl rfl rfl rfl ?_))
  rw [ho]
  skip
  exact FW.ret ⟨.inl rfl, zK rfl rfl rfl rfl⟩

def zjt (l : List OpV) (b i : Nat) : Nat := if Yu (nth l i) < Yu (nth l b) then i else b
def zjv (l : List OpV) (b i : Nat) : Nat := if (nth l b).call < (nth l i).call then i else b
def Yg (l : List OpV) (c : List Nat) : Nat := c.foldl (zjt l) (nth c 0)
def Yw (l : List OpV) (c : List Nat) : Nat := c.foldl (zjv l) (nth c 0)
def UX (l : List OpV) (c : List Nat) (k : Nat) : Nat := (c.take k).foldl (zjt l) (nth c 0)
def zbf (l : List OpV) (c : List Nat) (k : Nat) : Nat := (c.take k).foldl (zjv l) (nth c 0)
theorem Wt {l : List OpV} {c : List Nat} {k : Nat} (h : k < c.length) : UX l c (k + 1) = zjt l (UX l c k) (nth c k) := by
 unfold UX; rw [List.take_succ_eq_append_getElem h, List.foldl_append, zm h]; rfl
theorem Wz {l : List OpV} {c : List Nat} {k : Nat} (h : k < c.length) : zbf l c (k + 1) = zjv l (zbf l c k) (nth c k) := by
 unfold zbf; rw [List.take_succ_eq_append_getElem h, List.foldl_append, zm h]; rfl
theorem VS {l : List OpV} {c : List Nat} (h0 : 0 < c.length) : ∀ {k : Nat}, k ≤ c.length → UX l c k ∈ c
 | 0, _ => zC h0
 | k + 1, hk => by
  rw [Wt (by omega)]
  unfold zjt
  split
  ·exact zC (by omega)
  ·exact VS h0 (by omega)
theorem Ul {l : List OpV} {c : List Nat} (h0 : 0 < c.length) : ∀ {k : Nat}, k ≤ c.length → zbf l c k ∈ c
 | 0, _ => zC h0
 | k + 1, hk => by
  rw [Wz (by omega)]
  unfold zjv
  split
  ·exact zC (by omega)
  ·exact Ul h0 (by omega)
theorem VQ (l : List OpV) (c : List Nat) : UX l c c.length = Yg l c := by unfold UX Yg; rw [List.take_length]
theorem Uk (l : List OpV) (c : List Nat) : zbf l c c.length = Yw l c := by unfold zbf Yw; rw [List.take_length]
def zfN (l : List OpV) (c : List Nat) : FV := .tup [.int .i64 (Yg l c : Nat), .int .i64 (Yu (nth l (Yg l c))), .int .i64 (Yw l c : Nat), .int .i64 (nth l (Yw l c)).call]
set_option maxHeartbeats 4000000 in
theorem XN (l : List OpV) (c : ClV) (hl : l.length ≤ 1000000000) (hcl : c.ops.length ≤ 1000000000) (h0 : 0 < c.ops.length) (hr : ∀ i ∈ c.ops, i < l.length) : yc Try.prog 72 [.agg c.fv, .list 8 (l.map OpV.fv)] .fr (zfN l c.ops) := by
 obtain ⟨b, C⟩ := c
 dsimp only at h0 hr hcl ⊢
 refine yc.of_body (c := (Zq Try.prog zE zy 58)) ⟨Try.func72, rfl, Try.ntmps72, by kernel_rfl⟩ (by simp [FV.hand]) (by exact Nat.le_of_ble_eq_true rfl) rfl ?_
 change FW _ _ _ ⟨[(0, .agg [.bool b, .list 1 (C.map yp)]), (1, .list 8 (l.map OpV.fv))], []⟩
 (repeat (first | refine FW.seq ?_ | refine FW.region ?_ | refine zd.nil ?_ | refine ZI rfl rfl rfl rfl rfl rfl rfl ?_ | refine zbo rfl rfl rfl rfl rfl ?_ | refine za rfl rfl rfl ?_))
 refine zd.le ?_ (FLe.shareP 3 rfl rfl)
 (repeat (first | refine FW.seq ?_ | refine zd.nil ?_ | refine za rfl rfl rfl ?_ | refine WH rfl rfl rfl rfl ?_))
 refine FW.drawQ (by kernel_rfl) ?_
 (repeat (first | refine zF.nil ?_ | refine yN rfl rfl rfl ?_ | refine Zo rfl rfl rfl rfl rfl rfl (by decide) rfl rfl ?_ | refine yg rfl rfl rfl (by first | (simp; omega) | (simp; done)) (by first | exact zc (by omega) | rfl) rfl rfl rfl rfl ?_ | refine xL rfl rfl rfl rfl rfl (by first | (simp; omega) | (simp; done)) (by first | exact zc (by omega) | rfl) rfl rfl rfl rfl ?_ | refine yd rfl rfl rfl rfl rfl rfl (by first | (simp; omega) | (simp; done)) rfl rfl ?_))
 refine ⟨by kernel_rfl, ?_⟩
 (repeat (first | refine FW.seq ?_ | refine FW.region ?_ | refine FW.block ?_ | refine zd.nil ?_ | refine zg rfl rfl rfl rfl rfl rfl (by decide) rfl rfl ?_ | refine zh rfl rfl rfl rfl rfl (by simp; done) rfl rfl rfl rfl rfl ?_ | refine zn rfl rfl (by first | exact List.length_map _ | rfl | (simp; done)) rfl rfl ?_ | refine zb rfl rfl rfl ?_))
 refine FW.loop (fun k : Nat => ⟨[(3, .eptr 1 [[.list 8 (l.map OpV.fv)]] 0 0), (8, .fn 87 [.eptr 1 [[.list 8 (l.map OpV.fv)]] 0 0]), (4, .int .i64 (UX l C k : Nat)), (6, .int .i64 (zbf l C k : Nat)), (21, .list 1 (C.map yp)), (22, .int .i64 C.length), (23, .int .i64 k)], []⟩) (fun k => k ≤ C.length) (fun k => C.length - k) 0 (Nat.zero_le _) ?_ ?_
 ·show FLe _ ⟨[(3, .eptr 1 [[.list 8 (l.map OpV.fv)]] 0 0), (8, .fn 87 [.eptr 1 [[.list 8 (l.map OpV.fv)]] 0 0]), (4, .int .i64 (nth C 0 : Nat)), (6, .int .i64 (nth C 0 : Nat)), (21, .list 1 (C.map yp)), (22, .int .i64 C.length), (23, .int .i64 0)], []⟩
  exact (FLe.conv [] (by simp) (by simp) rfl (by repeat (first | exact .nil | refine .low rfl ?_ | refine .same rfl ?_ | refine .bump (Nat.lt_succ_self _) ?_)) (by repeat (first | exact .nil)) (by repeat (first | exact .nil | refine .cons (.plain rfl rfl rfl) ?_)))
 intro k hk
 have hfm := hr _ (VS (l := l) h0 hk)
 have hlm := hr _ (Ul (l := l) h0 hk)
 have hfs := fun h => Wt (l := l) (c := C) (k := k) h
 have hls := fun h => Wz (l := l) (c := C) (k := k) h
 obtain ⟨f, hf⟩ : ∃ f, UX l C k = f := ⟨_, rfl⟩
 obtain ⟨g, hg⟩ : ∃ g, zbf l C k = g := ⟨_, rfl⟩
 rw [hf] at hfm hfs ⊢
 rw [hg] at hlm hls ⊢
 have hef := zau l f hfm
 (repeat (first | refine FW.seq ?_ | refine FW.region ?_ | refine zd.nil ?_ | refine zJ rfl rfl rfl rfl ?_))
 refine FW.cond rfl (fun h => ?_) (fun h => ?_)
 ·have hlt : k < C.length := by simpa using h
  clear h
  have hfs := hfs hlt
  have hls := hls hlt
  obtain ⟨i, hi⟩ : ∃ i, nth C k = i := ⟨_, rfl⟩
  have hil : i < l.length := by rw [← hi]; exact hr _ (zC hlt)
  have hei := zau l i hil
  rw [hi] at hfs hls
  unfold zjt at hfs
  unfold zjv at hls
  (repeat (first | refine FW.seq ?_ | refine FW.region ?_ | refine FW.block ?_ | refine FW.skip ?_ | refine zd.nil ?_ | refine za rfl rfl rfl ?_ | refine zD rfl rfl rfl (by simp; omega) (by first | exact zc (by omega) | rfl) rfl rfl rfl rfl ?_ | refine zu rfl rfl rfl rfl rfl rfl (by simp; omega) rfl rfl ?_ | refine zb rfl rfl rfl ?_))
  rw [hi]
  skip
  refine zbq rfl hei (by repeat (first | exact zi.nil | refine zi.cons (by exact yj.plain rfl rfl) ?_)) rfl rfl ?_
  (repeat (first | refine zb rfl rfl rfl ?_))
  refine zbq rfl hef (by repeat (first | exact zi.nil | refine zi.cons (by exact yj.plain rfl rfl) ?_)) rfl rfl ?_
  (repeat (first | refine zd.nil ?_ | refine zJ rfl rfl rfl rfl ?_))
  refine FW.join (fun q : Nat => ⟨[(3, .eptr 1 [[.list 8 (l.map OpV.fv)]] 0 0), (8, .fn 87 [.eptr 1 [[.list 8 (l.map OpV.fv)]] 0 0]), (4, .int .i64 (q : Nat)), (10, .int .i64 i), (6, .int .i64 g), (21, .list 1 (C.map yp)), (22, .int .i64 C.length), (23, .int .i64 k)], []⟩) (fun q => UX l C (k + 1) = q) ?_ ?_
  ·refine FW.cond rfl (fun h => ?_) (fun h => ?_)
   ·rw [if_pos (by simpa using h)] at hfs
    (repeat (first | refine FW.region ?_ | refine zd.nil ?_ | refine za rfl rfl rfl ?_ | refine zb rfl rfl rfl ?_))
    refine ⟨rfl, i, hfs, ?_⟩
    exact (FLe.conv [] (by simp) (by simp) rfl (by repeat (first | exact .nil | refine .low rfl ?_ | refine .same rfl ?_ | refine .bump (Nat.lt_succ_self _) ?_)) (by repeat (first | exact .nil)) (by repeat (first | exact .nil | refine .cons (.plain rfl rfl rfl) ?_)))
   ·rw [if_neg (by simpa using h)] at hfs
    (repeat (first | refine FW.skip ?_))
    refine ⟨rfl, f, hfs, ?_⟩
    exact (FLe.conv [] (by simp) (by simp) rfl (by repeat (first | exact .nil | refine .low rfl ?_ | refine .same rfl ?_ | refine .bump (Nat.lt_succ_self _) ?_)) (by repeat (first | exact .nil)) (by repeat (first | exact .nil | refine .cons (.plain rfl rfl rfl) ?_)))
  rintro q hq
  refine FW.seq ?_
  refine FW.drawQ (by kernel_rfl) ?_
  (repeat (first | refine zF.nil ?_ | refine xe rfl rfl rfl rfl rfl rfl rfl ?_ | refine yg rfl rfl rfl (by first | (simp; omega) | (simp; done)) (by first | exact zc (by omega) | rfl) rfl rfl rfl rfl ?_ | refine yd rfl rfl rfl rfl rfl rfl (by first | (simp; omega) | (simp; done)) rfl rfl ?_ | refine zR rfl rfl rfl ?_ | refine zjT rfl rfl rfl rfl ?_))
  refine ⟨by kernel_rfl, ?_⟩
  refine FW.cond rfl (fun h => ?_) (fun h => ?_)
  ·rw [if_pos (by simpa using h)] at hls
   (repeat (first | refine FW.region ?_ | refine zd.nil ?_ | refine za rfl rfl rfl ?_ | refine zb rfl rfl rfl ?_ | refine zw rfl rfl (by omega) rfl rfl ?_))
   refine ⟨k + 1, by omega, by omega, ?_⟩
   rw [hq, hls]
   exact (FLe.conv [] (by simp) (by simp) rfl (by repeat (first | exact .nil | refine .low rfl ?_ | refine .same rfl ?_ | refine .bump (Nat.lt_succ_self _) ?_)) (by repeat (first | exact .nil)) (by repeat (first | exact .nil | refine .cons (.plain rfl rfl rfl) ?_)))
  ·rw [if_neg (by simpa using h)] at hls
   (repeat (first | refine FW.region ?_ | refine FW.skip ?_ | refine zd.nil ?_ | refine zb rfl rfl rfl ?_ | refine zw rfl rfl (by omega) rfl rfl ?_))
   refine ⟨k + 1, by omega, by omega, ?_⟩
   rw [hq, hls]
   exact (FLe.conv [] (by simp) (by simp) rfl (by repeat (first | exact .nil | refine .low rfl ?_ | refine .same rfl ?_ | refine .bump (Nat.lt_succ_self _) ?_)) (by repeat (first | exact .nil)) (by repeat (first | exact .nil | refine .cons (.plain rfl rfl rfl) ?_)))
 ·obtain rfl : k = C.length := by simp at h; omega
  rw [VQ] at hf
  rw [Uk] at hg
  unfold zfN
  rw [hf, hg]
  (repeat (first | refine FW.seq ?_ | refine FW.exit ?_))
  refine FW.drawQ (by kernel_rfl) ?_
  (repeat (first | refine zR rfl rfl rfl ?_))
  refine zh4 rfl hef (by repeat (first | exact zi.nil | refine zi.cons (by exact yj.plain rfl rfl) ?_)) rfl rfl ?_
  (repeat (first | refine zF.nil ?_ | refine yN rfl rfl rfl ?_ | refine xe rfl rfl rfl rfl rfl rfl rfl ?_ | refine yg rfl rfl rfl (by first | (simp; omega) | (simp; done)) (by first | exact zc (by omega) | rfl) rfl rfl rfl rfl ?_ | refine yd rfl rfl rfl rfl rfl rfl (by first | (simp; omega) | (simp; done)) rfl rfl ?_ | refine zR rfl rfl rfl ?_))
  refine ⟨by kernel_rfl, ?_⟩
  skip
  exact FW.ret ⟨.inl rfl, .flat (.cons (.tmp 4 rfl rfl) (.cons (.tmp 5 rfl rfl) (.cons (.tmp 6 rfl rfl) (.cons (.tmp 7 rfl rfl) .nil)))) rfl rfl⟩

def rtf (e : Nat × Nat) : List FV := [.int .i64 (e.1 : Nat), .int .i64 (e.2 : Nat), .int .i64 5]
def VH (l : List OpV) (c : List Nat) : Int := Yu (nth l (Yg l c))
def zal (l : List OpV) (c : List Nat) : Int := (nth l (Yw l c)).call
def Xh (l : List OpV) (x y : ClV) : List (Nat × Nat) :=
 if VH l y.ops ≥ zal l x.ops then []
 else if x.ini = true then [(Yg l y.ops, Yw l x.ops)]
 else if VH l x.ops < zal l y.ops then [(Yg l x.ops, Yw l y.ops), (Yg l y.ops, Yw l x.ops)]
 else []
def zjB (E : List (Nat × Nat)) : FV := match E with | [] => .nil | e :: E => .list 3 ((e :: E).map rtf)
set_option maxHeartbeats 4000000 in
theorem za1 (l : List OpV) (x y : ClV) (hl : l.length ≤ 1000000000) (hx : x.ops.length ≤ 1000000000) (hy : y.ops.length ≤ 1000000000) (x0 : 0 < x.ops.length) (y0 : 0 < y.ops.length) (xr : ∀ i ∈ x.ops, i < l.length) (yr : ∀ i ∈ y.ops, i < l.length) :
  yc Try.prog 58 [.list 8 (l.map OpV.fv), .agg x.fv, .agg y.fv] .sh (zjB (Xh l x y)) := by
 have hex := XN l x hl hx x0 xr
 have hey := XN l y hl hy y0 yr
 have hE : Xh l x y = if VH l y.ops ≥ zal l x.ops then [] else if x.ini = true then [(Yg l y.ops, Yw l x.ops)] else if VH l x.ops < zal l y.ops then [(Yg l x.ops, Yw l y.ops), (Yg l y.ops, Yw l x.ops)] else [] := rfl
 unfold VH zal at hE
 obtain ⟨R, hR⟩ : ∃ R, Xh l x y = R := ⟨_, rfl⟩
 rw [hR] at hE ⊢
 obtain ⟨bx, X⟩ := x
 obtain ⟨b2, Y⟩ := y
 dsimp only [ClV.fv] at *
 unfold zfN at hex hey
 obtain ⟨fx, hfx⟩ : ∃ z, Yu (nth l (Yg l X)) = z := ⟨_, rfl⟩
 obtain ⟨fy, hfy⟩ : ∃ z, Yu (nth l (Yg l Y)) = z := ⟨_, rfl⟩
 obtain ⟨sx, hsx⟩ : ∃ z, (nth l (Yw l X)).call = z := ⟨_, rfl⟩
 obtain ⟨sy, hsy⟩ : ∃ z, (nth l (Yw l Y)).call = z := ⟨_, rfl⟩
 rw [hfx, hsx] at hex
 rw [hfy, hsy] at hey
 rw [hfx, hfy, hsx, hsy] at hE
 generalize Yg l X = a at hex hE
 generalize Yw l X = b at hex hE
 generalize Yg l Y = c at hey hE
 generalize Yw l Y = d at hey hE
 have hh : (zjB R).hand = none := by unfold zjB; split <;> rfl
 refine yc.of_body (c := (Zq Try.prog zE zy 53)) ⟨Try.func58, rfl, Try.ntmps58, by kernel_rfl⟩ (by simp [FV.hand]) (by exact Nat.le_of_ble_eq_true rfl) hh ?_
 change FW _ _ _ ⟨[(0, .list 8 (l.map OpV.fv)), (1, .agg [.bool bx, .list 1 (X.map yp)]), (2, .agg [.bool b2, .list 1 (Y.map yp)])], []⟩
 (repeat (first | refine FW.seq ?_ | refine FW.region ?_ | refine zd.nil ?_ | refine ZI rfl rfl rfl rfl rfl rfl rfl ?_ | refine za rfl rfl rfl ?_ | refine zO rfl rfl rfl (by decide) rfl rfl (by simp; done) rfl rfl rfl rfl ?_ | refine zb rfl rfl rfl ?_))
 refine zI hex (by repeat (first | exact zi.nil | refine zi.cons (by exact yj.plain rfl rfl) ?_)) rfl rfl ?_
 (repeat (first | refine FW.seq ?_ | refine FW.region ?_ | refine zd.nil ?_ | refine za rfl rfl rfl ?_ | refine zO rfl rfl rfl (by decide) rfl rfl (by simp; done) rfl rfl rfl rfl ?_ | refine zb rfl rfl rfl ?_ | refine zM rfl rfl rfl rfl rfl ?_))
 refine zI hey (by repeat (first | exact zi.nil | refine zi.cons (by exact yj.plain rfl rfl) ?_)) rfl rfl ?_
 (repeat (first | refine FW.seq ?_ | refine FW.region ?_ | refine FW.block ?_ | refine zd.nil ?_ | refine za rfl rfl rfl ?_ | refine zb rfl rfl rfl ?_ | refine zM rfl rfl rfl rfl rfl ?_ | refine yG rfl rfl rfl rfl ?_ | refine zS rfl rfl rfl rfl rfl rfl rfl ?_ | refine zA rfl rfl rfl rfl rfl rfl rfl rfl rfl ?_ | refine WR rfl rfl rfl rfl ?_ | refine yL.nil ?_ | refine yL.one rfl rfl rfl rfl rfl ?_))
 refine FW.cond rfl (fun h1 => ?_) (fun h1 => ?_)
 ·rw [if_pos (by simpa using h1)] at hE
  subst hE
  (repeat (first | refine FW.seq ?_ | refine FW.region ?_ | refine zd.nil ?_ | refine za rfl rfl rfl ?_))
  exact FW.ret ⟨.inl rfl, .sh (.cons (.tmp 6 rfl rfl) .nil) rfl rfl⟩
 rw [if_neg (by simpa using h1)] at hE
 (repeat (first | refine FW.seq ?_ | refine FW.region ?_ | refine zd.nil ?_ | refine za rfl rfl rfl ?_ | refine zh rfl rfl rfl rfl rfl (by simp; done) rfl rfl rfl rfl rfl ?_ | refine zg rfl rfl rfl rfl rfl rfl (by decide) rfl rfl ?_))
 refine FW.cond rfl (fun h2 => ?_) (fun h2 => ?_)
 ·have h2 : bx = true := h2
  rw [if_pos h2] at hE
  subst hE
  (repeat (first | refine FW.seq ?_ | refine FW.region ?_ | refine zd.nil ?_ | refine za rfl rfl rfl ?_ | refine zO rfl rfl rfl (by decide) rfl rfl (by simp; done) rfl rfl rfl rfl ?_ | refine xn rfl rfl rfl rfl rfl rfl rfl rfl rfl rfl ?_))
  refine FW.le ?_ (FLe.share 6 rfl rfl rfl)
  exact FW.ret ⟨.inl rfl, .sh (.cons (.tmp 6 rfl rfl) .nil) rfl rfl⟩
 have h2 : ¬ bx = true := by rw [show bx = false from h2]; decide
 rw [if_neg h2] at hE
 (repeat (first | refine FW.seq ?_ | refine FW.region ?_ | refine zd.nil ?_ | refine za rfl rfl rfl ?_ | refine zb rfl rfl rfl ?_ | refine zJ rfl rfl rfl rfl ?_))
 refine FW.cond rfl (fun h3 => ?_) (fun h3 => ?_)
 ·rw [if_pos (by simpa using h3)] at hE
  subst hE
  (repeat (first | refine FW.seq ?_ | refine FW.region ?_ | refine zO rfl rfl rfl (by decide) rfl rfl (by simp; done) rfl rfl rfl rfl ?_ | refine zb rfl rfl rfl ?_ | refine yG rfl rfl rfl rfl ?_ | refine yL.nil ?_ | refine yL.one rfl rfl rfl rfl rfl ?_))
  refine Wg (es := [rtf (a, d), rtf (c, b)]) rfl rfl rfl (by refine ZE.agg rfl rfl rfl ?_; refine ZE.agg rfl rfl rfl ?_; exact ZE.nil) rfl rfl rfl rfl rfl rfl ?_
  (repeat (first | refine zd.nil ?_ | refine za rfl rfl rfl ?_))
  refine FW.le ?_ (FLe.share 6 rfl rfl rfl)
  exact FW.ret ⟨.inl rfl, .sh (.cons (.tmp 6 rfl rfl) .nil) rfl rfl⟩
 ·rw [if_neg (by simpa using h3)] at hE
  subst hE
  (repeat (first | refine FW.seq ?_ | refine FW.region ?_ | refine FW.skip ?_ | refine zd.nil ?_ | refine za rfl rfl rfl ?_))
  exact FW.ret ⟨.inl rfl, .sh (.cons (.tmp 6 rfl rfl) .nil) rfl rfl⟩
end Go.Proofs.Ytbeebjdnapkhhaa
