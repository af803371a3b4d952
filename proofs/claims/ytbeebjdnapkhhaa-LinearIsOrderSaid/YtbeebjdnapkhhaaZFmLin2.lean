/-
  Functions of package linear, at plain values: the ends of a cluster, the conflict of two.
-/
import Derived.Test.YtbeebjdnapkhhaaZFmLin1
namespace Go.Proofs.Ytbeebjdnapkhhaa
set_option linter.unusedVariables false
open Go.RowKit

def yu (i : Nat) : List FV := [.int .i64 (i : Int)]
structure ClV where
 ini : Bool
 ops : List Nat
 deriving DecidableEq, Inhabited
def ClV.fv (c : ClV) : List FV := [.bool c.ini, .list 1 (c.ops.map yu)]
def YR (o : OpV) : Int := if o.done then o.ret else 9223372036854775807
theorem zaZ (l : List OpV) (i : Nat) (hi : i < l.length) : zU Try.prog 87 ([.int .i64 i] ++ [.eptr 1 [[.list 8 (l.map OpV.fv)]] 0 0]) .fr (.int .i64 (YR (nth l i))) := by
 obtain ⟨o, ho⟩ : ∃ o, nth l i = o := ⟨_, rfl⟩
 rw [ho]
 refine zU.of_body (c := (xN Try.prog zE zA 15)) ⟨Try.func87, rfl, Try.ntmps87, by kernel_rfl⟩ (by simp [FV.hand]) (by exact Nat.le_of_ble_eq_true rfl) rfl ?_
 change FW _ _ _ ⟨[(0, .int .i64 i), (1, .eptr 1 [[.list 8 (l.map OpV.fv)]] 0 0)], []⟩
 (repeat (first | refine FW.seq ?_ | refine FW.region ?_ | refine zc.nil ?_ | refine za rfl rfl rfl ?_ | refine zt rfl rfl rfl (by first | (simp; omega) | (simp; done)) (by first | exact zd (by omega) | rfl) rfl rfl rfl rfl ?_ | refine zb rfl rfl rfl ?_ | refine zw rfl rfl rfl rfl rfl rfl (by first | (simp; omega) | (simp; done)) rfl rfl ?_ | refine ya rfl rfl rfl rfl rfl rfl rfl ?_ | refine xE rfl rfl rfl ?_))
 rw [ho]
 skip
 refine FW.cond rfl (fun h => ?_) (fun h => ?_)
 ·have h : o.done = false := by simpa using h
  have : YR o = 9223372036854775807 := by unfold YR; rw [h]; rfl
  rw [this]
  (repeat (first | refine FW.seq ?_ | refine FW.region ?_ | refine zc.nil ?_ | refine za rfl rfl rfl ?_))
  exact FW.ret ⟨.inl rfl, zy rfl rfl rfl rfl⟩
 ·have h : o.done = true := by simpa using h
  have : YR o = o.ret := by unfold YR; rw [h]; rfl
  rw [this]
  (repeat (first | refine FW.seq ?_ | refine FW.region ?_ | refine FW.skip ?_ | refine zc.nil ?_ | refine za rfl rfl rfl ?_ | refine zt rfl rfl rfl (by first | (simp; omega) | (simp; done)) (by first | exact zd (by omega) | rfl) rfl rfl rfl rfl ?_ | refine zb rfl rfl rfl ?_ | refine zw rfl rfl rfl rfl rfl rfl (by first | (simp; omega) | (simp; done)) rfl rfl ?_ | refine ya rfl rfl rfl rfl rfl rfl rfl ?_))
  rw [ho]
  skip
  exact FW.ret ⟨.inl rfl, zy rfl rfl rfl rfl⟩

def zkF (l : List OpV) (b i : Nat) : Nat := if YR (nth l i) < YR (nth l b) then i else b
def zkH (l : List OpV) (b i : Nat) : Nat := if (nth l b).call < (nth l i).call then i else b
def XC (l : List OpV) (c : List Nat) : Nat := c.foldl (zkF l) (nth c 0)
def XG (l : List OpV) (c : List Nat) : Nat := c.foldl (zkH l) (nth c 0)
def zaA (l : List OpV) (c : List Nat) (k : Nat) : Nat := (c.take k).foldl (zkF l) (nth c 0)
def zbS (l : List OpV) (c : List Nat) (k : Nat) : Nat := (c.take k).foldl (zkH l) (nth c 0)
theorem WP {l : List OpV} {c : List Nat} {k : Nat} (h : k < c.length) : zaA l c (k + 1) = zkF l (zaA l c k) (nth c k) := by
 unfold zaA; rw [List.take_succ_eq_append_getElem h, List.foldl_append, zi h]; rfl
theorem WV {l : List OpV} {c : List Nat} {k : Nat} (h : k < c.length) : zbS l c (k + 1) = zkH l (zbS l c k) (nth c k) := by
 unfold zbS; rw [List.take_succ_eq_append_getElem h, List.foldl_append, zi h]; rfl
theorem Up {l : List OpV} {c : List Nat} (h0 : 0 < c.length) : ∀ {k : Nat}, k ≤ c.length → zaA l c k ∈ c
 | 0, _ => zp h0
 | k + 1, hk => by
  rw [WP (by omega)]
  unfold zkF
  split
  ·exact zp (by omega)
  ·exact Up h0 (by omega)
theorem UI {l : List OpV} {c : List Nat} (h0 : 0 < c.length) : ∀ {k : Nat}, k ≤ c.length → zbS l c k ∈ c
 | 0, _ => zp h0
 | k + 1, hk => by
  rw [WV (by omega)]
  unfold zkH
  split
  ·exact zp (by omega)
  ·exact UI h0 (by omega)
theorem Uo (l : List OpV) (c : List Nat) : zaA l c c.length = XC l c := by unfold zaA XC; rw [List.take_length]
theorem UH (l : List OpV) (c : List Nat) : zbS l c c.length = XG l c := by unfold zbS XG; rw [List.take_length]
def zgL (l : List OpV) (c : List Nat) : FV := .tup [.int .i64 (XC l c : Nat), .int .i64 (YR (nth l (XC l c))), .int .i64 (XG l c : Nat), .int .i64 (nth l (XG l c)).call]
set_option maxHeartbeats 4000000 in
theorem Wi (l : List OpV) (c : ClV) (hl : l.length ≤ 1000000000) (hcl : c.ops.length ≤ 1000000000) (h0 : 0 < c.ops.length) (hr : ∀ i ∈ c.ops, i < l.length) : zU Try.prog 72 [.agg c.fv, .list 8 (l.map OpV.fv)] .fr (zgL l c.ops) := by
 obtain ⟨b, C⟩ := c
 dsimp only at h0 hr hcl ⊢
 refine zU.of_body (c := (xN Try.prog zE zA 58)) ⟨Try.func72, rfl, Try.ntmps72, by kernel_rfl⟩ (by simp [FV.hand]) (by exact Nat.le_of_ble_eq_true rfl) rfl ?_
 change FW _ _ _ ⟨[(0, .agg [.bool b, .list 1 (C.map yu)]), (1, .list 8 (l.map OpV.fv))], []⟩
 (repeat (first | refine FW.seq ?_ | refine FW.region ?_ | refine zc.nil ?_ | refine Va rfl rfl rfl rfl rfl rfl rfl ?_ | refine UW rfl rfl rfl rfl rfl ?_ | refine za rfl rfl rfl ?_))
 refine zc.le ?_ (FLe.shareP 3 rfl rfl)
 (repeat (first | refine FW.seq ?_ | refine zc.nil ?_ | refine za rfl rfl rfl ?_ | refine Vd rfl rfl rfl rfl ?_))
 refine FW.drawQ (by kernel_rfl) ?_
 (repeat (first | refine zI.nil ?_ | refine yE rfl rfl rfl ?_ | refine Yk rfl rfl rfl rfl rfl rfl (by decide) rfl rfl ?_ | refine zS rfl rfl rfl (by first | (simp; omega) | (simp; done)) (by first | exact zd (by omega) | rfl) rfl rfl rfl rfl ?_ | refine Zs rfl rfl rfl rfl rfl (by first | (simp; omega) | (simp; done)) (by first | exact zd (by omega) | rfl) rfl rfl rfl rfl ?_ | refine zQ rfl rfl rfl rfl rfl rfl (by first | (simp; omega) | (simp; done)) rfl rfl ?_))
 refine ⟨by kernel_rfl, ?_⟩
 (repeat (first | refine FW.seq ?_ | refine FW.region ?_ | refine FW.block ?_ | refine zc.nil ?_ | refine zq rfl rfl rfl rfl rfl rfl (by decide) rfl rfl ?_ | refine zn rfl rfl rfl rfl rfl (by simp; done) rfl rfl rfl rfl rfl ?_ | refine zm rfl rfl (by first | exact List.length_map _ | rfl | (simp; done)) rfl rfl ?_ | refine zb rfl rfl rfl ?_))
 refine FW.loop (fun k : Nat => ⟨[(3, .eptr 1 [[.list 8 (l.map OpV.fv)]] 0 0), (8, .fn 87 [.eptr 1 [[.list 8 (l.map OpV.fv)]] 0 0]), (4, .int .i64 (zaA l C k : Nat)), (6, .int .i64 (zbS l C k : Nat)), (21, .list 1 (C.map yu)), (22, .int .i64 C.length), (23, .int .i64 k)], []⟩) (fun k => k ≤ C.length) (fun k => C.length - k) 0 (Nat.zero_le _) ?_ ?_
 ·show FLe _ ⟨[(3, .eptr 1 [[.list 8 (l.map OpV.fv)]] 0 0), (8, .fn 87 [.eptr 1 [[.list 8 (l.map OpV.fv)]] 0 0]), (4, .int .i64 (nth C 0 : Nat)), (6, .int .i64 (nth C 0 : Nat)), (21, .list 1 (C.map yu)), (22, .int .i64 C.length), (23, .int .i64 0)], []⟩
  exact (FLe.conv [] (by simp) (by simp) rfl (by repeat (first | exact .nil | refine .low rfl ?_ | refine .same rfl ?_ | refine .bump (Nat.lt_succ_self _) ?_)) (by repeat (first | exact .nil)) (by repeat (first | exact .nil | refine .cons (.plain rfl rfl rfl) ?_)))
 intro k hk
 have hfm := hr _ (Up (l := l) h0 hk)
 have hlm := hr _ (UI (l := l) h0 hk)
 have hfs := fun h => WP (l := l) (c := C) (k := k) h
 have hls := fun h => WV (l := l) (c := C) (k := k) h
 obtain ⟨f, hf⟩ : ∃ f, zaA l C k = f := ⟨_, rfl⟩
 obtain ⟨g, hg⟩ : ∃ g, zbS l C k = g := ⟨_, rfl⟩
 rw [hf] at hfm hfs ⊢
 rw [hg] at hlm hls ⊢
 have hef := zaZ l f hfm
 (repeat (first | refine FW.seq ?_ | refine FW.region ?_ | refine zc.nil ?_ | refine zJ rfl rfl rfl rfl ?_))
 refine FW.cond rfl (fun h => ?_) (fun h => ?_)
 ·have hlt : k < C.length := by simpa using h
  clear h
  have hfs := hfs hlt
  have hls := hls hlt
  obtain ⟨i, hi⟩ : ∃ i, nth C k = i := ⟨_, rfl⟩
  have hil : i < l.length := by rw [← hi]; exact hr _ (zp hlt)
  have hei := zaZ l i hil
  rw [hi] at hfs hls
  unfold zkF at hfs
  unfold zkH at hls
  (repeat (first | refine FW.seq ?_ | refine FW.region ?_ | refine FW.block ?_ | refine FW.skip ?_ | refine zc.nil ?_ | refine za rfl rfl rfl ?_ | refine zt rfl rfl rfl (by simp; omega) (by first | exact zd (by omega) | rfl) rfl rfl rfl rfl ?_ | refine zw rfl rfl rfl rfl rfl rfl (by simp; omega) rfl rfl ?_ | refine zb rfl rfl rfl ?_))
  rw [hi]
  skip
  refine VK rfl hei (by repeat (first | exact zh.nil | refine zh.cons (by exact yf.plain rfl rfl) ?_)) rfl rfl ?_
  (repeat (first | refine zb rfl rfl rfl ?_))
  refine VK rfl hef (by repeat (first | exact zh.nil | refine zh.cons (by exact yf.plain rfl rfl) ?_)) rfl rfl ?_
  (repeat (first | refine zc.nil ?_ | refine zJ rfl rfl rfl rfl ?_))
  refine FW.join (fun q : Nat => ⟨[(3, .eptr 1 [[.list 8 (l.map OpV.fv)]] 0 0), (8, .fn 87 [.eptr 1 [[.list 8 (l.map OpV.fv)]] 0 0]), (4, .int .i64 (q : Nat)), (10, .int .i64 i), (6, .int .i64 g), (21, .list 1 (C.map yu)), (22, .int .i64 C.length), (23, .int .i64 k)], []⟩) (fun q => zaA l C (k + 1) = q) ?_ ?_
  ·refine FW.cond rfl (fun h => ?_) (fun h => ?_)
   ·rw [if_pos (by simpa using h)] at hfs
    (repeat (first | refine FW.region ?_ | refine zc.nil ?_ | refine za rfl rfl rfl ?_ | refine zb rfl rfl rfl ?_))
    refine ⟨rfl, i, hfs, ?_⟩
    exact (FLe.conv [] (by simp) (by simp) rfl (by repeat (first | exact .nil | refine .low rfl ?_ | refine .same rfl ?_ | refine .bump (Nat.lt_succ_self _) ?_)) (by repeat (first | exact .nil)) (by repeat (first | exact .nil | refine .cons (.plain rfl rfl rfl) ?_)))
   ·rw [if_neg (by simpa using h)] at hfs
    (repeat (first | refine FW.skip ?_))
    refine ⟨rfl, f, hfs, ?_⟩
    exact (FLe.conv [] (by simp) (by simp) rfl (by repeat (first | exact .nil | refine .low rfl ?_ | refine .same rfl ?_ | refine .bump (Nat.lt_succ_self _) ?_)) (by repeat (first | exact .nil)) (by repeat (first | exact .nil | refine .cons (.plain rfl rfl rfl) ?_)))
  rintro q hq
  refine FW.seq ?_
  refine FW.drawQ (by kernel_rfl) ?_
  (repeat (first | refine zI.nil ?_ | refine yx rfl rfl rfl rfl rfl rfl rfl ?_ | refine zS rfl rfl rfl (by first | (simp; omega) | (simp; done)) (by first | exact zd (by omega) | rfl) rfl rfl rfl rfl ?_ | refine zQ rfl rfl rfl rfl rfl rfl (by first | (simp; omega) | (simp; done)) rfl rfl ?_ | refine zM rfl rfl rfl ?_ | refine zk7 rfl rfl rfl rfl ?_))
  refine ⟨by kernel_rfl, ?_⟩
  refine FW.cond rfl (fun h => ?_) (fun h => ?_)
  ·rw [if_pos (by simpa using h)] at hls
   (repeat (first | refine FW.region ?_ | refine zc.nil ?_ | refine za rfl rfl rfl ?_ | refine zb rfl rfl rfl ?_ | refine zu rfl rfl (by omega) rfl rfl ?_))
   refine ⟨k + 1, by omega, by omega, ?_⟩
   rw [hq, hls]
   exact (FLe.conv [] (by simp) (by simp) rfl (by repeat (first | exact .nil | refine .low rfl ?_ | refine .same rfl ?_ | refine .bump (Nat.lt_succ_self _) ?_)) (by repeat (first | exact .nil)) (by repeat (first | exact .nil | refine .cons (.plain rfl rfl rfl) ?_)))
  ·rw [if_neg (by simpa using h)] at hls
   (repeat (first | refine FW.region ?_ | refine FW.skip ?_ | refine zc.nil ?_ | refine zb rfl rfl rfl ?_ | refine zu rfl rfl (by omega) rfl rfl ?_))
   refine ⟨k + 1, by omega, by omega, ?_⟩
   rw [hq, hls]
   exact (FLe.conv [] (by simp) (by simp) rfl (by repeat (first | exact .nil | refine .low rfl ?_ | refine .same rfl ?_ | refine .bump (Nat.lt_succ_self _) ?_)) (by repeat (first | exact .nil)) (by repeat (first | exact .nil | refine .cons (.plain rfl rfl rfl) ?_)))
 ·obtain rfl : k = C.length := by simp at h; omega
  rw [Uo] at hf
  rw [UH] at hg
  unfold zgL
  rw [hf, hg]
  (repeat (first | refine FW.seq ?_ | refine FW.exit ?_))
  refine FW.drawQ (by kernel_rfl) ?_
  (repeat (first | refine zM rfl rfl rfl ?_))
  refine zi7 rfl hef (by repeat (first | exact zh.nil | refine zh.cons (by exact yf.plain rfl rfl) ?_)) rfl rfl ?_
  (repeat (first | refine zI.nil ?_ | refine yE rfl rfl rfl ?_ | refine yx rfl rfl rfl rfl rfl rfl rfl ?_ | refine zS rfl rfl rfl (by first | (simp; omega) | (simp; done)) (by first | exact zd (by omega) | rfl) rfl rfl rfl rfl ?_ | refine zQ rfl rfl rfl rfl rfl rfl (by first | (simp; omega) | (simp; done)) rfl rfl ?_ | refine zM rfl rfl rfl ?_))
  refine ⟨by kernel_rfl, ?_⟩
  skip
  exact FW.ret ⟨.inl rfl, .flat (.cons (.tmp 4 rfl rfl) (.cons (.tmp 5 rfl rfl) (.cons (.tmp 6 rfl rfl) (.cons (.tmp 7 rfl rfl) .nil)))) rfl rfl⟩

def rtf (e : Nat × Nat) : List FV := [.int .i64 (e.1 : Nat), .int .i64 (e.2 : Nat), .int .i64 5]
def zbA (l : List OpV) (c : List Nat) : Int := YR (nth l (XC l c))
def zdx (l : List OpV) (c : List Nat) : Int := (nth l (XG l c)).call
def Vt (l : List OpV) (x y : ClV) : List (Nat × Nat) :=
 if zbA l y.ops ≥ zdx l x.ops then []
 else if x.ini = true then [(XC l y.ops, XG l x.ops)]
 else if zbA l x.ops < zdx l y.ops then [(XC l x.ops, XG l y.ops), (XC l y.ops, XG l x.ops)]
 else []
def zkP (E : List (Nat × Nat)) : FV := match E with | [] => .nil | e :: E => .list 3 ((e :: E).map rtf)
set_option maxHeartbeats 4000000 in
theorem zbz (l : List OpV) (x y : ClV) (hl : l.length ≤ 1000000000) (hx : x.ops.length ≤ 1000000000) (hy : y.ops.length ≤ 1000000000) (x0 : 0 < x.ops.length) (y0 : 0 < y.ops.length) (xr : ∀ i ∈ x.ops, i < l.length) (yr : ∀ i ∈ y.ops, i < l.length) :
  zU Try.prog 58 [.list 8 (l.map OpV.fv), .agg x.fv, .agg y.fv] .sh (zkP (Vt l x y)) := by
 have hex := Wi l x hl hx x0 xr
 have hey := Wi l y hl hy y0 yr
 have hE : Vt l x y = if zbA l y.ops ≥ zdx l x.ops then [] else if x.ini = true then [(XC l y.ops, XG l x.ops)] else if zbA l x.ops < zdx l y.ops then [(XC l x.ops, XG l y.ops), (XC l y.ops, XG l x.ops)] else [] := rfl
 unfold zbA zdx at hE
 obtain ⟨R, hR⟩ : ∃ R, Vt l x y = R := ⟨_, rfl⟩
 rw [hR] at hE ⊢
 obtain ⟨bx, X⟩ := x
 obtain ⟨b2, Y⟩ := y
 dsimp only [ClV.fv] at *
 unfold zgL at hex hey
 obtain ⟨fx, hfx⟩ : ∃ z, YR (nth l (XC l X)) = z := ⟨_, rfl⟩
 obtain ⟨fy, hfy⟩ : ∃ z, YR (nth l (XC l Y)) = z := ⟨_, rfl⟩
 obtain ⟨sx, hsx⟩ : ∃ z, (nth l (XG l X)).call = z := ⟨_, rfl⟩
 obtain ⟨sy, hsy⟩ : ∃ z, (nth l (XG l Y)).call = z := ⟨_, rfl⟩
 rw [hfx, hsx] at hex
 rw [hfy, hsy] at hey
 rw [hfx, hfy, hsx, hsy] at hE
 generalize XC l X = a at hex hE
 generalize XG l X = b at hex hE
 generalize XC l Y = c at hey hE
 generalize XG l Y = d at hey hE
 have hh : (zkP R).hand = none := by unfold zkP; split <;> rfl
 refine zU.of_body (c := (xN Try.prog zE zA 53)) ⟨Try.func58, rfl, Try.ntmps58, by kernel_rfl⟩ (by simp [FV.hand]) (by exact Nat.le_of_ble_eq_true rfl) hh ?_
 change FW _ _ _ ⟨[(0, .list 8 (l.map OpV.fv)), (1, .agg [.bool bx, .list 1 (X.map yu)]), (2, .agg [.bool b2, .list 1 (Y.map yu)])], []⟩
 (repeat (first | refine FW.seq ?_ | refine FW.region ?_ | refine zc.nil ?_ | refine Va rfl rfl rfl rfl rfl rfl rfl ?_ | refine za rfl rfl rfl ?_ | refine zW rfl rfl rfl (by decide) rfl rfl (by simp; done) rfl rfl rfl rfl ?_ | refine zb rfl rfl rfl ?_))
 refine zH hex (by repeat (first | exact zh.nil | refine zh.cons (by exact yf.plain rfl rfl) ?_)) rfl rfl ?_
 (repeat (first | refine FW.seq ?_ | refine FW.region ?_ | refine zc.nil ?_ | refine za rfl rfl rfl ?_ | refine zW rfl rfl rfl (by decide) rfl rfl (by simp; done) rfl rfl rfl rfl ?_ | refine zb rfl rfl rfl ?_ | refine zP rfl rfl rfl rfl rfl ?_))
 refine zH hey (by repeat (first | exact zh.nil | refine zh.cons (by exact yf.plain rfl rfl) ?_)) rfl rfl ?_
 (repeat (first | refine FW.seq ?_ | refine FW.region ?_ | refine FW.block ?_ | refine zc.nil ?_ | refine za rfl rfl rfl ?_ | refine zb rfl rfl rfl ?_ | refine zP rfl rfl rfl rfl rfl ?_ | refine yK rfl rfl rfl rfl ?_ | refine yb rfl rfl rfl rfl rfl rfl rfl ?_ | refine zG rfl rfl rfl rfl rfl rfl rfl rfl rfl ?_ | refine XM rfl rfl rfl rfl ?_ | refine yT.nil ?_ | refine yT.one rfl rfl rfl rfl rfl ?_))
 refine FW.cond rfl (fun h1 => ?_) (fun h1 => ?_)
 ·rw [if_pos (by simpa using h1)] at hE
  subst hE
  (repeat (first | refine FW.seq ?_ | refine FW.region ?_ | refine zc.nil ?_ | refine za rfl rfl rfl ?_))
  exact FW.ret ⟨.inl rfl, .sh (.cons (.tmp 6 rfl rfl) .nil) rfl rfl⟩
 rw [if_neg (by simpa using h1)] at hE
 (repeat (first | refine FW.seq ?_ | refine FW.region ?_ | refine zc.nil ?_ | refine za rfl rfl rfl ?_ | refine zn rfl rfl rfl rfl rfl (by simp; done) rfl rfl rfl rfl rfl ?_ | refine zq rfl rfl rfl rfl rfl rfl (by decide) rfl rfl ?_))
 refine FW.cond rfl (fun h2 => ?_) (fun h2 => ?_)
 ·have h2 : bx = true := h2
  rw [if_pos h2] at hE
  subst hE
  (repeat (first | refine FW.seq ?_ | refine FW.region ?_ | refine zc.nil ?_ | refine za rfl rfl rfl ?_ | refine zW rfl rfl rfl (by decide) rfl rfl (by simp; done) rfl rfl rfl rfl ?_ | refine xA rfl rfl rfl rfl rfl rfl rfl rfl rfl rfl ?_))
  refine FW.le ?_ (FLe.share 6 rfl rfl rfl)
  exact FW.ret ⟨.inl rfl, .sh (.cons (.tmp 6 rfl rfl) .nil) rfl rfl⟩
 have h2 : ¬ bx = true := by rw [show bx = false from h2]; decide
 rw [if_neg h2] at hE
 (repeat (first | refine FW.seq ?_ | refine FW.region ?_ | refine zc.nil ?_ | refine za rfl rfl rfl ?_ | refine zb rfl rfl rfl ?_ | refine zJ rfl rfl rfl rfl ?_))
 refine FW.cond rfl (fun h3 => ?_) (fun h3 => ?_)
 ·rw [if_pos (by simpa using h3)] at hE
  subst hE
  (repeat (first | refine FW.seq ?_ | refine FW.region ?_ | refine zW rfl rfl rfl (by decide) rfl rfl (by simp; done) rfl rfl rfl rfl ?_ | refine zb rfl rfl rfl ?_ | refine yK rfl rfl rfl rfl ?_ | refine yT.nil ?_ | refine yT.one rfl rfl rfl rfl rfl ?_))
  refine WD (es := [rtf (a, d), rtf (c, b)]) rfl rfl rfl (by refine ZT.agg rfl rfl rfl ?_; refine ZT.agg rfl rfl rfl ?_; exact ZT.nil) rfl rfl rfl rfl rfl rfl ?_
  (repeat (first | refine zc.nil ?_ | refine za rfl rfl rfl ?_))
  refine FW.le ?_ (FLe.share 6 rfl rfl rfl)
  exact FW.ret ⟨.inl rfl, .sh (.cons (.tmp 6 rfl rfl) .nil) rfl rfl⟩
 ·rw [if_neg (by simpa using h3)] at hE
  subst hE
  (repeat (first | refine FW.seq ?_ | refine FW.region ?_ | refine FW.skip ?_ | refine zc.nil ?_ | refine za rfl rfl rfl ?_))
  exact FW.ret ⟨.inl rfl, .sh (.cons (.tmp 6 rfl rfl) .nil) rfl rfl⟩
end Go.Proofs.Ytbeebjdnapkhhaa
