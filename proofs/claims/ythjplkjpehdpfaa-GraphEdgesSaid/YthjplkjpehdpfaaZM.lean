/-
  Some texts as one: FmRef03, TopoRef, FmWalks.
-/
import Derived.Test.YthjplkjpehdpfaaZG
import Derived.Test.YthjplkjpehdpfaaZK
import Derived.Test.YthjplkjpehdpfaaZL
import Derived.Test.YthjplkjpehdpfaaZJ
/-
 The graphs of layer 3 and what its reference asks of them.
-/
namespace Go.Proofs.Ythjplkjpehdpfaa
set_option linter.unusedVariables false
open Go.RowKit

def mkE (n : Nat) (x : Int) : Nat × Nat := ((xc x 1000000).toNat % n, (xc x 1000000).toNat / 97 % n)
def Xy (n : Nat) (l : List Int) : List (Nat × Nat) := if n = 0 then [] else (l.take 18).map (mkE n)
theorem zdY (n : Nat) (l : List Int) : InN n (Xy n l) := fun e he => by
 unfold Xy at he
 split at he
 ·cases he
 ·obtain ⟨x, _, rfl⟩ := List.mem_map.1 he
  exact ⟨Nat.mod_lt _ (by omega), Nat.mod_lt _ (by omega)⟩
theorem zcV (n : Nat) (l : List Int) : (Xy n l).length ≤ 18 := by
 unfold Xy
 split
 ·simp
 ·rw [List.length_map, List.length_take]; omega
theorem XY (E : List (Nat × Nat)) : ∀ e ∈ E.map edf, FV.flat.flats e = true := fun e he => by
 obtain ⟨q, _, rfl⟩ := List.mem_map.1 he; rfl
set_option maxHeartbeats 4000000 in
theorem zbs (n : Nat) (l : List Int) (hn : n ≤ 1000) (hl : l.length ≤ 9223372036854775807) (hI : ∀ x ∈ l, I64 x) : yj Try.prog 8 [.int .i64 n, .list 1 (l.map zt)] (.ow 34 2) (.list 2 ((Xy n l).map edf)) := by
 refine yj.of_body (c := (xm Try.prog zw zn 39)) ⟨Try.func8, rfl, Try.ntmps8, by kernel_rfl⟩ (by simp [FV.hand]) (by exact Nat.le_of_ble_eq_true rfl) rfl ?_
 change FW _ _ _ ⟨[(0, .int .i64 n), (1, .list 1 (l.map zt))], []⟩
 (repeat (first | refine FW.seq ?_ | refine FW.region ?_ | refine FW.block ?_ | refine zd.nil ?_ | refine zc rfl rfl rfl ?_))
 refine FW.loop (fun i : Nat => ⟨[(0, .int .i64 n), (1, .list 1 (l.map zt)), (5, .own 100 0 0 i), (6, .int .i64 i)], [(100, ⟨0, .own, 34, 2, ((l.take i).map (mkE n)).map edf⟩)]⟩) (fun i => i ≤ l.length ∧ i ≤ 18 ∧ (0 < i → 0 < n)) (fun i => 18 - i) 0 ⟨by omega, by omega, by omega⟩ (FLe.cv [⟨100, none, 0, ⟨0, .own, 34, 2, []⟩⟩] (by repeat (first | exact .nil | refine .new ?_)) (by repeat (first | exact .nil | refine .cons (.plain rfl rfl (by first | rfl | (simp; done) | (congr 1; omega) | (simp; omega) | (simp [List.take_of_length_le]; done) | (refine congrArg (FV.int .i64) ?_; omega))) ?_ | refine .cons (.nil rfl (.head _) rfl) ?_))) ?_
 rintro i ⟨hi, hi18, hin⟩
 have hend : (i < l.length → i < 18 → ¬ 0 < n) → (l.take i).map (mkE n) = Xy n l := fun hc => by
  unfold Xy
  by_cases h0 : n = 0
  ·rw [if_pos h0]
   have : i = 0 := by
    rcases Nat.eq_zero_or_pos i with h | h
    ·exact h
    ·have := hin h; omega
   subst this; rfl
  ·rw [if_neg h0]
   congr 1
   rcases Nat.lt_or_ge i l.length with h1 | h1
   ·rcases Nat.lt_or_ge i 18 with h2 | h2
    ·exact absurd (by omega) (hc h1 h2)
    ·rw [show i = 18 by omega]
   ·rw [List.take_of_length_le h1, List.take_of_length_le (by omega)]
 (repeat (first | refine FW.seq ?_ | refine FW.region ?_ | refine zb rfl rfl rfl ?_ | refine zA rfl rfl (by first | exact List.length_map _ | exact (List.length_map _).symm | exact List.length_replicate | rfl | (simp; done) | omega | (simp; omega)) rfl rfl ?_ | refine zP rfl rfl rfl rfl ?_))
 refine yP (fun h1 => ?_) (fun h1 => ?_)
 ·(repeat (first | refine zb rfl rfl rfl ?_ | refine yb rfl rfl rfl rfl ?_ | refine zb rfl rfl ⟨_, _, rfl, rfl, rfl⟩ ?_ | refine zP rfl rfl rfl ⟨_, _, rfl, rfl, rfl⟩ ?_))
  refine yP (fun h2 => ?_) (fun h2 => ?_)
  ·(repeat (first | refine zd.nil ?_ | refine yb rfl rfl rfl rfl ?_ | refine zb rfl rfl ⟨_, _, rfl, rfl, rfl⟩ ?_ | refine Yb rfl rfl rfl ⟨_, _, rfl, rfl, rfl⟩ ?_))
   refine FW.cond rfl (fun h3 => ?_) (fun h3 => ?_)
   ·have hlt : i < l.length := by simpa using h1
    have hlt2 : i < 18 := by simp at h2; omega
    have hn0 : 0 < n := by simpa using h3
    clear h1 h2 h3 hend
    have hst : (l.take (i + 1)).map (mkE n) = (l.take i).map (mkE n) ++ [mkE n (nth l i)] := by
     rw [List.take_succ_eq_append_getElem hlt, List.map_append, nth_eq hlt]; rfl
    have hxi := hI _ (zK hlt)
    have ha1 := XQ (n := nth l i) (most := 1000000) (by omega)
    have ha2 := UQ (n := nth l i) (most := 1000000) (by omega)
    (repeat (first | refine FW.seq ?_ | refine FW.region ?_ | refine FW.block ?_ | refine FW.skip ?_ | refine zb rfl rfl rfl ?_ | refine zy rfl rfl (by first | rfl | exact (Int.toNat_of_nonneg (by omega)).symm) rfl rfl rfl (by first | omega | (simp; omega) | (simp; done)) rfl rfl ?_ | refine zC rfl rfl rfl (by first | omega | (simp; omega) | (simp; done)) (by first | exact zf (by omega) | rfl) rfl rfl rfl rfl ?_))
    refine zW (Yd (nth l i) 1000000 hxi (by omega) (by omega)) (by repeat (first | exact zu.nil | refine zu.cons (by exact yU.plain rfl rfl) ?_)) rfl rfl ?_
    obtain ⟨k, hk⟩ : ∃ k : Nat, xc (nth l i) 1000000 = k := ⟨(xc (nth l i) 1000000).toNat, by omega⟩
    have e1 : ([FV.int .i64 ((k : Int) % n), FV.int .i64 ((k : Int) / 97 % n)] : List FV) = edf (mkE n (nth l i)) := by simp [mkE, edf, hk]
    rw [hk] at ha1 ha2 ⊢
    (repeat (first | refine zd.nil ?_ | refine zc rfl rfl rfl ?_ | refine FW.draw ?_ | refine zD.nil ?_ | refine xC rfl rfl rfl ?_ | refine zS rfl rfl rfl ?_ | refine zbt rfl rfl (by first | exact List.length_map _ | exact (List.length_map _).symm | exact List.length_replicate | rfl | (simp; done) | omega | (simp; omega)) rfl rfl rfl (by decide) (by first | exact xJ.own rfl rfl (by decide) (by first | exact List.length_map _ | exact (List.length_map _).symm | exact List.length_replicate | rfl | (simp; done) | omega | (simp; omega)) | exact xJ.list rfl | exact xJ.nil rfl | exact xJ.part rfl rfl (by decide)) (by first | omega | (simp; omega) | (simp; done)) (by first | omega | (simp; omega) | (simp; done)) rfl rfl rfl ?_ | refine zgu rfl rfl (by omega) rfl rfl ?_ | refine zgt rfl rfl (by omega) rfl rfl ?_ | refine zcW rfl rfl rfl rfl rfl rfl rfl rfl rfl ?_ | refine zbu rfl rfl rfl rfl rfl rfl rfl rfl rfl rfl ?_))
    rw [e1]
    refine ⟨by kernel_rfl, ?_⟩
    have hst2 : ((l.take i).map (mkE n)).map edf ++ [edf (mkE n (nth l i))] = ((l.take (i + 1)).map (mkE n)).map edf := by rw [hst, List.map_append]; rfl
    have hsl : (((l.take (i + 1)).map (mkE n)).map edf).length = i + 1 := by simp; omega
    rw [hst2, hsl]
    (repeat (first | refine FW.region ?_ | refine zd.nil ?_ | refine zc rfl rfl rfl ?_ | refine zb rfl rfl rfl ?_ | refine zB rfl rfl (by omega) rfl rfl ?_))
    refine ⟨i + 1, ⟨by omega, by omega, fun _ => hn0⟩, by omega, ?_⟩
    exact (FLe.cv [⟨100, some 37, 0 + 1, ⟨0, .own, 34, 2, ((l.take (i + 1)).map (mkE n)).map edf⟩⟩] (by repeat (first | exact .nil | refine .old rfl (by decide) (by first | rfl | (simp; done) | (congr 1; omega) | (simp; omega) | (simp [List.take_of_length_le]; done) | (refine congrArg (FV.int .i64) ?_; omega)) ?_)) (by repeat (first | exact .nil | refine .cons (.plain rfl rfl (by first | rfl | (simp; done) | (congr 1; omega) | (simp; omega) | (simp [List.take_of_length_le]; done) | (refine congrArg (FV.int .i64) ?_; omega))) ?_ | refine .cons (.own rfl (.head _) rfl (by first | rfl | (simp; done) | (congr 1; omega) | (simp; omega) | (simp [List.take_of_length_le]; done) | (refine congrArg (FV.int .i64) ?_; omega))) ?_)))
   ·have h3' : ¬ 0 < n := by simpa using h3
    (repeat (first | refine FW.seq ?_ | refine FW.region ?_ | refine FW.exit ?_ | refine zd.nil ?_ | refine zc rfl rfl rfl ?_ | refine zb rfl rfl rfl ?_))
    exact FW.ret ⟨.inl rfl, VP rfl rfl rfl (by simp; omega) (by decide) (by rw [hend (fun q1 q2 q3 => h3' q3)]) (XY _)⟩
  ·have h2' : ¬ i < 18 := by simp at h2; omega
   (repeat (first | refine FW.seq ?_ | refine FW.region ?_ | refine FW.exit ?_ | refine FW.condF rfl ?_ | refine zd.nil ?_ | refine zc rfl rfl rfl ?_ | refine zb rfl rfl rfl ?_ | refine zX rfl rfl rfl rfl ?_ | refine yQ rfl rfl ⟨_, _, rfl, rfl, rfl⟩ ?_))
   exact FW.ret ⟨.inl rfl, VP rfl rfl rfl (by simp; omega) (by decide) (by rw [hend (fun q1 q2 q3 => h2' q2)]) (XY _)⟩
 ·have h1' : ¬ i < l.length := by simpa using h1
  (repeat (first | refine FW.seq ?_ | refine FW.region ?_ | refine FW.exit ?_ | refine FW.condF rfl ?_ | refine zd.nil ?_ | refine zc rfl rfl rfl ?_ | refine zb rfl rfl rfl ?_ | refine zX rfl rfl rfl rfl ?_ | refine yQ rfl rfl ⟨_, _, rfl, rfl, rfl⟩ ?_))
  exact FW.ret ⟨.inl rfl, VP rfl rfl rfl (by simp; omega) (by decide) (by rw [hend (fun q1 q2 q3 => h1' q1)]) (XY _)⟩
def Ww (E : List (Nat × Nat)) (a b : Int) : Bool := E.any fun e => decide ((e.1 : Int) = a) && decide ((e.2 : Int) = b)
def VO (E : List (Nat × Nat)) (v : Int) (out : List Int) : Bool := E.all fun e => !decide ((e.2 : Int) = v) || zgp out e.1
def zfC (p : Nat → Bool) (n : Nat) : Nat → Int
 | 0 => -1
 | k + 1 => if p (n - (k + 1)) = true then ((n - (k + 1) : Nat) : Int) else zfC p n k
def Vs (E : List (Nat × Nat)) (out : List Int) (v : Nat) : Bool := !zgp out v && VO E v out
def rtK (E : List (Nat × Nat)) (n : Nat) : Nat → List Int → Option (List Int)
 | 0, out => some out
 | k + 1, out => if zfC (Vs E out) n n < 0 then none else rtK E n k (out ++ [zfC (Vs E out) n n])
def zgV : Option (List Int) → FV
 | none => .tup [.list 1 [], .bool false]
 | some l => .tup [.list 1 (l.map zt), .bool true]
end Go.Proofs.Ythjplkjpehdpfaa
/-
 graph.Topo and the reference take the same vertices in the same order.
-/
namespace Go.Proofs.Ythjplkjpehdpfaa
set_option linter.unusedVariables false

theorem zat (p : Nat → Bool) (n : Nat) : ∀ k, k ≤ n → (zfC p n k = -1 ∧ ∀ v, n - k ≤ v → v < n → p v = false) ∨ ∃ v, zfC p n k = (v : Nat) ∧ n - k ≤ v ∧ v < n ∧ p v = true ∧ ∀ u, n - k ≤ u → u < v → p u = false
 | 0, _ => .inl ⟨rfl, fun v h1 h2 => by omega⟩
 | k + 1, hk => by
  have ih := zat p n k (by omega)
  unfold zfC
  by_cases hp : p (n - (k + 1)) = true
  ·rw [if_pos hp]
   exact .inr ⟨_, rfl, Nat.le_refl _, by omega, hp, fun u h1 h2 => by omega⟩
  ·rw [if_neg hp]
   have hp' : p (n - (k + 1)) = false := by simpa using hp
   rcases ih with ⟨e, h⟩ | ⟨v, e, h1, h2, h3, h4⟩
   ·refine .inl ⟨e, fun v q1 q2 => ?_⟩
    by_cases hv : v = n - (k + 1)
    ·subst hv; exact hp'
    ·exact h v (by omega) q2
   ·refine .inr ⟨v, e, by omega, h2, h3, fun u q1 q2 => ?_⟩
    by_cases hv : u = n - (k + 1)
    ·subst hv; exact hp'
    ·exact h4 u (by omega) q2
theorem zd7 {n : Nat} {E : List (Nat × Nat)} (h : InN n E) (out : List Int) (v : Nat) : VO E v out = true ↔ zco n E out v = 0 := by
 unfold VO zco
 rw [List.all_eq_true, List.countP_eq_zero]
 constructor
 ·intro hr u hu hc
  simp only [Bool.and_eq_true, decide_eq_true_eq] at hc
  obtain ⟨e, he, h1, h2⟩ := yw.1 hc.2
  have := hr e he
  subst h1
  have h3 : ((e.2 : Nat) : Int) = (v : Int) := h2
  rw [h3] at this
  unfold zgp at this
  simp at this
  exact hc.1 this
 ·intro hc e he
  have hin := h e he
  by_cases hv : ((e.2 : Nat) : Int) = v
  ·have := hc e.1 (List.mem_range.2 hin.1)
   simp only [Bool.and_eq_true, decide_eq_true_eq, not_and] at this
   unfold zgp
   by_cases hm : ((e.1 : Nat) : Int) ∈ out
   ·simp [hm]
   ·exact absurd (yw.2 ⟨e, he, rfl, hv⟩) (this hm)
  ·simp [hv]
theorem TI.next {n : Nat} {E : List (Nat × Nat)} (hE : InN n E) {s : zaQ} (h : TI n E s) (v : Nat) (hv : v < n) : Vs E s.out v = true ↔ (v : Int) ∈ s.h := by
 rw [h.hM, Int.toNat_natCast, h.cnt v hv]
 unfold Vs zgp
 rw [Bool.and_eq_true, zd7 hE]
 constructor
 ·rintro ⟨h1, h2⟩
  exact ⟨by omega, by simpa using h1, by omega⟩
 ·rintro ⟨_, h1, h2⟩
  exact ⟨by simpa using h1, by omega⟩
theorem zcc {n : Nat} {E : List (Nat × Nat)} (hE : InN n E) : ∀ (k f : Nat) (s : zaQ), TI n E s → s.out.length + k = n → n < s.out.length + f → rtK E n k s.out = if (yB E f s).out.length < n then none else some (yB E f s).out
 | k, 0, s, h, _, hf => by have := h.le; omega
 | k, f + 1, s, h, hk, hf => by
  have hl := zat (Vs E s.out) n n (Nat.le_refl _)
  by_cases h0 : s.h = []
  ·rw [YS E (f + 1) s h0]
   cases k with
   | zero =>
    rw [if_neg (by omega)]; rfl
   | succ k =>
    rw [if_pos (by omega)]
    unfold rtK
    rcases hl with ⟨e, _⟩ | ⟨v, e, _, h2, h3, _⟩
    ·rw [if_pos (by omega)]
    ·have := (h.next hE v h2).1 h3
     rw [h0] at this; cases this
  ·obtain ⟨q, hq⟩ : ∃ q, s.h.length = q + 1 := ⟨s.h.length - 1, by have := List.length_pos_iff.2 h0; omega⟩
   obtain ⟨v, hv, hvn, hvo, hm0, hmin, hD, hN, hR⟩ := h.first hq
   have hvh : (v : Int) ∈ s.h := by
    rw [h.hM]; exact ⟨by omega, hvo, by rw [Int.toNat_natCast]; exact hm0⟩
   have hso : (yC E s).out = s.out ++ [(v : Int)] := by
    unfold yC
    dsimp only
    rw [show s.h.length - 1 = q by omega, hv]
   have e1 : yB E (f + 1) s = yB E f (yC E s) := if_neg h0
   cases k with
   | zero =>
    have := xz hN hR
    simp at this
    omega
   | succ k =>
    have hlv : zfC (Vs E s.out) n n = v := by
     rcases hl with ⟨_, hno⟩ | ⟨u, e, _, h2, h3, h4⟩
     ·have := hno v (by omega) hvn
      rw [(h.next hE v hvn).2 hvh] at this; cases this
     ·have hu := (h.next hE u h2).1 h3
      have hle := hmin _ hu
      rcases Nat.lt_or_ge v u with hlt | hge
      ·have := h4 v (by omega) hlt
       rw [(h.next hE v hvn).2 hvh] at this; cases this
      ·rw [e]; omega
    unfold rtK
    rw [hlv, if_neg (by omega), ← hso, e1]
    exact zcc hE k f (yC E s) (h.step hE h0) (by rw [XB]; omega) (by rw [XB]; omega)
theorem zga {n : Nat} {E : List (Nat × Nat)} (hE : InN n E) : rtK E n n [] = if (xk n E).length < n then none else some (xk n E) :=
 zcc hE n (n + 1) (Ze n E) (TI.start hE) (Nat.zero_add n) (by show n < 0 + (n + 1); omega)
end Go.Proofs.Ythjplkjpehdpfaa
/-
 The reference's walks and its Cycle.
-/
namespace Go.Proofs.Ythjplkjpehdpfaa
set_option linter.unusedVariables false
open Go.RowKit

def zeX : List Int → List Int → Bool
 | x :: a, y :: b => if x = y then zeX a b else decide (x < y)
 | [], b => decide (0 < b.length)
 | _ :: _, [] => false
def ZH (out : List (List Int)) (tg ab k v w : Nat) : List Int := if k = 1 then (if w = tg then [(v : Int)] else []) else if ab < w ∧ nth out w ≠ [] then (v : Int) :: nth out w else []
def zep (E : List (Nat × Nat)) (out : List (List Int)) (tg ab k v : Nat) (cur : List Int) (w : Nat) : List Int :=
 if Ww E v w = true ∧ ZH out tg ab k v w ≠ [] ∧ (cur = [] ∨ zeX (ZH out tg ab k v w) cur = true) then ZH out tg ab k v w else cur
def zez (E : List (Nat × Nat)) (out : List (List Int)) (tg ab k v j : Nat) : List Int := (List.range j).foldl (zep E out tg ab k v) []
def VG (E : List (Nat × Nat)) (out : List (List Int)) (tg ab k n i : Nat) : List (List Int) := (List.range n).map fun v => if v < i then zez E out tg ab k v n else []
def zT (E : List (Nat × Nat)) (tg ab n : Nat) : Nat → List (List Int)
 | 0 => List.replicate n []
 | k + 1 => VG E (zT E tg ab n k) tg ab (k + 1) n n
theorem zcP (E : List (Nat × Nat)) (out : List (List Int)) (tg ab k n i : Nat) : (VG E out tg ab k n i).length = n := by simp [VG]
theorem zbF (E : List (Nat × Nat)) (tg ab n : Nat) : ∀ k, (zT E tg ab n k).length = n
 | 0 => by simp [zT]
 | k + 1 => zcP _ _ _ _ _ _ _
theorem zdu (E : List (Nat × Nat)) (out : List (List Int)) (tg ab k v j : Nat) : zez E out tg ab k v (j + 1) = zep E out tg ab k v (zez E out tg ab k v j) j := by
 unfold zez
 rw [List.range_succ, List.foldl_append]; rfl
def ZV (E : List (Nat × Nat)) (n len s : Nat) : List Int := nth (zT E s s n len) s
def xK (E : List (Nat × Nat)) (n len : Nat) : Nat → Nat → List Int
 | 0, _ => []
 | k + 1, s => if ZV E n len s = [] then xK E n len k (s + 1) else ZV E n len s
def Zv (E : List (Nat × Nat)) (n : Nat) : Nat → Nat → List Int
 | 0, _ => []
 | k + 1, len => if xK E n len n 0 = [] then Zv E n k (len + 1) else xK E n len n 0
def Xx (E : List (Nat × Nat)) (n : Nat) : List Int := Zv E n n 1
end Go.Proofs.Ythjplkjpehdpfaa
