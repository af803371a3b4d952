/-
  linear.IsOrder, at plain values.
-/
import Derived.Test.YtbeebjdnapkhhaaZFmLinC
import Derived.Test.YtbeebjdnapkhhaaZS
import Derived.Test.YtbeebjdnapkhhaaZG
namespace Go.Proofs.Ytbeebjdnapkhhaa
set_option linter.unusedVariables false
open Go.RowKit

def ixZ (p : Int → Bool) (l : List Int) : Int := if l.any p = true then (l.findIdx p : Nat) else -1
set_option maxHeartbeats 4000000 in
theorem UB (l : List Int) (cf : Nat) (caps : List FV) (p : Int → Bool) (hl : l.length ≤ 1000000000) (hp : ∀ o : Int, zU Try.prog cf ([.int .i64 o] ++ caps) .fr (.bool (p o))) : zU Try.prog 67 [.list 1 (l.map zF), .fn cf caps] .fr (.int .i64 (ixZ p l)) := by
 refine zU.of_body (c := (xN Try.prog zE zA 19)) ⟨Try.func67, rfl, Try.ntmps67, by kernel_rfl⟩ (by simp [FV.hand]) (by exact Nat.le_of_ble_eq_true rfl) rfl ?_
 change FW _ _ _ ⟨[(0, .list 1 (l.map zF)), (1, .fn cf caps)], []⟩
 (repeat (first | refine FW.seq ?_ | refine FW.region ?_ | refine FW.block ?_ | refine zc.nil ?_ | refine za rfl rfl rfl ?_ | refine zb rfl rfl rfl ?_ | refine zm rfl rfl (by exact List.length_map _) rfl rfl ?_))
 refine FW.loop (fun i : Nat => ⟨[(0, .list 1 (l.map zF)), (1, .fn cf caps), (7, .int .i64 l.length), (8, .int .i64 i)], []⟩) (fun i => i ≤ l.length ∧ ∀ j, j < i → p (nth l j) = false) (fun i => l.length - i) 0 ⟨Nat.zero_le _, fun j hj => by omega⟩ (FLe.conv [] (by simp) (by simp) rfl (by repeat (first | exact .nil)) (by repeat (first | exact .nil)) (by repeat (first | exact .nil | refine .cons (.plain rfl rfl rfl) ?_))) ?_
 rintro i ⟨hi, hf⟩
 (repeat (first | refine FW.seq ?_ | refine FW.region ?_ | refine zc.nil ?_ | refine zJ rfl rfl rfl rfl ?_))
 refine FW.cond rfl (fun h => ?_) (fun h => ?_)
 ·have hlt : i < l.length := by simpa using h
  clear h
  (repeat (first | refine FW.seq ?_ | refine FW.region ?_ | refine FW.block ?_ | refine FW.skip ?_ | refine zc.nil ?_ | refine za rfl rfl rfl ?_ | refine zb rfl rfl rfl ?_ | refine zw rfl rfl rfl rfl rfl rfl (by simp; omega) rfl rfl ?_ | refine zt rfl rfl rfl (by simp; omega) (by first | exact zd (by omega) | rfl) rfl rfl rfl rfl ?_))
  refine VK rfl (hp (nth l i)) (by repeat (first | exact zh.nil | refine zh.cons (by exact yf.plain rfl rfl) ?_)) rfl rfl ?_
  (repeat (first | refine zc.nil ?_))
  refine FW.cond rfl (fun h => ?_) (fun h => ?_)
  ·(repeat (first | refine FW.seq ?_ | refine FW.region ?_ | refine zc.nil ?_ | refine za rfl rfl rfl ?_ | refine zb rfl rfl rfl ?_))
   have he : ixZ p l = i := by
    unfold ixZ
    rw [if_pos (Zz.2 ⟨i, hlt, h⟩), (List.findIdx_eq hlt).2 ⟨by rw [← zi hlt]; exact h, fun j hj => by rw [← zi (show j < l.length by omega)]; exact hf j hj⟩]
   exact FW.ret ⟨.inl rfl, zy rfl rfl (congrArg (FV.int .i64) he.symm) rfl⟩
  ·(repeat (first | refine FW.region ?_ | refine FW.skip ?_ | refine zc.nil ?_ | refine zb rfl rfl rfl ?_ | refine zu rfl rfl (by omega) rfl rfl ?_))
   refine ⟨i + 1, ⟨by omega, fun j hj => ?_⟩, by omega, (FLe.conv [] (by simp) (by simp) rfl (by repeat (first | exact .nil)) (by repeat (first | exact .nil)) (by repeat (first | exact .nil | refine .cons (.plain rfl rfl rfl) ?_)))⟩
   rcases Nat.lt_or_ge j i with h1 | h1
   ·exact hf j h1
   ·have : j = i := by omega
    subst this; exact h
 ·obtain rfl : i = l.length := by simp at h; omega
  (repeat (first | refine FW.seq ?_ | refine FW.region ?_ | refine FW.exit ?_ | refine zc.nil ?_ | refine za rfl rfl rfl ?_))
  have he : ixZ p l = -1 := by
   unfold ixZ
   rw [if_neg]
   intro h
   obtain ⟨j, h1, h2⟩ := Zz.1 h
   rw [hf j h1] at h2; cases h2
  exact FW.ret ⟨.inl rfl, zy rfl rfl (by rw [he]; rfl) rfl⟩
theorem zaz (l : List Int) (cf : Nat) (caps : List FV) (p : Int → Bool) (hl : l.length ≤ 1000000000) (hp : ∀ o : Int, zU Try.prog cf ([.int .i64 o] ++ caps) .fr (.bool (p o))) : zU Try.prog 51 [.list 1 (l.map zF), .fn cf caps] .fr (.bool (l.any p)) := by
 refine zU.of_body (c := (xN Try.prog zE zA 9)) ⟨Try.func51, rfl, Try.ntmps51, by kernel_rfl⟩ (by simp [FV.hand]) (by exact Nat.le_of_ble_eq_true rfl) rfl ?_
 change FW _ _ _ ⟨[(0, .list 1 (l.map zF)), (1, .fn cf caps)], []⟩
 (repeat (first | refine FW.seq ?_ | refine FW.region ?_ | refine zc.nil ?_ | refine za rfl rfl rfl ?_ | refine zb rfl rfl rfl ?_))
 refine zH (UB l cf caps p hl hp) (by repeat (first | exact zh.nil | refine zh.cons (by exact yf.plain rfl rfl) ?_)) rfl rfl ?_
 (repeat (first | refine zc.nil ?_ | refine za rfl rfl rfl ?_ | refine XM rfl rfl rfl rfl ?_))
 refine FW.ret ⟨.inl rfl, zy rfl rfl ?_ rfl⟩
 refine congrArg FV.bool ?_
 unfold ixZ
 cases h : l.any p with
 | true => rw [if_pos rfl]; exact decide_eq_true (Int.natCast_nonneg _)
 | false => rw [if_neg (by decide)]; rfl
set_option maxHeartbeats 4000000 in
theorem zbM (l : List OpV) (i k : Int) (hl : l.length ≤ 1000000) : zU Try.prog 52 ([.int .i64 k] ++ [.eptr 1 [[.list 8 (l.map OpV.fv)]] 0 0, .eptr 1 [[.int .i64 i]] 0 0]) .fr (.bool (zid l i k)) := by
 have hb := zbJ l i k (by omega)
 generalize zid l i k = R at hb ⊢
 refine zU.of_body (c := (xN Try.prog zE zA 9)) ⟨Try.func52, rfl, Try.ntmps52, by kernel_rfl⟩ (by simp [FV.hand]) (by exact Nat.le_of_ble_eq_true rfl) rfl ?_
 change FW _ _ _ ⟨[(0, .int .i64 k), (1, .eptr 1 [[.list 8 (l.map OpV.fv)]] 0 0), (2, .eptr 1 [[.int .i64 i]] 0 0)], []⟩
 (repeat (first | refine FW.seq ?_ | refine FW.region ?_ | refine zc.nil ?_ | refine za rfl rfl rfl ?_ | refine zt rfl rfl rfl (by simp; done) rfl rfl rfl rfl rfl ?_ | refine zb rfl rfl rfl ?_))
 refine zH hb (by repeat (first | exact zh.nil | refine zh.cons (by exact yf.plain rfl rfl) ?_)) rfl rfl ?_
 (repeat (first | refine zc.nil ?_ | refine za rfl rfl rfl ?_))
 exact FW.ret ⟨.inl rfl, zy rfl rfl rfl rfl⟩
set_option maxHeartbeats 4000000 in
theorem zdV (a b : List Bool) (ha : a.length ≤ 1000000) (hb : b.length ≤ 1000000) : zU Try.prog 53 [.list 1 (a.map bof), .list 1 (b.map bof)] .fr (.bool (decide (a = b))) := by
 obtain ⟨R, hR⟩ : ∃ R, decide (a = b) = R := ⟨_, rfl⟩
 rw [hR]
 refine zU.of_body (c := (xN Try.prog zE zA 26)) ⟨Try.func53, rfl, Try.ntmps53, by kernel_rfl⟩ (by simp [FV.hand]) (by exact Nat.le_of_ble_eq_true rfl) rfl ?_
 change FW _ _ _ ⟨[(0, .list 1 (a.map bof)), (1, .list 1 (b.map bof))], []⟩
 (repeat (first | refine FW.seq ?_ | refine FW.region ?_ | refine zc.nil ?_ | refine za rfl rfl rfl ?_ | refine zb rfl rfl rfl ?_ | refine zm rfl rfl (by exact List.length_map _) rfl rfl ?_ | refine xP rfl rfl rfl rfl ?_))
 refine FW.cond rfl (fun h => ?_) (fun h => ?_)
 ·have h : ¬ a.length = b.length := by
   have := of_decide_eq_true h
   omega
  have hR2 : R = false := by rw [← hR]; exact decide_eq_false fun e => h (by rw [e])
  subst hR2
  (repeat (first | refine FW.seq ?_ | refine FW.region ?_ | refine zc.nil ?_ | refine za rfl rfl rfl ?_))
  exact FW.ret ⟨.inl rfl, zy rfl rfl rfl rfl⟩
 have hlen : a.length = b.length := by
  have := of_decide_eq_false h
  omega
 clear h
 (repeat (first | refine FW.seq ?_ | refine FW.region ?_ | refine FW.block ?_ | refine FW.skip ?_ | refine zc.nil ?_ | refine zb rfl rfl rfl ?_ | refine zm rfl rfl (by exact List.length_map _) rfl rfl ?_))
 refine FW.loop (fun i : Nat => ⟨[(0, .list 1 (a.map bof)), (1, .list 1 (b.map bof)), (12, .int .i64 a.length), (13, .int .i64 i)], []⟩) (fun i => i ≤ a.length ∧ ∀ j, j < i → nth a j = nth b j) (fun i => a.length - i) 0 ⟨Nat.zero_le _, fun j hj => by omega⟩ (FLe.conv [] (by simp) (by simp) rfl (by repeat (first | exact .nil)) (by repeat (first | exact .nil)) (by repeat (first | exact .nil | refine .cons (.plain rfl rfl rfl) ?_))) ?_
 rintro i ⟨hi, hf⟩
 (repeat (first | refine FW.seq ?_ | refine FW.region ?_ | refine zc.nil ?_ | refine zJ rfl rfl rfl rfl ?_))
 refine FW.cond rfl (fun h => ?_) (fun h => ?_)
 ·have hlt : i < a.length := by simpa using h
  have hltb : i < b.length := by omega
  clear h
  obtain ⟨x, hx⟩ : ∃ x, nth a i = x := ⟨_, rfl⟩
  obtain ⟨y, hy⟩ : ∃ y, nth b i = y := ⟨_, rfl⟩
  have hst : x = y → ∀ j, j < i + 1 → nth a j = nth b j := fun h j hj => by
   by_cases e : j = i
   ·rw [e, hx, hy]; exact h
   ·exact hf j (by omega)
  (repeat (first | refine FW.seq ?_ | refine FW.region ?_ | refine FW.block ?_ | refine FW.skip ?_ | refine zc.nil ?_ | refine za rfl rfl rfl ?_ | refine zb rfl rfl rfl ?_))
  refine FW.drawQ (by kernel_rfl) ?_
  (repeat (first | refine zI.nil ?_ | refine zM rfl rfl rfl ?_ | refine zkk rfl rfl rfl rfl rfl ?_ | refine zQ rfl rfl rfl rfl rfl rfl (by simp; omega) rfl rfl ?_ | refine zS rfl rfl rfl (by simp; omega) (by first | exact zd (by omega) | rfl) rfl rfl rfl rfl ?_))
  rw [hx, hy]
  skip
  refine ⟨by kernel_rfl, ?_⟩
  refine FW.cond rfl (fun h => ?_) (fun h => ?_)
  ·have h : x ≠ y := by simpa using h
   have hR2 : R = false := by
    rw [← hR]
    refine decide_eq_false fun e => h ?_
    rw [← hx, ← hy, e]
   subst hR2
   (repeat (first | refine FW.seq ?_ | refine FW.region ?_ | refine zc.nil ?_ | refine za rfl rfl rfl ?_))
   exact FW.ret ⟨.inl rfl, zy rfl rfl rfl rfl⟩
  ·have h : x = y := by simpa using h
   (repeat (first | refine FW.region ?_ | refine FW.skip ?_ | refine zc.nil ?_ | refine zb rfl rfl rfl ?_ | refine zu rfl rfl (by omega) rfl rfl ?_))
   exact ⟨i + 1, ⟨by omega, hst h⟩, by omega, (FLe.conv [] (by simp) (by simp) rfl (by repeat (first | exact .nil)) (by repeat (first | exact .nil)) (by repeat (first | exact .nil | refine .cons (.plain rfl rfl rfl) ?_)))⟩
 ·obtain rfl : i = a.length := by simp at h; omega
  have hR2 : R = true := by
   rw [← hR]
   exact decide_eq_true (zD hlen hf)
  subst hR2
  (repeat (first | refine FW.seq ?_ | refine FW.region ?_ | refine FW.exit ?_ | refine zc.nil ?_ | refine za rfl rfl rfl ?_))
  exact FW.ret ⟨.inl rfl, zy rfl rfl rfl rfl⟩
def zat : List (Int × Int) → Int → Int
 | [], _ => 0
 | p :: A, c => if p.1 = c then p.2 else zat A c
def zib : List (Int × Int) → Int → Int → List (Int × Int)
 | [], c, v => [(c, v)]
 | p :: A, c, v => if p.1 = c then (c, v) :: A else p :: zib A c v
def zic (p : Int × Int) : List FV := [.int .i64 p.1, .int .i64 p.2]
theorem zck {c v : Int} : ∀ {A : List (Int × Int)} (d : Int), zat (zib A c v) d = if c = d then v else zat A d
 | [], d => rfl
 | p :: A, d => by
  unfold zib
  by_cases h : p.1 = c
  ·rw [if_pos h]
   show (if c = d then v else zat A d) = if c = d then v else if p.1 = d then p.2 else zat A d
   by_cases h2 : c = d
   ·rw [if_pos h2, if_pos h2]
   ·rw [if_neg h2, if_neg h2, if_neg (by omega)]
  ·rw [if_neg h]
   show (if p.1 = d then p.2 else zat (zib A c v) d) = if c = d then v else if p.1 = d then p.2 else zat A d
   rw [zck d]
   by_cases h2 : c = d
   ·rw [if_pos h2, if_pos h2, if_neg (by omega)]
   ·rw [if_neg h2, if_neg h2]
theorem zev {c v : Int} : ∀ (A : List (Int × Int)), zkL (A.map zic) (.int .i64 c) (.int .i64 v) ((zib A c v).map zic)
 | [] => .inr ⟨fun row hr => (by cases hr), rfl⟩
 | p :: A => by
  unfold zib
  by_cases h : p.1 = c
  ·rw [if_pos h]
   exact .inl ⟨0, .int .i64 p.2, by subst h; rfl, rfl⟩
  ·rw [if_neg h]
   rcases zev (c := c) (v := v) A with ⟨j, v0, h1, h2⟩ | ⟨h1, h2⟩
   ·exact .inl ⟨j + 1, v0, by simpa using h1, by rw [List.map_cons, List.map_cons, h2, List.set_cons_succ]⟩
   ·refine .inr ⟨fun row hr => ?_, by rw [List.map_cons, List.map_cons, h2, List.cons_append]⟩
    rcases List.mem_cons.1 hr with rfl | hr
    ·intro e
     unfold zic at e
     simp only [List.head?_cons, Option.some.injEq, FV.int.injEq, true_and] at e
     exact h e
    ·exact h1 row hr
theorem zaS {c : Int} : ∀ (A : List (Int × Int)), zbt (A.map zic) (.int .i64 c) (.int .i64 0) (.int .i64 (zat A c)) (A.any fun p => decide (p.1 = c))
 | [] => .inr ⟨rfl, rfl, fun row hr => (by cases hr)⟩
 | p :: A => by
  unfold zat
  rw [List.any_cons]
  by_cases h : p.1 = c
  ·rw [if_pos h, decide_eq_true h, Bool.true_or]
   refine .inl ⟨rfl, ?_⟩
   subst h
   exact List.mem_cons_self
  ·rw [if_neg h, decide_eq_false h, Bool.false_or]
   rcases zaS (c := c) A with ⟨h1, h2⟩ | ⟨h1, h2, h3⟩
   ·exact .inl ⟨h1, List.mem_cons_of_mem _ h2⟩
   ·refine .inr ⟨h1, h2, fun row hr => ?_⟩
    rcases List.mem_cons.1 hr with rfl | hr
    ·intro e
     unfold zic at e
     simp only [List.head?_cons, Option.some.injEq, FV.int.injEq, true_and] at e
     exact h e
    ·exact h3 row hr
theorem zew {A : List (Int × Int)} (h : ∀ p ∈ A, I64 p.1) : ∀ row ∈ A.map zic, ∀ kf, row.head? = some kf → XZ Try.prog 3 kf := fun row hr kf hk => by
 obtain ⟨p, hp, rfl⟩ := List.mem_map.1 hr
 unfold zic at hk
 simp only [List.head?_cons, Option.some.injEq] at hk
 subst hk
 exact zd9 (h p hp)
theorem zeu {c v : Int} (hc : I64 c) : ∀ {A : List (Int × Int)}, (∀ p ∈ A, I64 p.1) → ∀ p ∈ zib A c v, I64 p.1
 | [], _, p, hp => by rw [List.mem_singleton.1 hp]; exact hc
 | q :: A, h, p, hp => by
  unfold zib at hp
  by_cases e : q.1 = c
  ·rw [if_pos e] at hp
   rcases List.mem_cons.1 hp with rfl | hp
   ·exact hc
   ·exact h p (by simp [hp])
  ·rw [if_neg e] at hp
   rcases List.mem_cons.1 hp with rfl | hp
   ·exact h _ (by simp)
   ·exact zeu hc (fun x hx => h x (by simp [hx])) p hp
def VB (l : List OpV) (o : List Int) (n : Nat) : List Bool := (List.range l.length).map fun i : Nat => decide (((i : Nat) : Int) ∈ o.take n)
theorem xt (l : List OpV) (o : List Int) (n : Nat) : (VB l o n).length = l.length := by simp [VB]
theorem Yl {l : List OpV} {o : List Int} {n i : Nat} (hi : i < l.length) : nth (VB l o n) i = decide ((i : Int) ∈ o.take n) := by unfold VB; rw [zi (by simpa using hi)]; simp
theorem zge (l : List OpV) (o : List Int) : VB l o 0 = List.replicate l.length false := by
 refine zD (by simp [xt]) fun i hi => ?_
 rw [xt] at hi
 rw [Yl hi, zi (show i < (List.replicate l.length false).length by simpa using hi)]
 simp
theorem zgd {l : List OpV} {o : List Int} {n k : Nat} (hn : n < o.length) (hk : nth o n = k) : VB l o (n + 1) = (VB l o n).set k true := by
 refine zD (by simp [xt]) fun i hi => ?_
 rw [xt] at hi
 rw [Yl hi, yQ (by rw [xt]; exact hi), Yl hi, xd hn, hk]
 by_cases e : k = i
 ·subst e; simp
 ·rw [if_neg e]
  have : ¬ (i : Int) = k := by omega
  simp [this]
theorem zjk {l : List OpV} {o : List Int} {ins : List Bool} (hil : ins.length = l.length) (hi0 : ∀ i, i < l.length → nth ins i = zR l i) (hp : ∀ n, n < o.length → Zl l o n = true) : decide (VB l o o.length = ins) = ZM l o := by
 have hall : (List.range o.length).all (Zl l o) = true := List.all_eq_true.2 fun j hj => hp j (List.mem_range.1 hj)
 unfold ZM
 rw [hall, Bool.true_and]
 refine decide_eq_decide.2 ⟨fun h => ?_, fun h => ?_⟩
 ·have hO : zfh l o := by
   have h := fun n hn => Xh.1 (hp n hn)
   have hx : ∀ x ∈ o, (0 ≤ x ∧ x < l.length) ∧ zR l x.toNat = true := fun x hx => by
    obtain ⟨i, hi, e⟩ := VI hx
    have := h i hi
    rw [e] at this
    exact ⟨this.1, this.2.1⟩
   refine ⟨fun x h => (hx x h).1, ?_, fun x h => (hx x h).2, fun v hv hi => ?_, fun i hi => (h i hi).2.2.2.2, fun i j hi hj => (h i hi).2.2.2.1 j hj (by omega)⟩
   ·unfold List.Nodup
    rw [List.pairwise_iff_getElem]
    intro i j hi hj hij e
    refine (h j hj).2.2.1 (List.mem_take_iff_getElem.2 ⟨i, by omega, ?_⟩)
    rw [zi hj, e]
   ·have h1 := hi0 v hv
    rename_i hseen
    rw [← hseen, Yl hv, hi, List.take_length] at h1
    exact of_decide_eq_true h1
  exact hO.len
 ·have hO : zfh l o := zcX.1 (by unfold ZM; rw [hall, decide_eq_true h]; rfl)
  refine zD (by rw [xt, hil]) fun i hi => ?_
  rw [xt] at hi
  rw [Yl hi, hi0 i hi, List.take_length]
  cases hinc : zR l i with
  | true => exact decide_eq_true (hO.all i hi hinc)
  | false =>
   refine decide_eq_false fun hm => ?_
   have := hO.inc _ hm
   rw [Int.toNat_natCast, hinc] at this
   cases this
set_option maxHeartbeats 8000000 in
theorem ZE (l : List OpV) (o : List Int) (hl : l.length ≤ 300) (hol : o.length ≤ 1000000) (hin : ∀ p ∈ l, zci p) (D : yj l) : zU Try.prog 32 [.list 8 (l.map OpV.fv), .list 1 (o.map zF)] .fr (.bool (ZM l o)) := by
 have hwr := Vo l (by omega) hin
 have hic := Wr l (by omega) hin
 have hil := zeO l
 have hi0 := fun i hi => zcV (l := l) (i := i) D hi
 rw [if_pos D, decide_eq_true D] at hwr
 have hsa := zjk (o := o) hil hi0
 have hR : ZM l o = ((List.range o.length).all (Zl l o) && decide (o.length = (xH l).length)) := rfl
 have heq := fun h => zdV (VB l o o.length) (ziL l) (by rw [xt]; omega) h
 have heq := heq (by rw [hil]; omega)
 generalize YM l l.length = W at hwr hic
 generalize ziL l = ins at hic hil hi0 hsa heq
 obtain ⟨R, hRe⟩ : ∃ R, ZM l o = R := ⟨_, rfl⟩
 rw [hRe] at hR hsa ⊢
 have hno : ∀ n, n < o.length → Zl l o n = false → R = false := fun n hn h => by
  rw [hR, show (List.range o.length).all (Zl l o) = false by
   rw [List.all_eq_false]
   exact ⟨n, List.mem_range.2 hn, by rw [h]; decide⟩]; rfl
 refine zU.of_body (c := (xN Try.prog zE zA 86)) ⟨Try.func32, rfl, Try.ntmps32, by kernel_rfl⟩ (by simp [FV.hand]) (by exact Nat.le_of_ble_eq_true rfl) rfl ?_
 change FW _ _ _ ⟨[(0, .list 8 (l.map OpV.fv)), (1, .list 1 (o.map zF))], []⟩
 (repeat (first | refine FW.seq ?_ | refine FW.region ?_ | refine zc.nil ?_ | refine UW rfl rfl rfl rfl rfl ?_ | refine za rfl rfl rfl ?_ | refine zn rfl rfl rfl rfl rfl (by simp; done) rfl rfl rfl rfl rfl ?_))
 refine zc.le ?_ (FLe.shareP 2 rfl rfl)
 refine xx hwr (by repeat (first | exact zh.nil | refine zh.cons (by exact yf.plain rfl rfl) ?_)) rfl rfl ?_
 (repeat (first | refine FW.seq ?_ | refine FW.region ?_ | refine FW.skip ?_ | refine FW.condF rfl ?_ | refine zc.nil ?_ | refine za rfl rfl rfl ?_ | refine zt rfl rfl rfl (by simp; done) rfl rfl rfl rfl rfl ?_ | refine zb rfl rfl rfl ?_ | refine zP rfl rfl rfl rfl rfl ?_ | refine xE rfl rfl rfl ?_))
 refine yc hic (by repeat (first | exact zh.nil | refine zh.cons (by exact yf.plain rfl rfl) ?_)) (List.length_map _) rfl rfl rfl ?_
 refine zc.le ?_ (FLe.share 22 rfl rfl (by simp))
 (repeat (first | refine FW.seq ?_ | refine FW.region ?_ | refine FW.block ?_ | refine zc.nil ?_ | refine za rfl rfl rfl ?_ | refine zt rfl rfl rfl (by first | omega | (simp; done)) rfl rfl rfl rfl rfl ?_ | refine zb rfl rfl rfl ?_ | refine zm rfl rfl (by first | exact List.length_map _ | rfl | (simp; done) | omega) rfl rfl ?_ | refine Vc rfl rfl rfl rfl rfl rfl rfl rfl (by first | omega | (simp; done)) (by first | omega | (simp; done)) rfl rfl rfl ?_ | refine Xu rfl rfl rfl ?_))
 refine FW.loop (fun z : Nat × List (Int × Int) => ⟨[(1, .list 1 (o.map zF)), (2, .eptr 1 [[.list 8 (l.map OpV.fv)]] 0 0), (7, .list 1 (ins.map bof)), (8, .own 101 0 0 l.length), (9, .omap 102 0), (27, .list 1 (o.map zF)), (28, .int .i64 o.length), (29, .int .i64 z.1)], [(101, ⟨0, .own, 4, 1, (VB l o z.1).map bof⟩), (102, ⟨0, .mapo, 99, 0, z.2.map zic⟩)]⟩) (fun z => z.1 ≤ o.length ∧ (∀ j, j < z.1 → Zl l o j = true) ∧ (∀ c, zat z.2 c = XN l c (o.take z.1)) ∧ ∀ p ∈ z.2, I64 p.1) (fun z => o.length - z.1) (0, []) ⟨Nat.zero_le _, fun j hj => absurd hj (Nat.not_lt_zero _), fun c => rfl, fun p hp => (by cases hp)⟩ ?_ ?_
 ·dsimp only
  rw [zge, List.map_replicate]
  exact (FLe.conv [⟨101, some 25, 0 + 1, ⟨0, .own, 4, 1, List.replicate l.length (bof false)⟩⟩, ⟨102, some 26, 0 + 1, ⟨0, .mapo, 99, 0, []⟩⟩] (by simp) (by simp) rfl (by repeat (first | exact .nil | refine .low rfl ?_)) (by repeat (first | exact .nil | refine .old rfl (by decide) rfl ?_)) (by repeat (first | exact .nil | refine .cons (.plain rfl rfl rfl) ?_ | refine .cons (.own rfl (.head _) rfl rfl) ?_ | refine .cons (.omap rfl (.tail _ (.head _)) rfl) ?_)))
 rintro ⟨n, A⟩ ⟨hn, hyes, hA, hAk⟩
 dsimp only at hn hyes hA hAk ⊢
 (repeat (first | refine FW.seq ?_ | refine FW.region ?_ | refine zc.nil ?_ | refine zJ rfl rfl rfl rfl ?_))
 refine FW.cond rfl (fun h => ?_) (fun h => ?_)
 ·have hlt : n < o.length := by simpa using h
  clear h
  have hno := hno n hlt
  have hs : Zl l o n = ((decide (0 ≤ nth o n) && decide (nth o n < l.length)) && zbC l (o.take n) (nth o n)) := rfl
  have hst : Zl l o n = true → ∀ j, j < n + 1 → Zl l o j = true := fun h j hj => by
   by_cases e : j = n
   ·rw [e]; exact h
   ·exact hyes j (by omega)
  have hrt : ∀ x ∈ o.take n, 0 ≤ x ∧ x < l.length := fun x hx => by
   obtain ⟨j, hj, e⟩ := List.mem_take_iff_getElem.1 hx
   have := (Xh.1 (hyes j (by omega))).1
   rw [zi (show j < o.length by omega), e] at this
   exact this
  have hss := fun k h => zgd (l := l) (o := o) (n := n) (k := k) hlt h
  have hsl := xt l o n
  have hsn := fun i h => Yl (l := l) (o := o) (n := n) (i := i) h
  have hvs := fun c => WJ l c (o.take n) (nth o n)
  rw [← xd hlt] at hvs
  obtain ⟨z, hz⟩ : ∃ z, nth o n = z := ⟨_, rfl⟩
  rw [hz] at hs hss
  simp only [hz] at hvs
  have hcz := zaz (o.take n) 52 [.eptr 1 [[.list 8 (l.map OpV.fv)]] 0 0, .eptr 1 [[.int .i64 z]] 0 0] (zid l z) (by rw [List.length_take]; omega) (fun k => zbM l z k (by omega))
  rw [List.map_take] at hcz
  change zU _ _ [.list 1 (List.take (n - 0) (List.drop 0 (o.map zF))), _] _ _ at hcz
  generalize VB l o n = S at hss hsl hsn ⊢
  (repeat (first | refine FW.seq ?_ | refine FW.region ?_ | refine FW.block ?_ | refine FW.skip ?_ | refine zc.nil ?_ | refine za rfl rfl rfl ?_ | refine zt rfl rfl rfl (by first | (simp; omega) | (simp; done)) (by first | exact zd (by omega) | rfl) rfl rfl rfl rfl ?_ | refine zn rfl rfl rfl rfl rfl (by first | (simp; omega) | (simp; done)) (by first | exact zd (by omega) | rfl) rfl rfl rfl rfl ?_ | refine zb rfl rfl rfl ?_ | refine zJ rfl rfl rfl rfl ?_ | refine zw rfl rfl rfl rfl rfl rfl (by first | (simp; omega) | (simp; done)) rfl rfl ?_ | refine yb rfl rfl rfl rfl rfl rfl rfl ?_ | refine ZG rfl rfl rfl rfl rfl rfl rfl rfl rfl ?_))
  rw [hz]
  refine yy (fun h1 => ?_) (fun h1 => ?_)
  ·have h1 : z < 0 := by simpa using h1
   have hR2 : R = false := hno (by rw [hs, decide_eq_false (by omega)]; rfl)
   subst hR2
   (repeat (first | refine FW.seq ?_ | refine FW.region ?_ | refine FW.condT rfl ?_ | refine zc.nil ?_ | refine za rfl rfl rfl ?_ | refine zb rfl rfl rfl ?_ | refine zK rfl rfl rfl rfl ?_ | refine ye rfl rfl ⟨_, _, rfl, rfl, rfl⟩ ?_))
   exact FW.ret ⟨.inl rfl, zy rfl rfl rfl rfl⟩
  have h1 : 0 ≤ z := by simp at h1; omega
  rw [decide_eq_true h1, Bool.true_and] at hs
  refine zc.le ?_ (FLe.shareP 11 rfl rfl)
  (repeat (first | refine zb rfl rfl rfl ?_ | refine zL rfl rfl rfl rfl ?_ | refine zt rfl rfl rfl (by simp; done) rfl rfl rfl rfl ⟨_, _, rfl, rfl, rfl⟩ ?_ | refine zm rfl rfl (by first | exact List.length_map _ | rfl | (simp; done)) rfl ⟨_, _, rfl, rfl, rfl⟩ ?_ | refine XM rfl rfl rfl ⟨_, _, rfl, rfl, rfl⟩ ?_))
  refine yy (fun h2 => ?_) (fun h2 => ?_)
  ·have h2 : ¬ z < l.length := by
    have := of_decide_eq_true h2
    omega
   have hR2 : R = false := hno (by rw [hs, decide_eq_false h2]; rfl)
   subst hR2
   (repeat (first | refine FW.seq ?_ | refine FW.region ?_ | refine FW.condT rfl ?_ | refine zc.nil ?_ | refine za rfl rfl rfl ?_ | refine zb rfl rfl rfl ?_ | refine zK rfl rfl rfl rfl ?_ | refine ye rfl rfl ⟨_, _, rfl, rfl, rfl⟩ ?_))
   exact FW.ret ⟨.inl rfl, zy rfl rfl rfl rfl⟩
  have h2 : z < l.length := by
   have := of_decide_eq_false h2
   omega
  rw [decide_eq_true h2, Bool.true_and] at hs
  obtain ⟨k, rfl⟩ : ∃ k : Nat, z = k := ⟨z.toNat, by omega⟩
  have hkl : k < l.length := by omega
  have hfb : zbC l (o.take n) (k : Int) = (zR l k && (!zg5 (o.take n) (k : Int) && (!((o.take n).any fun x => bef l k x.toNat) && (decide ((nth l k).k = 1) || decide (XN l (nth l k).key (o.take n) = (nth l k).res))))) := rfl
  rw [hfb] at hs
  have hani : (o.take n).any (zid l (k : Int)) = (o.take n).any fun x => bef l k x.toNat := by
   rw [Bool.eq_iff_iff, List.any_eq_true, List.any_eq_true]
   have key : ∀ x ∈ o.take n, zid l (k : Int) x = bef l k x.toNat := fun x hx => by
    have := hrt x hx
    obtain ⟨m, rfl⟩ : ∃ m : Nat, x = m := ⟨x.toNat, by omega⟩
    rw [zgz hkl (by omega), Int.toNat_natCast]
   exact ⟨fun ⟨x, hx, h⟩ => ⟨x, hx, by rw [← key x hx]; exact h⟩, fun ⟨x, hx, h⟩ => ⟨x, hx, by rw [key x hx]; exact h⟩⟩
  rw [hani] at hcz
  have hsk := hsn k hkl
  have hss := hss k rfl
  have hik := hi0 k hkl
  have hhb : zg5 (o.take n) (k : Int) = decide ((k : Int) ∈ o.take n) := rfl
  rw [hhb] at hs
  obtain ⟨sb, hsb⟩ : ∃ sb, decide ((k : Int) ∈ o.take n) = sb := ⟨_, rfl⟩
  rw [hsb] at hs hsk
  generalize ((o.take n).any fun x => bef l k x.toNat) = B at hs hcz
  (repeat (first | refine zb rfl rfl rfl ?_ | refine zL rfl rfl rfl rfl ?_ | refine zt rfl rfl rfl (by first | (simp; omega) | (simp; done)) (by first | exact zd (by omega) | rfl) rfl rfl rfl ⟨_, _, rfl, rfl, rfl⟩ ?_ | refine zb rfl rfl ⟨_, _, rfl, rfl, rfl⟩ ?_ | refine zw rfl rfl rfl rfl rfl rfl (by first | (simp; omega) | (simp; done)) rfl ⟨_, _, rfl, rfl, rfl⟩ ?_ | refine xE rfl rfl ⟨_, _, rfl, rfl, rfl⟩ ?_))
  rw [hik]
  cases hic2 : zR l k with
  | false =>
   rw [hic2, Bool.false_and] at hs
   have hR2 : R = false := hno hs
   subst hR2
   (repeat (first | refine FW.seq ?_ | refine FW.region ?_ | refine FW.condT rfl ?_ | refine zc.nil ?_ | refine za rfl rfl rfl ?_ | refine zK rfl rfl rfl rfl ?_ | refine ye rfl rfl ⟨_, _, rfl, rfl, rfl⟩ ?_))
   exact FW.ret ⟨.inl rfl, zy rfl rfl rfl rfl⟩
  | true =>
  rw [hic2, Bool.true_and] at hs
  (repeat (first | refine zc.nil ?_ | refine zL rfl rfl rfl rfl ?_ | refine zt rfl rfl rfl (by first | omega | (simp; omega) | (simp; done)) (by first | exact zd (by omega) | rfl) rfl rfl rfl ⟨_, _, rfl, rfl, rfl⟩ ?_ | refine zn rfl rfl rfl rfl rfl (by first | omega | (simp; omega) | (simp; done)) (by first | exact zd (by omega) | rfl) rfl rfl rfl ⟨_, _, rfl, rfl, rfl⟩ ?_ | refine zb rfl rfl ⟨_, _, rfl, rfl, rfl⟩ ?_ | refine zC rfl rfl rfl rfl rfl rfl (by decide) rfl (by first | omega | (simp; omega) | (simp; done)) rfl ⟨_, _, rfl, rfl, rfl⟩ ?_))
  rw [hsk]
  cases sb with
  | true =>
   rw [Bool.not_true, Bool.false_and] at hs
   have hR2 : R = false := hno hs
   subst hR2
   (repeat (first | refine FW.seq ?_ | refine FW.region ?_ | refine FW.condT rfl ?_ | refine zc.nil ?_ | refine za rfl rfl rfl ?_))
   exact FW.ret ⟨.inl rfl, zy rfl rfl rfl rfl⟩
  | false =>
  rw [Bool.not_false, Bool.true_and] at hs
  (repeat (first | refine FW.seq ?_ | refine FW.region ?_ | refine FW.skip ?_ | refine FW.condF rfl ?_ | refine zc.nil ?_ | refine zt rfl rfl rfl (by first | omega | (simp; omega) | (simp; done)) (by first | exact zd (by omega) | rfl) rfl rfl rfl rfl ?_ | refine zb rfl rfl rfl ?_ | refine zC rfl rfl rfl rfl rfl rfl (by decide) rfl (by first | omega | (simp; omega) | (simp; done)) rfl rfl ?_ | refine zX rfl rfl rfl rfl rfl rfl (by first | omega | (simp; omega) | (simp; done)) (by first | exact zd (by omega) | rfl) rfl rfl rfl ?_ | refine UY rfl rfl rfl rfl (by exact LoR.none) (by exact HiR.some rfl) (by first | omega | (simp; omega) | (simp; done)) (by first | omega | (simp; omega) | (simp; done)) rfl rfl ?_ | refine zf9 rfl rfl rfl rfl rfl rfl ?_))
  refine zH hcz (by repeat (first | exact zh.nil | refine zh.cons (by exact yf.plain rfl rfl) ?_)) rfl rfl ?_
  cases B with
  | true =>
   rw [Bool.not_true, Bool.false_and] at hs
   have hR2 : R = false := hno hs
   subst hR2
   (repeat (first | refine FW.seq ?_ | refine FW.region ?_ | refine FW.condT rfl ?_ | refine zc.nil ?_ | refine za rfl rfl rfl ?_))
   exact FW.ret ⟨.inl rfl, zy rfl rfl rfl rfl⟩
  | false =>
  rw [Bool.not_false, Bool.true_and] at hs
  obtain ⟨p, hp⟩ : ∃ p, nth l k = p := ⟨_, rfl⟩
  have hpin : zci p := by rw [← hp]; exact hin _ (zp hkl)
  have hAp := hA p.key
  unfold zao at hvs
  simp only [Int.toNat_natCast] at hvs
  rw [hp] at hs
  simp only [hp] at hvs
  have hbset : (S.map bof).set k ((bof (nth S k)).set 0 (.bool true)) = (S.set k true).map bof := by rw [List.map_set]; rfl
  (repeat (first | refine FW.seq ?_ | refine FW.region ?_ | refine FW.skip ?_ | refine FW.condF rfl ?_ | refine zc.nil ?_ | refine zt rfl rfl rfl (by first | (simp; omega) | (simp; done)) (by first | exact zd (by omega) | rfl) rfl rfl rfl rfl ?_ | refine zn rfl rfl rfl rfl rfl (by first | (simp; omega) | (simp; done)) (by first | exact zd (by omega) | rfl) rfl rfl rfl rfl ?_ | refine yL rfl rfl rfl (by decide) (by first | (simp; omega) | (simp; done)) (by first | exact zd (by omega) | rfl) rfl rfl rfl ?_ | refine zw rfl rfl rfl rfl rfl rfl (by first | (simp; omega) | (simp; done)) rfl rfl ?_ | refine yb rfl rfl rfl rfl rfl rfl rfl ?_ | refine zG rfl rfl rfl rfl rfl rfl rfl rfl rfl ?_ | refine zq rfl rfl rfl rfl rfl rfl (by decide) rfl rfl ?_ | refine yz rfl rfl rfl rfl ?_))
  rw [hp]
  skip
  refine FW.cond rfl (fun h3 => ?_) (fun h3 => ?_)
  ·have h3' : p.k = 1 := by simpa using h3
   rw [decide_eq_true h3', Bool.true_or] at hs
   (repeat (first | refine FW.region ?_ | refine zn rfl rfl rfl rfl rfl (by simp; done) rfl rfl rfl rfl rfl ?_ | refine zb rfl rfl rfl ?_ | refine zq rfl rfl rfl rfl rfl rfl (by decide) rfl rfl ?_))
   refine Xf zcY (zew hAk) (zd9 hpin.2.2.1) (zev (c := p.key) (v := p.arg) A) rfl rfl rfl rfl rfl rfl rfl ?_
   (repeat (first | refine FW.region ?_ | refine zc.nil ?_ | refine zb rfl rfl rfl ?_ | refine zu rfl rfl (by omega) rfl rfl ?_))
   refine ⟨(n + 1, zib A p.key p.arg), ⟨by dsimp only; omega, hst hs, fun c => ?_, zeu hpin.2.2.1 hAk⟩, by dsimp only; omega, ?_⟩
   ·dsimp only
    rw [zck, hvs, hA c, decide_eq_true h3', Bool.and_true]
    by_cases e : p.key = c
    ·rw [if_pos e, if_pos (by simpa using e)]
    ·rw [if_neg e, if_neg (by simpa using e)]
   ·dsimp only
    rw [hss, ← hbset]
    exact (FLe.conv [⟨101, some 101, 0, ⟨0, .own, 4, 1, (S.map bof).set k ((bof (nth S k)).set 0 (.bool true))⟩⟩, ⟨102, some 102, 0, ⟨0, .mapo, 99, 0, (zib A p.key p.arg).map zic⟩⟩] (by simp) (by simp) rfl (by repeat (first | exact .nil | refine .low rfl ?_)) (by repeat (first | exact .nil | refine .old rfl (by decide) rfl ?_)) (by repeat (first | exact .nil | refine .cons (.plain rfl rfl rfl) ?_ | refine .cons (.own rfl (.head _) rfl rfl) ?_ | refine .cons (.omap rfl (.tail _ (.head _)) rfl) ?_)))
  ·have h3' : ¬ p.k = 1 := by simpa using h3
   rw [decide_eq_false h3', Bool.false_or] at hs
   (repeat (first | refine FW.seq ?_ | refine FW.region ?_ | refine zn rfl rfl rfl rfl rfl (by simp; done) rfl rfl rfl rfl rfl ?_ | refine zb rfl rfl rfl ?_ | refine zq rfl rfl rfl rfl rfl rfl (by decide) rfl rfl ?_))
   refine zdn (e := 3) zcY (zew hAk) (zd9 hpin.2.2.1) (zaS A) rfl rfl (by decide) rfl rfl rfl rfl rfl rfl ?_
   rw [hAp]
   generalize XN l p.key (o.take n) = v at hs
   (repeat (first | refine zc.nil ?_ | refine zn rfl rfl rfl rfl rfl (by simp; done) rfl rfl rfl rfl rfl ?_ | refine zq rfl rfl rfl rfl rfl rfl (by decide) rfl rfl ?_ | refine xP rfl rfl rfl rfl ?_))
   refine FW.cond rfl (fun h4 => ?_) (fun h4 => ?_)
   ·have h4' : ¬ v = p.res := by simpa using h4
    have hR2 : R = false := hno (by rw [hs]; exact decide_eq_false h4')
    subst hR2
    (repeat (first | refine FW.seq ?_ | refine FW.region ?_ | refine zc.nil ?_ | refine za rfl rfl rfl ?_))
    exact FW.ret ⟨.inl rfl, zy rfl rfl rfl rfl⟩
   ·have h4' : v = p.res := by simpa using h4
    (repeat (first | refine FW.region ?_ | refine FW.skip ?_ | refine zc.nil ?_ | refine zb rfl rfl rfl ?_ | refine zu rfl rfl (by omega) rfl rfl ?_))
    refine ⟨(n + 1, A), ⟨by dsimp only; omega, hst (by rw [hs]; exact decide_eq_true h4'), fun c => ?_, hAk⟩, by dsimp only; omega, ?_⟩
    ·dsimp only
     rw [hvs, hA c, decide_eq_false h3', Bool.and_false, if_neg (by decide)]
    ·dsimp only
     rw [hss, ← hbset]
     exact (FLe.conv [⟨101, some 101, 0, ⟨0, .own, 4, 1, (S.map bof).set k ((bof (nth S k)).set 0 (.bool true))⟩⟩, ⟨102, some 102, 0, ⟨0, .mapo, 99, 0, A.map zic⟩⟩] (by simp) (by simp) rfl (by repeat (first | exact .nil | refine .low rfl ?_)) (by repeat (first | exact .nil | refine .old rfl (by decide) rfl ?_)) (by repeat (first | exact .nil | refine .cons (.plain rfl rfl rfl) ?_ | refine .cons (.own rfl (.head _) rfl rfl) ?_ | refine .cons (.omap rfl (.tail _ (.head _)) rfl) ?_)))
 ·obtain rfl : n = o.length := by simp at h; omega
  have heq2 := heq
  rw [hsa hyes] at heq2
  have hsl := xt l o o.length
  generalize VB l o o.length = S at heq2 hsl ⊢
  (repeat (first | refine FW.seq ?_ | refine FW.region ?_ | refine FW.exit ?_ | refine zb rfl rfl rfl ?_))
  refine zH heq2 (by repeat (first | exact zh.nil | refine zh.cons (by first | exact yf.plain rfl rfl | exact yf.own rfl rfl (by decide) (by first | exact (fun _ => rfl) | (intro h; cases h)) (by first | rfl | (simp; done) | (congr 1; omega) | (simp; omega) | (simp [List.take_of_length_le]; done) | (refine congrArg (FV.int .i64) ?_; omega))) ?_)) rfl rfl ?_
  (repeat (first | refine zc.nil ?_ | refine za rfl rfl rfl ?_))
  exact FW.ret ⟨.inl rfl, zy rfl rfl rfl rfl⟩
end Go.Proofs.Ytbeebjdnapkhhaa
