/-
  The library's Index, Clone and SortFunc (at most twelve lists, by their heads), at plain values.
-/
import Derived.Test.YthjplkjpehdpfaaZInsPlain
import Derived.Test.YthjplkjpehdpfaaZD
import Derived.Test.YthjplkjpehdpfaaZFmReach
namespace Go.Proofs.Ythjplkjpehdpfaa
set_option linter.unusedVariables false
open Go.RowKit

def nvf (i : Nat) : List FV := [.int .i64 (i : Int)]
def Zr (c : List Nat) : List FV := [.list 1 (c.map nvf)]
set_option maxHeartbeats 4000000 in
theorem zcH (l : List Nat) (v : Nat) (hv : v ∈ l) (hl : l.length ≤ 1000000) : yj Try.prog 24 [.list 1 (l.map nvf), .int .i64 v] .fr (.int .i64 (l.idxOf v : Nat)) := by
 have hlt := List.idxOf_lt_length_of_mem hv
 have hat : nth l (l.idxOf v) = v := by rw [nth_eq hlt]; exact List.getElem_idxOf _
 have hno : ∀ j, j < l.idxOf v → nth l j ≠ v := fun j hj e => by
  rw [nth_eq (by omega)] at e
  exact absurd (List.not_of_lt_findIdx hj) (by simp [e])
 generalize l.idxOf v = p at hlt hat hno
 refine yj.of_body (c := (xm Try.prog zw zn 19)) ⟨Try.func24, rfl, Try.ntmps24, by kernel_rfl⟩ (by simp [FV.hand]) (by exact Nat.le_of_ble_eq_true rfl) rfl ?_
 change FW _ _ _ ⟨[(0, .list 1 (l.map nvf)), (1, .int .i64 v)], []⟩
 (repeat (first | refine FW.seq ?_ | refine FW.region ?_ | refine FW.block ?_ | refine zd.nil ?_ | refine zc rfl rfl rfl ?_ | refine zb rfl rfl rfl ?_ | refine zA rfl rfl (by exact List.length_map _) rfl rfl ?_))
 refine FW.loop (fun j : Nat => ⟨[(0, .list 1 (l.map nvf)), (1, .int .i64 v), (4, .int .i64 0), (7, .int .i64 l.length), (8, .int .i64 j)], []⟩) (fun j => j ≤ p) (fun j => p + 1 - j) 0 (Nat.zero_le _) (FLe.cv [] (by repeat (first | exact .nil)) (by repeat (first | exact .nil | refine .cons (.plain rfl rfl rfl) ?_))) ?_
 intro j hj
 have hno := hno j
 (repeat (first | refine FW.seq ?_ | refine FW.region ?_ | refine zd.nil ?_ | refine zP rfl rfl rfl rfl ?_))
 refine FW.cond rfl (fun h => ?_) (fun h => ?_)
 ·obtain ⟨x, hx⟩ : ∃ x, nth l j = x := ⟨_, rfl⟩
  rw [hx] at hno
  (repeat (first | refine FW.seq ?_ | refine FW.region ?_ | refine FW.block ?_ | refine FW.skip ?_ | refine zd.nil ?_ | refine zc rfl rfl rfl ?_ | refine zb rfl rfl rfl ?_ | refine zy rfl rfl rfl rfl rfl rfl (by simp; omega) rfl rfl ?_ | refine zC rfl rfl rfl (by simp; omega) (by first | exact zf (by omega) | rfl) rfl rfl rfl rfl ?_ | refine Ya rfl rfl rfl rfl ?_))
  rw [hx]
  skip
  refine FW.cond rfl (fun h2 => ?_) (fun h2 => ?_)
  ·have e : v = x := by
    have := of_decide_eq_true h2
    omega
   have hjp : j = p := by
    rcases Nat.lt_or_ge j p with h3 | h3
    ·exact absurd e.symm (hno h3)
    ·omega
   subst hjp
   (repeat (first | refine FW.seq ?_ | refine FW.region ?_ | refine zd.nil ?_ | refine zc rfl rfl rfl ?_ | refine zb rfl rfl rfl ?_))
   exact FW.ret ⟨.inl rfl, yy rfl rfl rfl rfl⟩
  ·have hjp : j ≠ p := fun e => by
    have := of_decide_eq_false h2
    rw [← e, hx] at hat
    omega
   (repeat (first | refine FW.region ?_ | refine FW.skip ?_ | refine zd.nil ?_ | refine zb rfl rfl rfl ?_ | refine zB rfl rfl (by omega) rfl rfl ?_))
   refine ⟨j + 1, by omega, by omega, (FLe.cv [] (by repeat (first | exact .nil)) (by repeat (first | exact .nil | refine .cons (.plain rfl rfl rfl) ?_)))⟩
 ·exfalso
  have := of_decide_eq_false h
  omega
set_option maxHeartbeats 4000000 in
theorem zcn (l : List Nat) (hl : l ≠ []) (hlen : l.length ≤ 1000000) : yj Try.prog 25 [.list 1 (l.map nvf)] (.ow 3 1) (.list 1 (l.map nvf)) := by
 refine yj.of_body (c := (xm Try.prog zw zn 8)) ⟨Try.func25, rfl, Try.ntmps25, by kernel_rfl⟩ (by simp [FV.hand]) (by exact Nat.le_of_ble_eq_true rfl) rfl ?_
 change FW _ _ _ ⟨[(0, .list 1 (l.map nvf))], []⟩
 (repeat (first | refine FW.seq ?_ | refine FW.region ?_ | refine zd.nil ?_ | refine zc rfl rfl rfl ?_ | refine zb rfl rfl rfl ?_))
 refine zec rfl rfl rfl (by simpa using hl) rfl rfl ?_
 (repeat (first | refine FW.seq ?_ | refine FW.region ?_ | refine FW.skip ?_ | refine FW.condF rfl ?_ | refine zd.nil ?_ | refine zc rfl rfl rfl ?_ | refine zb rfl rfl rfl ?_ | refine VQ rfl rfl rfl rfl rfl rfl ?_ | refine Zm rfl rfl (by first | rfl | (simp; omega)) rfl rfl rfl (by decide) (by exact xJ.list rfl) (by simp; omega) (by simp; omega) rfl rfl rfl ?_))
 refine FW.ret ⟨.inl rfl, VP rfl rfl rfl (by simp) (by decide) rfl (fun e he => by obtain ⟨b, _, rfl⟩ := List.mem_map.1 he; rfl)⟩
theorem za0 (l : List Nat) (es : List (List FV)) (he : es = l.map nvf) (hl : l ≠ []) (hlen : l.length ≤ 1000000) : yj Try.prog 25 [.list 1 es] (.ow 3 1) (.list 1 (l.map nvf)) := by rw [he]; exact zcn l hl hlen
theorem zeJ (a b : List Nat) (ha : a ≠ []) (hb : b ≠ []) (hA : hdN a ≤ 1000000) (hB : hdN b ≤ 1000000) : yj Try.prog 28 [.list 1 (a.map nvf), .list 1 (b.map nvf)] .fr (.int .i64 ((hdN a : Int) - hdN b)) := by
 have h1 := List.length_pos_iff.2 ha
 have h2 := List.length_pos_iff.2 hb
 unfold hdN at hA hB ⊢
 obtain ⟨x, hx⟩ : ∃ x, nth a 0 = x := ⟨_, rfl⟩
 obtain ⟨y, hy⟩ : ∃ y, nth b 0 = y := ⟨_, rfl⟩
 rw [hx] at hA ⊢
 rw [hy] at hB ⊢
 refine yj.of_body (c := (xm Try.prog zw zn 12)) ⟨Try.func28, rfl, Try.ntmps28, by kernel_rfl⟩ (by simp [FV.hand]) (by exact Nat.le_of_ble_eq_true rfl) rfl ?_
 change FW _ _ _ ⟨[(0, .list 1 (a.map nvf)), (1, .list 1 (b.map nvf))], []⟩
 (repeat (first | refine FW.seq ?_ | refine FW.region ?_ | refine zd.nil ?_ | refine zc rfl rfl rfl ?_ | refine FW.draw ?_ | refine zS rfl rfl rfl ?_ | refine ZC rfl rfl rfl rfl rfl rfl (by simp; omega) rfl rfl ?_ | refine ZQ rfl rfl rfl (by simp; omega) (by first | exact zf (by omega) | rfl) rfl rfl rfl rfl ?_))
 rw [show nth a 0 = x from hx, show nth b 0 = y from hy]
 (repeat (first | refine zD.nil ?_ | refine xC rfl rfl rfl ?_ | refine zaD rfl rfl (by omega) rfl rfl ?_))
 refine ⟨by kernel_rfl, ?_⟩
 skip
 exact FW.ret ⟨.inl rfl, yy rfl rfl rfl rfl⟩
theorem zds (a b : List Nat) (ha : a ≠ []) (hb : b ≠ []) (hA : hdN a ≤ 1000000) (hB : hdN b ≤ 1000000) : yj Try.prog 28 ([.list 1 (a.map nvf), .list 1 (b.map nvf)] ++ []) .fr (.int .i64 ((hdN a : Int) - hdN b)) := zeJ a b ha hb hA hB
def UL (v : Nat) (L : List (List Nat)) : zg := ⟨v, .own, 22, 1, L.map Zr⟩
set_option maxHeartbeats 4000000 in
theorem Uv (v : Nat) (L : List (List Nat)) (hL : ∀ c ∈ L, c ≠ [] ∧ hdN c ≤ 1000000) (hl : L.length ≤ 1000) : zY Try.prog 59 [.own 5000 v 0 L.length, .int .i64 0, .int .i64 L.length, .fn 28 []] [(5000, UL v L)] []
  (fun res o => res = .tup [] ∧ ∃ L', L'.Perm L ∧ L'.Pairwise zgq ∧ o 5000 = UL v L') := by
 refine zY.of_body (c := (xm Try.prog zw zn 53)) ⟨Try.func59, rfl, Try.ntmps59, by kernel_rfl⟩ (by exact Nat.le_of_ble_eq_true rfl) ?_ ?_
 ·rintro res o ⟨rfl, L', _, _, h⟩; exact xw (v := v) rfl (by rw [h]; rfl) (by rw [h]; rfl) rfl
 obtain ⟨n, hn⟩ : ∃ n, L.length = n := ⟨_, rfl⟩
 rw [hn] at hl ⊢
 change FW _ _ _ ⟨[(0, .own 5000 v 0 n), (1, .int .i64 0), (2, .int .i64 n), (3, .fn 28 [])], [(5000, UL v L)]⟩
 unfold UL
 (repeat (first | refine FW.seq ?_ | refine FW.region ?_ | refine FW.block ?_ | refine zd.nil ?_ | refine zb rfl rfl rfl ?_ | refine zB rfl rfl (by omega) rfl rfl ?_ | refine zc rfl rfl rfl ?_))
 refine FW.loop (fun z : Nat × List (List Nat) × List (List Nat) => ⟨[(0, .own 5000 v 0 n), (1, .int .i64 0), (2, .int .i64 n), (3, .fn 28 []), (8, .int .i64 z.1)], [(5000, ⟨v, .own, 22, 1, (z.2.1 ++ z.2.2).map Zr⟩)]⟩) (fun z => zfn L z.2.1 z.2.2 ∧ 1 ≤ z.1 ∧ (z.2.1.length = z.1 ∨ (z.2.2 = [] ∧ n ≤ z.1))) (fun z => n + 1 - z.1) (1, L.take 1, L.drop 1) ⟨zfn.start L, Nat.le_refl _, ?_⟩ ?_ ?_
 ·match L, hn with
  | [], hn => exact .inr ⟨rfl, by rw [← hn]; exact Nat.zero_le _⟩
  | c :: L, hn => exact .inl rfl
 ·dsimp only
  rw [List.take_append_drop]
  exact (FLe.cv [⟨5000, some 5000, v, ⟨v, .own, 22, 1, L.map Zr⟩⟩] (by repeat (first | exact .nil | refine .old rfl (by decide) rfl ?_)) (by repeat (first | exact .nil | refine .cons (.plain rfl rfl rfl) ?_ | refine .cons (.own rfl (.head _) rfl rfl) ?_)))
 rintro ⟨i, S, R⟩ ⟨hI, h1, hlen⟩
 dsimp only at hI h1 hlen ⊢
 have hpl : S.length + R.length = n := by rw [← hn, ← hI.pm.length_eq, List.length_append]
 (repeat (first | refine FW.seq ?_ | refine FW.region ?_ | refine zd.nil ?_ | refine zb rfl rfl rfl ?_ | refine zP rfl rfl rfl rfl ?_))
 refine FW.cond rfl (fun h => ?_) (fun h => ?_)
 ·have hlt : i < n := by simpa using h
  clear h
  have hSl : S.length = i := by omega
  obtain ⟨x, R, rfl⟩ : ∃ x R', R = x :: R' := by
   match R, hpl with
   | [], hpl => simp at hpl; omega
   | x :: R', _ => exact ⟨x, R', rfl⟩
  have hJ := hI.open
  (repeat (first | refine FW.seq ?_ | refine FW.region ?_ | refine FW.block ?_ | refine FW.skip ?_ | refine zd.nil ?_ | refine zb rfl rfl rfl ?_ | refine zc rfl rfl rfl ?_))
  refine FW.loop (fun z : List (List Nat) × List (List Nat) => ⟨[(0, .own 5000 v 0 n), (1, .int .i64 0), (2, .int .i64 n), (3, .fn 28 []), (8, .int .i64 i), (9, .int .i64 z.1.length)], [(5000, ⟨v, .own, 22, 1, (z.1 ++ x :: z.2 ++ R).map Zr⟩)]⟩) (fun z => zfm L z.1 x z.2 R) (fun z => z.1.length) (S, []) hJ ?_ ?_
  ·dsimp only
   rw [hSl, show S ++ x :: [] ++ R = S ++ x :: R by simp]
   exact (FLe.cv [⟨5000, some 5000, v, ⟨v, .own, 22, 1, (S ++ x :: R).map Zr⟩⟩] (by repeat (first | exact .nil | refine .old rfl (by decide) rfl ?_)) (by repeat (first | exact .nil | refine .cons (.plain rfl rfl rfl) ?_ | refine .cons (.own rfl (.head _) rfl rfl) ?_)))
  have hRl : i + R.length + 1 = n := by rw [List.length_cons] at hpl; omega
  clear hI hJ hlen hpl hSl
  rintro ⟨A, B⟩ hJ
  dsimp only at hJ ⊢
  have hpl : (A ++ x :: B ++ R).length = n := by rw [← hn, ← hJ.pm.length_eq]
  have hmx : ∀ c ∈ A ++ x :: B ++ R, c ≠ [] ∧ hdN c ≤ 1000000 := fun c hc => hL c (hJ.pm.mem_iff.1 hc)
  rcases List.eq_nil_or_concat A with rfl | ⟨A', y, e⟩
  ·have hO := hJ.shut (fun y hy => by cases hy)
   have hbl : B.length + R.length + 1 = n := by simp at hpl; omega
   obtain ⟨W, hW⟩ : ∃ W, ([] : List (List Nat)) ++ x :: B ++ R = W := ⟨_, rfl⟩
   rw [hW]
   (repeat (first | refine FW.seq ?_ | refine FW.draw ?_ | refine zD.nil ?_ | refine zS rfl rfl rfl ?_ | refine zd1 rfl rfl rfl rfl ?_ | refine zb4 rfl rfl rfl rfl ?_ | refine zd5 rfl rfl ⟨_, _, rfl, rfl, rfl⟩ ?_))
   refine ⟨by kernel_rfl, ?_⟩
   (repeat (first | refine FW.region ?_ | refine FW.exit ?_ | refine FW.condF rfl ?_ | refine zd.nil ?_ | refine zb rfl rfl rfl ?_ | refine zB rfl rfl (by omega) rfl rfl ?_ | refine zc rfl rfl rfl ?_))
   refine ⟨(i + 1, [] ++ x :: B, R), ⟨hO, by dsimp only; omega, .inl (by simp; omega)⟩, by dsimp only; omega, ?_⟩
   show FLe _ ⟨[(0, .own 5000 v 0 n), (1, .int .i64 0), (2, .int .i64 n), (3, .fn 28 []), (8, .int .i64 (i + 1 : Nat))], [(5000, ⟨v, .own, 22, 1, ([] ++ x :: B ++ R).map Zr⟩)]⟩
   rw [hW]
   exact (FLe.cv [⟨5000, some 5000, v, ⟨v, .own, 22, 1, W.map Zr⟩⟩] (by repeat (first | exact .nil | refine .old rfl (by decide) rfl ?_)) (by repeat (first | exact .nil | refine .cons (.plain rfl rfl rfl) ?_ | refine .cons (.own rfl (.head _) rfl rfl) ?_)))
  ·rw [List.concat_eq_append] at e
   subst e
   have hA1 : (A' ++ [y]).length = A'.length + 1 := by simp
   have hbl : A'.length + 1 + B.length + R.length + 1 = n := by simp at hpl; omega
   have hx := hmx x (by simp)
   have hy := hmx y (by simp)
   have hzx : nth (A' ++ [y] ++ x :: B ++ R) (A'.length + 1) = x := by
    rw [show A' ++ [y] ++ x :: B ++ R = (A' ++ [y]) ++ (x :: B ++ R) by simp, ← hA1, nth_eq (by simp)]; simp
   have hzy : nth (A' ++ [y] ++ x :: B ++ R) A'.length = y := by
    rw [show A' ++ [y] ++ x :: B ++ R = A' ++ (y :: (x :: B ++ R)) by simp, nth_eq (by simp)]; simp
   have hsw : ((A' ++ [y] ++ x :: B ++ R).set (A'.length + 1) y).set A'.length x = A' ++ x :: (y :: B) ++ R := by
    rw [show A' ++ [y] ++ x :: B ++ R = A' ++ (y :: (x :: (B ++ R))) by simp, List.set_append_right _ _ (by omega), List.set_append_right _ _ (by omega)]
    simp
   have hgo : hdN x < hdN y → zfm L A' x (y :: B) R := hJ.move
   have hst : ¬ hdN x < hdN y → zfn L (A' ++ [y] ++ x :: B) R := fun hn => hJ.shut fun z hz => by
    have : y = z := by simpa using hz
    rw [← this]; omega
   have hcp := zds x y hx.1 hy.1 hx.2 hy.2
   clear hmx
   rw [hA1]
   generalize hZZ : A' ++ [y] ++ x :: B ++ R = Z at hzx hzy hsw hpl ⊢
   generalize hpp : A'.length = p at hA1 hbl hzx hzy hsw ⊢
   (repeat (first | refine FW.seq ?_ | refine FW.draw ?_ | refine zS rfl rfl rfl ?_ | refine zd1 rfl rfl rfl rfl ?_))
   refine zd0 (fun h9 => ?_) (fun h9 => absurd (of_decide_eq_false h9) (by omega))
   (repeat (first | refine zS rfl rfl ⟨_, _, rfl, rfl, rfl⟩ ?_ | refine yq rfl rfl (by first | rfl | exact (Int.toNat_of_nonneg (by omega)).symm) rfl rfl rfl (by decide) rfl (by first | omega | (simp; omega)) rfl ⟨_, _, rfl, rfl, rfl⟩ ?_ | refine yI rfl rfl rfl rfl rfl (by first | omega | (simp; omega)) (by first | exact zf (by omega) | rfl) rfl rfl rfl ⟨_, _, rfl, rfl, rfl⟩ ?_ | refine zaD rfl rfl (by omega) rfl ⟨_, _, rfl, rfl, rfl⟩ ?_))
   rw [hzx]
   skip
   rw [show (((p + 1 : Nat) : Int) - 1).toNat = p by omega, hzy]
   refine ze0 rfl hcp (by repeat (first | exact zu.nil | refine zu.cons (by exact yU.plain rfl rfl) ?_)) rfl ⟨_, _, rfl, rfl, rfl⟩ ?_
   (repeat (first | refine zD.nil ?_ | refine zb5 rfl rfl rfl rfl ?_ | refine zd2 rfl rfl rfl ⟨_, _, rfl, rfl, rfl⟩ ?_))
   refine ⟨by kernel_rfl, ?_⟩
   refine FW.cond rfl (fun hc => ?_) (fun hc => ?_)
   ·have hc : hdN x < hdN y := by
     have := of_decide_eq_true hc
     omega
    have hJ' := hgo hc
    (repeat (first | refine FW.seq ?_ | refine FW.block ?_ | refine FW.skip ?_ | refine FW.draw ?_ | refine zS rfl rfl rfl ?_ | refine yq rfl rfl (by first | rfl | exact (Int.toNat_of_nonneg (by omega)).symm) rfl rfl rfl (by decide) rfl (by first | omega | (simp; omega)) rfl rfl ?_ | refine yI rfl rfl rfl rfl rfl (by first | omega | (simp; omega)) (by first | exact zf (by omega) | rfl) rfl rfl rfl rfl ?_ | refine zaD rfl rfl (by omega) rfl rfl ?_ | refine xD rfl rfl rfl rfl rfl rfl (by first | omega | (simp; omega)) (by first | exact zf (by omega) | rfl) rfl rfl rfl ?_))
    rw [show (((p + 1 : Nat) : Int) - 1).toNat = p by omega, hzx, hzy, show (Zr x).set 0 (.list 1 (y.map nvf)) = Zr y from rfl, ← List.map_set]
    obtain ⟨z, hz⟩ : ∃ z, Z.set (p + 1) y = z := ⟨_, rfl⟩
    have hzl : z.length = n := by rw [← hz, List.length_set]; exact hpl
    have hzp : nth z p = y := by rw [← hz, zq (by omega)]; exact hzy
    rw [hz] at hsw ⊢
    refine xD rfl rfl rfl rfl rfl rfl (by simp; omega) (by exact zf (by omega)) rfl rfl rfl ?_
    rw [hzp, show (Zr y).set 0 (.list 1 (x.map nvf)) = Zr x from rfl, ← List.map_set, hsw]
    refine zD.nil ⟨by kernel_rfl, ?_⟩
    obtain ⟨W, hW⟩ : ∃ W, A' ++ x :: (y :: B) ++ R = W := ⟨_, rfl⟩
    rw [hW]
    (repeat (first | refine FW.region ?_ | refine zd.nil ?_ | refine zb rfl rfl rfl ?_ | refine zc rfl rfl rfl ?_ | refine Zs rfl rfl (by omega) rfl rfl ?_))
    refine ⟨(A', y :: B), hJ', by dsimp only; omega, ?_⟩
    show FLe _ ⟨[(0, .own 5000 v 0 n), (1, .int .i64 0), (2, .int .i64 n), (3, .fn 28 []), (8, .int .i64 i), (9, .int .i64 A'.length)], [(5000, ⟨v, .own, 22, 1, (A' ++ x :: (y :: B) ++ R).map Zr⟩)]⟩
    rw [hW, hpp, show (((p + 1 : Nat) : Int) - 1) = (p : Nat) by omega]
    exact (FLe.cv [⟨5000, some 5000, v, ⟨v, .own, 22, 1, W.map Zr⟩⟩] (by repeat (first | exact .nil | refine .old rfl (by decide) rfl ?_)) (by repeat (first | exact .nil | refine .cons (.plain rfl rfl rfl) ?_ | refine .cons (.own rfl (.head _) rfl rfl) ?_)))
   ·have hc : ¬ hdN x < hdN y := by
     have := of_decide_eq_false hc
     omega
    (repeat (first | refine FW.region ?_ | refine FW.exit ?_ | refine zd.nil ?_ | refine zb rfl rfl rfl ?_ | refine zB rfl rfl (by omega) rfl rfl ?_ | refine zc rfl rfl rfl ?_))
    refine ⟨(i + 1, A' ++ [y] ++ x :: B, R), ⟨by dsimp only; exact hst hc, by dsimp only; omega, .inl (by simp; omega)⟩, by dsimp only; omega, ?_⟩
    show FLe _ ⟨[(0, .own 5000 v 0 n), (1, .int .i64 0), (2, .int .i64 n), (3, .fn 28 []), (8, .int .i64 (i + 1 : Nat))], [(5000, ⟨v, .own, 22, 1, (A' ++ [y] ++ x :: B ++ R).map Zr⟩)]⟩
    rw [hZZ]
    exact (FLe.cv [⟨5000, some 5000, v, ⟨v, .own, 22, 1, Z.map Zr⟩⟩] (by repeat (first | exact .nil | refine .old rfl (by decide) rfl ?_)) (by repeat (first | exact .nil | refine .cons (.plain rfl rfl rfl) ?_ | refine .cons (.own rfl (.head _) rfl rfl) ?_)))
 ·have hge : n ≤ i := by simpa using h
  have hR : R = [] := by
   rcases hlen with e | e
   ·exact List.eq_nil_of_length_eq_zero (by omega)
   ·exact e.1
  subst hR
  rw [List.append_nil]
  (repeat (first | refine FW.exit ?_))
  refine ⟨.inr rfl, _, .plain .nil rfl rfl, rfl, S, by have := hI.pm; rwa [List.append_nil] at this, hI.so, rfl⟩
set_option maxHeartbeats 4000000 in
theorem zcR (v : Nat) (L : List (List Nat)) (lim : Int) (hL : ∀ c ∈ L, c ≠ [] ∧ hdN c ≤ 1000000) (hl : L.length ≤ 12) : zY Try.prog 43 [.own 5000 v 0 L.length, .int .i64 0, .int .i64 L.length, .int .i64 lim, .fn 28 []] [(5000, UL v L)] []
  (fun res o => res = .tup [] ∧ ∃ L', L'.Perm L ∧ L'.Pairwise zgq ∧ o 5000 = UL v L') := by
 have hI := Uv v L hL (by omega)
 refine zY.of_body (c := (xm Try.prog zw zn 148)) ⟨Try.func43, rfl, Try.ntmps43, by kernel_rfl⟩ (by exact Nat.le_of_ble_eq_true rfl) ?_ ?_
 ·rintro res o ⟨rfl, L', _, _, h⟩; exact xw (v := v) rfl (by rw [h]; rfl) (by rw [h]; rfl) rfl
 obtain ⟨n, hn⟩ : ∃ n, L.length = n := ⟨_, rfl⟩
 rw [hn] at hl hI ⊢
 change FW _ _ _ ⟨[(0, .own 5000 v 0 n), (1, .int .i64 0), (2, .int .i64 n), (3, .int .i64 lim), (4, .fn 28 [])], [(5000, UL v L)]⟩
 unfold UL at hI ⊢
 (repeat (first | refine FW.seq ?_ | refine FW.region ?_ | refine FW.block ?_ | refine zd.nil ?_ | refine zc rfl rfl rfl ?_))
 refine FW.loop (fun _ : Unit => ⟨[(0, .own 5000 v 0 n), (1, .int .i64 0), (2, .int .i64 n), (4, .fn 28 [])], [(5000, ⟨v, .own, 22, 1, L.map Zr⟩)]⟩) (fun _ => True) (fun _ => 0) () trivial (FLe.cv [⟨5000, some 5000, v, ⟨v, .own, 22, 1, L.map Zr⟩⟩] (by repeat (first | exact .nil | refine .old rfl (by decide) rfl ?_)) (by repeat (first | exact .nil | refine .cons (.plain rfl rfl rfl) ?_ | refine .cons (.own rfl (.head _) rfl rfl) ?_))) ?_
 intro _ _
 (repeat (first | refine FW.seq ?_ | refine FW.region ?_ | refine FW.block ?_ | refine zd.nil ?_ | refine zc rfl rfl rfl ?_ | refine zb rfl rfl rfl ?_ | refine Zs rfl rfl (by omega) rfl rfl ?_ | refine zfG rfl rfl rfl rfl ?_))
 refine FW.cond rfl (fun h => ?_) (fun h => absurd (of_decide_eq_false h) (by omega))
 (repeat (first | refine FW.seq ?_ | refine FW.region ?_ | refine zb rfl rfl rfl ?_))
 refine xb hI [(5000, 5000)] rfl (zh.cons rfl rfl rfl zh.nil) rfl rfl rfl rfl rfl rfl ?_
 rintro _ ob' ⟨rfl, L', p1, p2, h1⟩
 refine yd.one [(5000, UL v L')] (.tup []) rfl (congrArg (fun b => [(5000, zg.ren (gOf [(5000, 5000)]) b)]) h1) ?_
 clear h1
 unfold UL
 (repeat (first | refine zd.nil ?_))
 exact FW.ret ⟨.inl rfl, _, .plain .nil rfl rfl, rfl, L', p1, p2, rfl⟩
set_option maxHeartbeats 4000000 in
theorem zbC (v : Nat) (L : List (List Nat)) (hL : ∀ c ∈ L, c ≠ [] ∧ hdN c ≤ 1000000) (hl : L.length ≤ 12) : zY Try.prog 27 [.own 5000 v 0 L.length, .fn 28 []] [(5000, UL v L)] []
  (fun res o => res = .tup [] ∧ ∃ L', L'.Perm L ∧ L'.Pairwise zgq ∧ o 5000 = UL v L') := by
 have hI := fun lim => zcR v L lim hL hl
 have hB := Xq L.length (by omega) (by omega)
 rw [Int.toNat_natCast] at hB
 refine zY.of_body (c := (xm Try.prog zw zn 14)) ⟨Try.func27, rfl, Try.ntmps27, by kernel_rfl⟩ (by exact Nat.le_of_ble_eq_true rfl) ?_ ?_
 ·rintro res o ⟨rfl, L', _, _, h⟩; exact xw (v := v) rfl (by rw [h]; rfl) (by rw [h]; rfl) rfl
 obtain ⟨n, hn⟩ : ∃ n, L.length = n := ⟨_, rfl⟩
 rw [hn] at hl hB ⊢
 simp only [hn] at hI
 change FW _ _ _ ⟨[(0, .own 5000 v 0 n), (1, .fn 28 [])], [(5000, UL v L)]⟩
 unfold UL at hI ⊢
 (repeat (first | refine FW.seq ?_ | refine FW.region ?_ | refine zd.nil ?_ | refine zb rfl rfl rfl ?_ | refine yl rfl rfl rfl (by decide) rfl rfl ?_ | refine zc rfl rfl rfl ?_ | refine ZR rfl rfl rfl (by omega) rfl rfl ?_))
 refine zW hB (by repeat (first | exact zu.nil | refine zu.cons (by exact yU.plain rfl rfl) ?_)) rfl rfl ?_
 (repeat (first | refine zb rfl rfl rfl ?_))
 refine xb (hI _) [(5000, 5000)] rfl (zh.cons rfl rfl rfl zh.nil) rfl rfl rfl rfl rfl rfl ?_
 rintro _ ob' ⟨rfl, L', p1, p2, h1⟩
 refine yd.one [(5000, UL v L')] (.tup []) rfl (congrArg (fun b => [(5000, zg.ren (gOf [(5000, 5000)]) b)]) h1) ?_
 clear h1
 unfold UL
 (repeat (first | refine zd.nil ?_))
 exact ⟨.inr rfl, _, .plain .nil rfl rfl, rfl, L', p1, p2, rfl⟩
end Go.Proofs.Ythjplkjpehdpfaa
