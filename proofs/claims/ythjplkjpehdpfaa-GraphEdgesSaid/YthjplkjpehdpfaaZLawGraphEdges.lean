/-
  simprooflaw03.GraphEdges answers true for every input (walked on plain values).
-/
import Derived.Test.YthjplkjpehdpfaaZEdgePlain
import Derived.Test.YthjplkjpehdpfaaZFmHash
import Derived.Test.YthjplkjpehdpfaaZLawGraphTopo
import Derived.Test.YthjplkjpehdpfaaZLawGraphReach
namespace Go.Proofs.Ythjplkjpehdpfaa
set_option linter.unusedVariables false
open Go.RowKit

theorem zcU {n : Nat} {E : List (Nat × Nat)} (h : InN n E) : (Xx E n).length ≤ n := by
 rw [← zbQ h]
 exact Ul h (Nat.le_refl n)
structure XO (A B : List (Nat × Nat)) (i : Nat) : Prop where
 mem : ∀ e, e ∈ B ↔ e ∈ A.drop i
 len : B.length ≤ 2 * (A.length - i)
theorem XO.step {A B : List (Nat × Nat)} {i : Nat} (h : XO A B (i + 1)) (hi : i < A.length) : XO A (B ++ [nth A i]) i where
 mem e := by
  rw [List.mem_append, h.mem, List.drop_eq_getElem_cons hi, List.mem_singleton, List.mem_cons, nth_eq hi]
  exact Or.comm
 len := by have := h.len; rw [List.length_append, List.length_singleton]; omega
theorem XO.step2 {A B : List (Nat × Nat)} {i : Nat} (h : XO A B (i + 1)) (hi : i < A.length) : XO A ((B ++ [nth A i]) ++ [nth A i]) i where
 mem e := by
  rw [List.mem_append, (h.step hi).mem, List.mem_singleton]
  constructor
  ·rintro (h1 | rfl)
   ·exact h1
   ·rw [List.drop_eq_getElem_cons hi, nth_eq hi]; exact List.mem_cons_self ..
  ·exact .inl
 len := by have := h.len; rw [List.length_append, List.length_append, List.length_singleton]; omega
set_option maxHeartbeats 8000000 in
theorem Wp (n : Int) (l : List Int) (v : Int) (hn : I64 n) (hl : ∀ x ∈ l, I64 x) (hlen : l.length ≤ 9223372036854775807) (hv : I64 v) : yj Try.prog 6 [.int .i64 n, .list 1 (l.map zt), .int .i64 v] .fr (.bool true) := by
 have hsize := zem n hn
 obtain ⟨k, hk, hk10⟩ := zcl n 10 (by decide)
 have hk' : xc n 10 = k := hk
 rw [hk'] at hsize
 have hA := zdY k l
 have hAl := zcV k l
 have h3 := Yd v 3 hv (by decide) (by decide)
 generalize xc v 3 = v3 at h3
 refine yj.of_body (c := (xm Try.prog zw zn 123)) ⟨Try.func6, rfl, Try.ntmps6, by kernel_rfl⟩ (by simp [FV.hand]) (by exact Nat.le_of_ble_eq_true rfl) rfl ?_
 change FW _ _ _ ⟨[(0, .int .i64 n), (1, .list 1 (l.map zt)), (2, .int .i64 v)], []⟩
 (repeat (first | refine FW.seq ?_ | refine FW.region ?_ | refine zd.nil ?_ | refine zc rfl rfl rfl ?_ | refine zb rfl rfl rfl ?_))
 refine zW hsize (by repeat (first | exact zu.nil | refine zu.cons (by exact yU.plain rfl rfl) ?_)) rfl rfl ?_
 (repeat (first | refine FW.seq ?_ | refine FW.region ?_ | refine zd.nil ?_ | refine zc rfl rfl rfl ?_ | refine zb rfl rfl rfl ?_))
 refine XJ (zbs k l (by omega) hlen hl) (by repeat (first | exact zu.nil | refine zu.cons (by exact yU.plain rfl rfl) ?_)) (List.length_map _) rfl rfl rfl ?_
 refine zd.le ?_ (FLe.share 22 rfl rfl (by rw [List.length_map]))
 generalize Xy k l = A at hA hAl
 obtain ⟨m, hm⟩ : ∃ m, A.length = m := ⟨_, rfl⟩
 rw [hm] at hAl
 (repeat (first | refine FW.seq ?_ | refine FW.region ?_ | refine FW.block ?_ | refine zd.nil ?_ | refine zc rfl rfl rfl ?_ | refine zb rfl rfl rfl ?_ | refine zA rfl rfl (by exact List.length_map _) rfl rfl ?_ | refine Zs rfl rfl (by omega) rfl rfl ?_))
 rw [hm]
 refine FW.loop (fun x : Nat × List (Nat × Nat) => ⟨[(2, .int .i64 v), (7, .int .i64 k), (8, .list 2 (A.map edf)), (9, .own 100 0 0 x.2.length), (10, .int .i64 ((x.1 : Int) - 1))], [(100, ⟨0, .own, 34, 2, x.2.map edf⟩)]⟩) (fun x => x.1 ≤ m ∧ XO A x.2 x.1) (fun x => x.1) (m, []) ⟨Nat.le_refl _, ⟨fun e => by rw [List.drop_of_length_le (by omega)], Nat.zero_le _⟩⟩ ?_ ?_
 ·show FLe _ ⟨[(2, .int .i64 v), (7, .int .i64 k), (8, .list 2 (A.map edf)), (9, .own 100 0 0 0), (10, .int .i64 ((m : Int) - 1))], [(100, ⟨0, .own, 34, 2, []⟩)]⟩
  exact (FLe.cv [⟨100, none, 0, ⟨0, .own, 34, 2, []⟩⟩] (by repeat (first | exact .nil | refine .new ?_)) (by repeat (first | exact .nil | refine .cons (.plain rfl rfl rfl) ?_ | refine .cons (.nil rfl (.head _) rfl) ?_)))
 rintro ⟨i, B⟩ ⟨hi, hB⟩
 dsimp only at hi hB ⊢
 have hBl := hB.len
 rw [hm] at hBl
 (repeat (first | refine FW.seq ?_ | refine FW.region ?_ | refine zd.nil ?_ | refine zb rfl rfl rfl ?_ | refine VS rfl rfl rfl rfl ?_))
 refine FW.cond rfl (fun h => ?_) (fun h => ?_)
 ·have hpos : 1 ≤ i := by simp at h; omega
  clear h
  obtain ⟨j, rfl⟩ : ∃ j, i = j + 1 := ⟨i - 1, by omega⟩
  have hjA : j < A.length := by omega
  have hs1 := hB.step hjA
  have hs2 := hB.step2 hjA
  obtain ⟨⟨x, y⟩, he⟩ : ∃ e, nth A j = e := ⟨_, rfl⟩
  rw [he] at hs1 hs2
  rw [show ((j + 1 : Nat) : Int) - 1 = (j : Int) by omega]
  (repeat (first | refine FW.seq ?_ | refine FW.region ?_ | refine FW.block ?_ | refine FW.skip ?_ | refine zd.nil ?_ | refine zc rfl rfl rfl ?_ | refine zb rfl rfl rfl ?_ | refine zy rfl rfl rfl rfl rfl rfl (by first | (simp; omega) | (simp; done)) rfl rfl ?_ | refine YM rfl rfl rfl (by decide) (by first | (simp; omega) | (simp; done)) (by first | exact zf (by omega) | rfl) rfl rfl rfl ?_ | refine Yl rfl rfl rfl rfl rfl rfl rfl rfl rfl rfl ?_ | refine Zm rfl rfl (by first | exact (List.length_map _).symm | rfl | (simp; done) | (simp; omega)) rfl rfl rfl (by decide) (by exact xJ.own rfl rfl (by decide) (by first | exact List.length_map _ | exact (List.length_map _).symm | exact List.length_replicate | rfl | (simp; done) | omega | (simp; omega))) (by first | (simp; omega) | (simp; done)) (by first | (simp; omega) | (simp; done)) rfl rfl rfl ?_ | refine zgx rfl rfl (by omega) rfl rfl ?_))
  rw [he]
  refine zW h3 (by repeat (first | exact zu.nil | refine zu.cons (by exact yU.plain rfl rfl) ?_)) rfl rfl ?_
  (repeat (first | refine zd.nil ?_ | refine Ya rfl rfl rfl rfl ?_))
  refine FW.cond rfl (fun h => ?_) (fun h => ?_)
  ·(repeat (first | refine FW.region ?_ | refine zd.nil ?_ | refine zc rfl rfl rfl ?_ | refine zb rfl rfl rfl ?_ | refine Zs rfl rfl (by omega) rfl rfl ?_ | refine zy rfl rfl rfl rfl rfl rfl (by first | (simp; omega) | (simp; done)) rfl rfl ?_ | refine YM rfl rfl rfl (by decide) (by first | (simp; omega) | (simp; done)) (by first | exact zf (by omega) | rfl) rfl rfl rfl ?_ | refine Yl rfl rfl rfl rfl rfl rfl rfl rfl rfl rfl ?_ | refine Zm rfl rfl (by first | rfl | (simp; done) | (simp; omega)) rfl rfl rfl (by decide) (by exact xJ.own rfl rfl (by decide) (by first | exact List.length_map _ | exact (List.length_map _).symm | exact List.length_replicate | rfl | (simp; done) | omega | (simp; omega))) (by first | (simp; omega) | (simp; done)) (by first | (simp; omega) | (simp; done)) rfl rfl rfl ?_))
   rw [he]
   refine ⟨(j, (B ++ [(x, y)]) ++ [(x, y)]), ⟨by show j ≤ m; omega, hs2⟩, by show j < j + 1; omega, ?_⟩
   dsimp only
   rw [List.map_append, List.map_append]
   exact (FLe.cv [⟨100, some 48, 0 + 1, ⟨0, .own, 34, 2, (B.map edf ++ [(x, y)].map edf) ++ [(x, y)].map edf⟩⟩] (by repeat (first | exact .nil | refine .old rfl (by decide) (by first | rfl | (simp; done)) ?_)) (by repeat (first | exact .nil | refine .cons (.plain rfl rfl (by first | rfl | (simp; done))) ?_ | refine .cons (.own rfl (.head _) rfl (by first | rfl | (simp; done))) ?_)))
  ·(repeat (first | refine FW.region ?_ | refine FW.skip ?_ | refine zd.nil ?_ | refine zc rfl rfl rfl ?_ | refine zb rfl rfl rfl ?_ | refine Zs rfl rfl (by omega) rfl rfl ?_))
   refine ⟨(j, B ++ [(x, y)]), ⟨by show j ≤ m; omega, hs1⟩, by show j < j + 1; omega, ?_⟩
   dsimp only
   rw [List.map_append]
   exact (FLe.cv [⟨100, some 36, 0 + 1, ⟨0, .own, 34, 2, B.map edf ++ [(x, y)].map edf⟩⟩] (by repeat (first | exact .nil | refine .old rfl (by decide) (by first | rfl | (simp; done)) ?_)) (by repeat (first | exact .nil | refine .cons (.plain rfl rfl (by first | rfl | (simp; done))) ?_ | refine .cons (.own rfl (.head _) rfl (by first | rfl | (simp; done))) ?_)))
 ·have hi0 : i = 0 := by simp at h; omega
  subst hi0
  clear h
  have hmem : ∀ e, e ∈ A ↔ e ∈ B := fun e => by rw [hB.mem e, List.drop_zero]
  have hBin : InN k B := fun e he => hA e ((hmem e).2 he)
  refine FW.le ?_ (FLe.share 9 rfl rfl (by rw [List.length_map]))
  have hTa := Xm k A (by omega) (by omega) hA
  have hTb := Xm k B (by omega) (by omega) hBin
  rw [← zaH hmem, zd9] at hTb
  rw [zd9] at hTa
  have hrl := zei A k k []
  generalize rtK A k k [] = r at hTa hTb hrl
  have hrl' : (zf1 r).length ≤ k := by simpa using hrl
  have hCa := Yg k A (by omega) (by omega) hA
  have hCb := Yg k B (by omega) (by omega) hBin
  rw [← zay hmem] at hCb
  have hcl := zcU hA
  generalize Xx A k = c at hCa hCb hcl
  have hRa := VN k A [v, 0] (by omega) (by omega) hA (by show 2 ≤ _; decide)
  have hRb := VN k B [0, v] (by omega) (by omega) hBin (by show 2 ≤ _; decide)
  rw [← zab hmem hA hBin (fr := [v, 0]) (fun z => by simp [Or.comm])] at hRb
  have hgl := zcw k A [v, 0]
  generalize Wf k A [v, 0] = g at hRa hRb hgl
  have hPa := Zu k A (by omega) (by omega) hA
  have hPb := Zu k B (by omega) (by omega) hBin
  rw [← za4 hmem] at hPb
  have hpl := zcu k A
  have hpr := zcv (n := k) (E := A)
  generalize xL k A = p at hPa hPb hpl hpr
  (repeat (first | refine FW.seq ?_ | refine FW.region ?_ | refine FW.exit ?_ | refine zb rfl rfl rfl ?_))
  refine yc hTa (by repeat (first | exact zu.nil | refine zu.cons (by exact yU.plain rfl rfl) ?_)) rfl rfl ?_
  (repeat (first | refine FW.seq ?_ | refine FW.region ?_ | refine zd.nil ?_ | refine zc rfl rfl rfl ?_ | refine zb rfl rfl rfl ?_ | refine xZ rfl rfl rfl rfl rfl ?_))
  refine yc hTb (by repeat (first | exact zu.nil | refine zu.cons (by exact yU.plain rfl rfl) ?_)) rfl rfl ?_
  (repeat (first | refine FW.seq ?_ | refine FW.region ?_ | refine zd.nil ?_ | refine zc rfl rfl rfl ?_ | refine zb rfl rfl rfl ?_ | refine xZ rfl rfl rfl rfl rfl ?_ | refine zf6 rfl rfl rfl rfl rfl ?_))
  refine yP (fun h => by exfalso; simp at h) (fun h => ?_)
  (repeat (first | refine zb rfl rfl ⟨_, _, rfl, rfl, rfl⟩ ?_))
  refine zW (yS (zf1 r) (zf1 r) (by omega) (by omega)) (by repeat (first | exact zu.nil | refine zu.cons (by exact yU.plain rfl rfl) ?_)) rfl ⟨_, _, rfl, rfl, rfl⟩ ?_
  rw [show decide (zf1 r = zf1 r) = true by simp]
  (repeat (first | refine zb rfl rfl rfl ?_ | refine zX rfl rfl rfl rfl ?_ | refine zb rfl rfl ⟨_, _, rfl, rfl, rfl⟩ ?_ | refine Xz rfl rfl ⟨_, _, rfl, rfl, rfl⟩ ?_))
  refine yc hCa (by repeat (first | exact zu.nil | refine zu.cons (by exact yU.plain rfl rfl) ?_)) rfl ⟨_, _, rfl, rfl, rfl⟩ ?_
  (repeat (first | refine zb rfl rfl ⟨_, _, rfl, rfl, rfl⟩ ?_))
  refine yc hCb (by repeat (first | exact zu.nil | refine zu.cons (by exact yU.plain rfl rfl) ?_)) rfl ⟨_, _, rfl, rfl, rfl⟩ ?_
  refine zW (yS c c (by omega) (by omega)) (by repeat (first | exact zu.nil | refine zu.cons (by exact yU.plain rfl rfl) ?_)) rfl ⟨_, _, rfl, rfl, rfl⟩ ?_
  rw [show decide (c = c) = true by simp]
  (repeat (first | refine zb rfl rfl rfl ?_ | refine zX rfl rfl rfl rfl ?_ | refine zb rfl rfl ⟨_, _, rfl, rfl, rfl⟩ ?_ | refine Xz rfl rfl ⟨_, _, rfl, rfl, rfl⟩ ?_))
  refine ZD (es := [[.int .i64 v], [.int .i64 0]]) rfl rfl rfl (by refine xH.int rfl rfl ?_; refine xH.int rfl rfl ?_; exact xH.nil) rfl rfl rfl rfl rfl ⟨_, _, rfl, rfl, rfl⟩ ?_
  refine zd.le ?_ (FLe.share 84 rfl rfl rfl)
  rw [show [[FV.int .i64 v], [FV.int .i64 0]] = [v, 0].map zt from rfl]
  refine yc hRa (by repeat (first | exact zu.nil | refine zu.cons (by exact yU.plain rfl rfl) ?_)) rfl ⟨_, _, rfl, rfl, rfl⟩ ?_
  (repeat (first | refine zb rfl rfl ⟨_, _, rfl, rfl, rfl⟩ ?_))
  refine ZD (es := [[.int .i64 0], [.int .i64 v]]) rfl rfl rfl (by refine xH.int rfl rfl ?_; refine xH.int rfl rfl ?_; exact xH.nil) rfl rfl rfl rfl rfl ⟨_, _, rfl, rfl, rfl⟩ ?_
  refine zd.le ?_ (FLe.share 89 rfl rfl rfl)
  rw [show [[FV.int .i64 0], [FV.int .i64 v]] = [0, v].map zt from rfl]
  refine yc hRb (by repeat (first | exact zu.nil | refine zu.cons (by exact yU.plain rfl rfl) ?_)) rfl ⟨_, _, rfl, rfl, rfl⟩ ?_
  refine zW (yS g g (by omega) (by omega)) (by repeat (first | exact zu.nil | refine zu.cons (by exact yU.plain rfl rfl) ?_)) rfl ⟨_, _, rfl, rfl, rfl⟩ ?_
  rw [show decide (g = g) = true by simp]
  (repeat (first | refine FW.seq ?_ | refine FW.region ?_ | refine FW.skip ?_ | refine FW.condF rfl ?_ | refine zd.nil ?_ | refine zb rfl rfl rfl ?_ | refine zX rfl rfl rfl rfl ?_ | refine Xz rfl rfl ⟨_, _, rfl, rfl, rfl⟩ ?_))
  refine yc hPa (by repeat (first | exact zu.nil | refine zu.cons (by exact yU.plain rfl rfl) ?_)) rfl rfl ?_
  (repeat (first | refine FW.seq ?_ | refine FW.region ?_ | refine zd.nil ?_ | refine zc rfl rfl rfl ?_ | refine zb rfl rfl rfl ?_))
  refine yc hPb (by repeat (first | exact zu.nil | refine zu.cons (by exact yU.plain rfl rfl) ?_)) rfl rfl ?_
  (repeat (first | refine FW.seq ?_ | refine FW.region ?_ | refine zd.nil ?_ | refine zc rfl rfl rfl ?_ | refine zb rfl rfl rfl ?_ | refine zA rfl rfl (by exact List.length_map _) rfl rfl ?_ | refine zfI rfl rfl rfl rfl ?_))
  refine FW.cond rfl (fun h => by exfalso; simp at h) (fun h => ?_)
  (repeat (first | refine FW.seq ?_ | refine FW.region ?_ | refine FW.block ?_ | refine FW.skip ?_ | refine zd.nil ?_ | refine zc rfl rfl rfl ?_))
  refine FW.loop (fun i : Nat => ⟨[(15, .list 1 (p.map Zr)), (16, .list 1 (p.map Zr)), (17, .int .i64 i)], []⟩) (fun i => i ≤ p.length) (fun i => p.length - i) 0 (Nat.zero_le _) (FLe.cv [] (by repeat (first | exact .nil)) (by repeat (first | exact .nil | refine .cons (.plain rfl rfl rfl) ?_))) ?_
  intro i hi
  (repeat (first | refine FW.seq ?_ | refine FW.region ?_ | refine zd.nil ?_ | refine zb rfl rfl rfl ?_ | refine zA rfl rfl (by exact List.length_map _) rfl rfl ?_ | refine zP rfl rfl rfl rfl ?_))
  refine FW.cond rfl (fun h => ?_) (fun h => ?_)
  ·have hlt : i < p.length := by simpa using h
   clear h
   have hcl2 := hpr _ (zK hlt)
   obtain ⟨q, hq⟩ : ∃ q, nth p i = q := ⟨_, rfl⟩
   rw [hq] at hcl2
   have hS := zff ⟨#[99, 111, 109, 112, 111, 110, 101, 110, 116]⟩ (by show 9 ≤ _; decide) (YV q) (by rw [XS]; omega)
   rw [zbM] at hS
   generalize zgO _ (YV q) = z at hS
   (repeat (first | refine FW.seq ?_ | refine FW.block ?_ | refine FW.skip ?_ | refine FW.draw ?_ | refine zS rfl rfl rfl ?_ | refine ZC rfl rfl rfl rfl rfl rfl (by simp; omega) rfl rfl ?_ | refine ZQ rfl rfl rfl (by simp; omega) (by first | exact zf (by omega) | rfl) rfl rfl rfl rfl ?_))
   rw [hq]
   refine zb3 hS (by repeat (first | exact zu.nil | refine zu.cons (by exact yU.plain rfl rfl) ?_)) rfl rfl ?_
   (repeat (first | refine zS rfl rfl rfl ?_ | refine ZC rfl rfl rfl rfl rfl rfl (by simp; omega) rfl rfl ?_ | refine ZQ rfl rfl rfl (by simp; omega) (by first | exact zf (by omega) | rfl) rfl rfl rfl rfl ?_))
   rw [hq]
   refine zb3 hS (by repeat (first | exact zu.nil | refine zu.cons (by exact yU.plain rfl rfl) ?_)) rfl rfl ?_
   (repeat (first | refine zD.nil ?_ | refine zfE rfl rfl rfl rfl ?_))
   refine ⟨by kernel_rfl, ?_⟩
   refine FW.cond rfl (fun h => by exfalso; simp at h) (fun h => ?_)
   (repeat (first | refine FW.region ?_ | refine FW.skip ?_ | refine zd.nil ?_ | refine zc rfl rfl rfl ?_ | refine zb rfl rfl rfl ?_ | refine zB rfl rfl (by omega) rfl rfl ?_))
   exact ⟨i + 1, by omega, by omega, (FLe.cv [] (by repeat (first | exact .nil)) (by repeat (first | exact .nil | refine .cons (.plain rfl rfl rfl) ?_)))⟩
  ·(repeat (first | refine FW.seq ?_ | refine FW.region ?_ | refine FW.exit ?_))
   refine zW zar (by repeat (first | exact zu.nil)) rfl rfl ?_
   (repeat (first | refine zd.nil ?_ | refine zc rfl rfl rfl ?_))
   exact FW.ret ⟨.inl rfl, yy rfl rfl rfl rfl⟩
end Go.Proofs.Ythjplkjpehdpfaa
