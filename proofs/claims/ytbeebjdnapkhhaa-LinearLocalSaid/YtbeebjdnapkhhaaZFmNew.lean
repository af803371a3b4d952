/-
  poset.New, at plain values.
-/
import Derived.Test.YtbeebjdnapkhhaaZQ
import Derived.Test.YtbeebjdnapkhhaaZFmOrd
import Derived.Test.YtbeebjdnapkhhaaZFmRowD
import Derived.Test.YtbeebjdnapkhhaaZFmBack
import Derived.Test.YtbeebjdnapkhhaaZJ
namespace Go.Proofs.Ytbeebjdnapkhhaa
set_option linter.unusedVariables false
open Go.RowKit

theorem Low.famA {B n : Nat} {f : Nat → zn} {l : List (Nat × zn)} (h : B + n ≤ zf) (hl : Low l) : Low (Xd B n f ++ l) := fun p hp => by
 rcases List.mem_append.1 hp with hp | hp
 ·obtain ⟨j, hj, rfl⟩ := List.mem_map.1 hp
  have := List.mem_range.1 hj
  show B + j < zf
  omega
 ·exact hl p hp
theorem zcC {B n k i : Nat} {f : Nat → zn} {b : zn} {l : List (Nat × zn)} (h : k < B) (hi : i ≠ k) : look {} ((i, b) :: (Xd B n f ++ l)) k = look {} l k := by
 rw [zq, if_neg hi, yQ]
 have : (Xd B n f).any (fun p => Nat.beq p.1 k) = false := by
  rw [List.any_eq_false]
  intro p hp e
  obtain ⟨j, hj, rfl⟩ := List.mem_map.1 hp
  have e : B + j = k := Nat.eq_of_beq_eq_true e
  omega
 rw [this]; rfl
theorem zaN {k : Nat} : ∀ {l : List (Nat × zn)}, l.any (fun p => Nat.beq p.1 k) = false → look {} l k = {}
 | [], _ => rfl
 | p :: l, h => by
  obtain ⟨i, b⟩ := p
  rw [List.any_cons, Bool.or_eq_false_iff] at h
  rw [zq, if_neg (fun e => by rw [e, Nat.beq_refl] at h; exact absurd h.1 (by decide)), zaN h.2]
theorem FLe.unpad {t : List (Nat × FV)} {C : List (Nat × zn)} {N B : Nat} {f : Nat → zn} : FLe ⟨t, C ++ (ZM N ++ Xd B 0 f)⟩ ⟨t, C⟩ := by
 refine FLe.ext fun k => ?_
 rw [yQ]
 split
 ·rfl
 ·rename_i h
  rw [zaN (Bool.eq_false_iff.2 h), zbs]
  split
  ·rfl
  ·rw [Wj, if_neg (by omega)]
theorem zba (es : List Int) (hl : es.length ≤ 1000000000) : yd Try.prog 46 [.list 1 (es.map zE)] .sh (.fn 65 [.eptr 1 [[.list 1 (es.map zE)]] 0 0]) := by
 refine yd.of_body (c := (ZJ Try.prog zF zA 4)) ⟨Try.func46, rfl, Try.ntmps46, by kernel_rfl⟩ (by simp [FV.hand]) (by exact Nat.le_of_ble_eq_true rfl) rfl ?_
 change FW _ _ _ ⟨[(0, .list 1 (es.map zE))], []⟩
 (repeat (first | refine FW.seq ?_ | refine FW.region ?_ | refine zc.nil ?_ | refine zbG rfl rfl rfl rfl rfl ?_ | refine za rfl rfl rfl ?_))
 refine zc.le ?_ (FLe.shareP 1 rfl rfl)
 (repeat (first | refine zc.nil ?_ | refine za rfl rfl rfl ?_ | refine WQ rfl rfl rfl rfl ?_))
 exact FW.ret ⟨.inl rfl, .sh (.cons (.tmp 2 rfl rfl) .nil) rfl rfl⟩
noncomputable def abv (P : Prs) (n : Nat) (D : List Nat) (j : Nat) : FV := if j ∈ D then .list 1 ((xH n (yX P j)).map za4) else .nil
def zim (n : Nat) (g : Nat → FV) : List (Nat × zn) := [(110, ⟨0, .hrow, 60, 1, [[.ptr 111 0 0 0]]⟩), (111, ⟨0, .hrow, 89, 2, [[.int .i64 n, .own 112 0 0 n]]⟩), (112, ⟨0, .hrow, 94, 1, (List.range n).map fun j => [g j]⟩)]
theorem FLe.ordK {t t' : List (Nat × FV)} {ob : List (Nat × zn)} {n : Nat} (hn : n ≤ 1000) {g g' : Nat → FV} {i1 v1 i2 v2 i3 v3 : Nat} (hg : ∀ j, j < n → g j = g' j ∧ (g j).hand = none) (h1 : look {} ob i1 = ⟨v1, .hrow, 60, 1, [[.ptr i2 v2 0 0]]⟩) (h2 : look {} ob i2 = ⟨v2, .hrow, 89, 2, [[.int .i64 n, .own i3 v3 0 n]]⟩)
  (h3 : look {} ob i3 = ⟨v3, .hrow, 94, 1, (List.range n).map fun j => [g j]⟩) (hnd : [i1, i2, i3].Nodup) (hlow : Low ob)
  (ht : SlC t [⟨110, some i1, v1, ⟨0, .hrow, 60, 1, [[.ptr 111 0 0 0]]⟩⟩, ⟨111, some i2, v2, ⟨0, .hrow, 89, 2, [[.int .i64 n, .own 112 0 0 n]]⟩⟩, ⟨112, some i3, v3, ⟨0, .hrow, 94, 1, (List.range n).map fun j => [g' j]⟩⟩] t') :
  FLe ⟨t, ob⟩ ⟨t', zim n g'⟩ := by
 refine FLe.conv [⟨110, some i1, v1, ⟨0, .hrow, 60, 1, [[.ptr 111 0 0 0]]⟩⟩, ⟨111, some i2, v2, ⟨0, .hrow, 89, 2, [[.int .i64 n, .own 112 0 0 n]]⟩⟩, ⟨112, some i3, v3, ⟨0, .hrow, 94, 1, (List.range n).map fun j => [g' j]⟩⟩] (by simp) hnd (XX (zbk hlow) _) (za7.all fun q hq => ?_)
  (.oldH h1 (.cons (.ptr (.tail _ (.head _)) rfl) .nil) (.oldK h2 (.cons (.cons (.plain rfl rfl) (.cons (.own (.tail _ (.tail _ (.head _))) rfl rfl rfl) .nil)) rfl .nil) (.oldH h3 (zdQ.of fun j hj => .plain (hg j hj).2 (hg j hj).1) .nil))) ht
 simp at hq
 rcases hq with rfl | rfl | rfl
 ·show 110 < zf; unfold zf; omega
 ·show 111 < zf; unfold zf; omega
 ·show 112 < zf; unfold zf; omega
theorem FLe.ordA {t t' : List (Nat × FV)} {ob : List (Nat × zn)} {n m a : Nat} (hn : n ≤ 1000) {g : Nat → FV} {W : List (List FV)} {i1 v1 i2 v2 i3 v3 i4 v4 : Nat} (hg : ∀ j, j < n → (g j).hand = none) (h1 : look {} ob i1 = ⟨v1, .hrow, 60, 1, [[.ptr i2 v2 0 0]]⟩) (h2 : look {} ob i2 = ⟨v2, .hrow, 89, 2, [[.int .i64 n, .own i3 v3 0 n]]⟩)
  (h3 : look {} ob i3 = ⟨v3, .hrow, 94, 1, (List.range n).map fun j => [if j = a then .own i4 v4 0 m else g j]⟩) (h4 : look {} ob i4 = ⟨v4, .own, 116, 1, W⟩) (hnd : [i1, i2, i3, i4].Nodup) (hlow : Low ob)
  (ht : SlC t [⟨110, some i1, v1, ⟨0, .hrow, 60, 1, [[.ptr 111 0 0 0]]⟩⟩, ⟨111, some i2, v2, ⟨0, .hrow, 89, 2, [[.int .i64 n, .own 112 0 0 n]]⟩⟩, ⟨112, some i3, v3, ⟨0, .hrow, 94, 1, (List.range n).map fun j => [if j = a then .own 113 0 0 m else g j]⟩⟩, ⟨113, some i4, v4, ⟨0, .own, 116, 1, W⟩⟩] t') :
  FLe ⟨t, ob⟩ ⟨t', [(110, ⟨0, .hrow, 60, 1, [[.ptr 111 0 0 0]]⟩), (111, ⟨0, .hrow, 89, 2, [[.int .i64 n, .own 112 0 0 n]]⟩), (112, ⟨0, .hrow, 94, 1, (List.range n).map fun j => [if j = a then .own 113 0 0 m else g j]⟩), (113, ⟨0, .own, 116, 1, W⟩)]⟩ := by
 refine FLe.conv [⟨110, some i1, v1, ⟨0, .hrow, 60, 1, [[.ptr 111 0 0 0]]⟩⟩, ⟨111, some i2, v2, ⟨0, .hrow, 89, 2, [[.int .i64 n, .own 112 0 0 n]]⟩⟩, ⟨112, some i3, v3, ⟨0, .hrow, 94, 1, (List.range n).map fun j => [if j = a then .own 113 0 0 m else g j]⟩⟩, ⟨113, some i4, v4, ⟨0, .own, 116, 1, W⟩⟩] (by simp) hnd (XX (zbk hlow) _) (za7.all fun q hq => ?_)
  (.oldH h1 (.cons (.ptr (.tail _ (.head _)) rfl) .nil) (.oldK h2 (.cons (.cons (.plain rfl rfl) (.cons (.own (.tail _ (.tail _ (.head _))) rfl rfl rfl) .nil)) rfl .nil) (.oldH h3 (zdQ.of fun j hj => ?_) (.old h4 rfl rfl .nil)))) ht
 ·simp at hq
  rcases hq with rfl | rfl | rfl | rfl
  ·show 110 < zf; unfold zf; omega
  ·show 111 < zf; unfold zf; omega
  ·show 112 < zf; unfold zf; omega
  ·show 113 < zf; unfold zf; omega
 ·split
  ·exact .own (.tail _ (.tail _ (.tail _ (.head _)))) rfl rfl rfl
  ·exact .plain (hg j hj) rfl
theorem za9 (P : Prs) (n : Nat) (D : List Nat) (j : Nat) : (abv P n D j).hand = none := by unfold abv; split <;> rfl
theorem zhn {P : Prs} {n : Nat} {row : List Nat} {W : List Int} (h : KR P n row W) (hall : row.length = n) {b : Nat} (hb : b < n) : b ∈ row := by
 refine Classical.byContradiction fun hno => ?_
 have key : ∀ (l m : List Nat), l.Nodup → (∀ x ∈ l, x ∈ m) → l.length ≤ m.length := by
  intro l
  induction l with
  | nil => intro m _ _; exact Nat.zero_le _
  | cons x l ih =>
   intro m hn hs
   obtain ⟨h1, h2⟩ := List.nodup_cons.1 hn
   have hx := hs x (by simp)
   have hl := List.length_erase_of_mem hx
   have hpos : 0 < m.length := List.length_pos_of_mem hx
   have := ih (m.erase x) h2 fun y hy => (List.mem_erase_of_ne (fun e : y = x => h1 (by rw [← e]; exact hy))).2 (hs y (by simp [hy]))
   rw [List.length_cons]
   omega
 have hs := key row ((List.range n).erase b) h.nd fun x hx => (List.mem_erase_of_ne (fun e : x = b => hno (by rw [← e]; exact hx))).2 (List.mem_range.2 (h.rng x hx))
 rw [List.length_erase_of_mem (List.mem_range.2 hb), List.length_range] at hs
 omega
theorem GW.at {c : Ctx} {w0 w : World} {J : JJ} {QQ : Exit → Act → World → Prop} {s : FSt} {code : Code} {a : Act} {β : Nat → Option Nat} (h : GW c w0 J code QQ s) (hF : FR c.N w0 J s a w β) : code.wp c.P QQ a w := h a w β hF
def zeZ (P : Prs) (k j : Nat) : zn := ⟨0, .own, 3, 1, (adj P j k).map ye⟩
def zhQ (P : Prs) (k j : Nat) : FV := .own (1000 + j) 0 0 (adj P j k).length
set_option maxHeartbeats 16000000 in
theorem zes (n : Nat) (P : Prs) (hn : n ≤ 1000) (hP : P.length ≤ 1000000) (hin : ∀ e ∈ P, e.1 < n ∧ e.2 < n) (f : Nat → Nat) (hf : ∀ e ∈ P, f e.1 < f e.2) : yd Try.prog 29 [.int .i64 n, .list 2 (P.map edf)] .sh (.tup [zhF n (yX P), .int .i64 0]) := by
 unfold zhF zjX
 refine yd.of_bodyR (c := (ZJ Try.prog zF zA 187)) ⟨Try.func29, rfl, Try.ntmps29, by kernel_rfl⟩ (by simp [FV.hand]) (by exact Nat.le_of_ble_eq_true rfl) rfl ?_
 intro w0 J hds
 change GW _ _ _ _ _ ⟨[(0, .int .i64 n), (1, .list 2 (P.map edf))], []⟩
 refine GW.seq ?_
 (repeat (first | refine FW.region ?_ | refine zc.nil ?_ | refine zbG rfl rfl rfl rfl rfl ?_ | refine za rfl rfl rfl ?_))
 refine GW.le ?_ (FLe.shareP 2 rfl rfl)
 refine GW.seq ?_
 (repeat (first | refine FW.seq ?_ | refine FW.region ?_ | refine FW.block ?_ | refine FW.condF rfl ?_ | refine zc.nil ?_ | refine za rfl rfl rfl ?_ | refine zD rfl rfl rfl (by simp; done) rfl rfl rfl rfl rfl ?_ | refine zH rfl rfl rfl rfl ?_ | refine zhf rfl rfl rfl rfl ?_))
 refine FW.condF (congrArg FV.bool (decide_eq_false (by omega))) ?_
 (repeat (first | refine FW.skip ?_))
 refine GW.seq ?_
 (repeat (first | refine FW.region ?_ | refine zD rfl rfl rfl (by first | omega | (simp; done)) rfl rfl rfl rfl rfl ?_ | refine WP rfl rfl rfl rfl rfl rfl rfl rfl (by first | omega | (simp; done)) (by first | omega | (simp; done)) rfl rfl rfl ?_ | refine zQ rfl rfl rfl rfl rfl rfl rfl ?_))
 refine zc.le ?_ (FLe.toH (i := 6) rfl)
 (repeat (first | refine zc.nil ?_ | refine zfA rfl rfl rfl rfl rfl rfl (by decide) (by simp; done) rfl ?_))
 refine GW.seq ?_
 (repeat (first | refine FW.region ?_ | refine zc.nil ?_ | refine za rfl rfl rfl ?_ | refine zD rfl rfl rfl (by first | omega | (simp; done)) rfl rfl rfl rfl rfl ?_ | refine WP rfl rfl rfl rfl rfl rfl rfl rfl (by first | omega | (simp; done)) (by first | omega | (simp; done)) rfl rfl rfl ?_))
 refine GW.seq ?_
 (repeat (first | refine FW.seq ?_ | refine FW.region ?_ | refine FW.block ?_ | refine zc.nil ?_ | refine zb rfl rfl rfl ?_ | refine zw rfl rfl (by exact List.length_map _) rfl rfl ?_))
 refine FW.loop (fun i : Nat => ⟨[(1, .list 2 (P.map edf)), (2, .eptr 1 [[.int .i64 n]] 0 0), (6, .ptr 101 0 0 0), (7, .own 102 0 0 n), (32, .list 2 (P.map edf)), (33, .int .i64 P.length), (34, .int .i64 i)], [(101, ⟨0, .hrow, 79, 1, [[.own 103 0 0 n]]⟩), (102, ⟨0, .own, 3, 1, List.replicate n (zE 0)⟩), (103, ⟨0, .own, 22, 1, List.replicate n [.nil]⟩)]⟩) (fun i => i ≤ P.length) (fun i => P.length - i) 0 (Nat.zero_le _) ?_ ?_
 ·exact (FLe.conv [⟨101, some 6, 0 + 1, ⟨0, .hrow, 79, 1, [[.own 103 0 0 n]]⟩⟩, ⟨102, some 31, 0 + 1, ⟨0, .own, 3, 1, List.replicate n (zE 0)⟩⟩, ⟨103, some 29, 0 + 1, ⟨0, .own, 22, 1, List.replicate n [.nil]⟩⟩] (by simp) (by simp) rfl (by repeat (first | exact .nil | refine .low rfl ?_ | refine .same rfl ?_ | refine .bump (Nat.lt_succ_self _) ?_)) (by repeat (first | exact .nil | refine .old rfl (by decide) rfl ?_ | refine .oldH rfl (by repeat (first | exact .nil | refine .cons (.own (.tail _ (.tail _ (.head _))) rfl rfl rfl) ?_)) ?_)) (by repeat (first | exact .nil | refine .cons (.plain rfl rfl rfl) ?_ | refine .cons (.ptr rfl (.head _) rfl) ?_ | refine .cons (.own rfl (.tail _ (.head _)) rfl rfl) ?_)))
 ·intro i hi
  (repeat (first | refine FW.seq ?_ | refine FW.region ?_ | refine zc.nil ?_ | refine zH rfl rfl rfl rfl ?_))
  refine FW.cond rfl (fun h => ?_) (fun h => ?_)
  ·have hlt : i < P.length := by simpa using h
   clear h
   obtain ⟨⟨a, b⟩, he⟩ : ∃ e, nth P i = e := ⟨_, rfl⟩
   obtain ⟨ha, hb⟩ := hin (nth P i) (zy hlt)
   rw [he] at ha hb
   dsimp only at ha hb
   (repeat (first | refine FW.seq ?_ | refine FW.region ?_ | refine FW.block ?_ | refine FW.skip ?_ | refine zc.nil ?_ | refine zm rfl rfl rfl rfl rfl (by first | (simp; omega) | (simp; done)) (by first | exact zd (by omega) | rfl) rfl rfl rfl rfl ?_ | refine yI rfl rfl rfl (by decide) (by first | (simp; omega) | (simp; done)) (by first | exact zd (by omega) | rfl) rfl rfl rfl ?_ | refine zH rfl rfl rfl rfl ?_ | refine zQ rfl rfl rfl rfl rfl rfl rfl ?_ | refine zB rfl rfl rfl rfl rfl rfl rfl rfl rfl ?_ | refine zb rfl rfl rfl ?_ | refine zC rfl rfl rfl rfl rfl rfl (by first | (simp; omega) | (simp; done)) rfl rfl ?_ | refine xP rfl rfl rfl rfl rfl rfl rfl (by decide) (by first | (simp; omega) | (simp; done)) rfl rfl ?_ | refine zhh rfl rfl rfl rfl ?_))
   rw [he]
   skip
   refine yY (fun h => ?_) (fun h => ?_)
   ·exfalso
    have := of_decide_eq_true h
    dsimp only at this
    omega
   (repeat (first | refine zc.nil ?_ | refine zW rfl rfl rfl rfl ?_ | refine xP rfl rfl rfl rfl rfl rfl rfl (by decide) (by simp; done) rfl ⟨_, _, rfl, rfl, rfl⟩ ?_ | refine zD rfl rfl rfl (by simp; done) rfl rfl rfl rfl ⟨_, _, rfl, rfl, rfl⟩ ?_ | refine zm rfl rfl rfl rfl rfl (by simp; done) rfl rfl rfl rfl ⟨_, _, rfl, rfl, rfl⟩ ?_ | refine zi9 rfl rfl rfl ⟨_, _, rfl, rfl, rfl⟩ ?_ | refine zaW rfl rfl rfl ⟨_, _, rfl, rfl, rfl⟩ ?_))
   refine FW.cond rfl (fun h2 => ?_) (fun h2 => ?_)
   ·exfalso
    have := of_decide_eq_true h2
    dsimp only at this
    omega
   (repeat (first | refine FW.region ?_ | refine FW.skip ?_ | refine zc.nil ?_ | refine zb rfl rfl rfl ?_ | refine zu rfl rfl (by omega) rfl rfl ?_))
   exact ⟨i + 1, by omega, by omega, (FLe.conv [⟨101, some 101, 0, ⟨0, .hrow, 79, 1, [[.own 103 0 0 n]]⟩⟩, ⟨102, some 102, 0, ⟨0, .own, 3, 1, List.replicate n (zE 0)⟩⟩, ⟨103, some 103, 0, ⟨0, .own, 22, 1, List.replicate n [.nil]⟩⟩] (by simp) (by simp) rfl (by repeat (first | exact .nil | refine .low rfl ?_ | refine .same rfl ?_ | refine .bump (Nat.lt_succ_self _) ?_)) (by repeat (first | exact .nil | refine .old rfl (by decide) rfl ?_ | refine .oldH rfl (by repeat (first | exact .nil | refine .cons (.own (.tail _ (.tail _ (.head _))) rfl rfl rfl) ?_)) ?_)) (by repeat (first | exact .nil | refine .cons (.plain rfl rfl rfl) ?_ | refine .cons (.ptr rfl (.head _) rfl) ?_ | refine .cons (.own rfl (.tail _ (.head _)) rfl rfl) ?_)))⟩
  ·obtain rfl : i = P.length := by simp at h; omega
   clear h hi
   (repeat (first | refine FW.exit ?_))
   refine GW.seq ?_
   (repeat (first | refine FW.seq ?_ | refine FW.region ?_ | refine FW.block ?_ | refine zc.nil ?_ | refine zb rfl rfl rfl ?_ | refine zw rfl rfl (by exact List.length_map _) rfl rfl ?_))
   refine FW.loop (fun k : Nat => ⟨[(2, .eptr 1 [[.int .i64 n]] 0 0), (6, .ptr 101 0 0 0), (7, .own 102 0 0 n), (54, .list 2 (P.map edf)), (55, .int .i64 P.length), (56, .int .i64 k)], [(101, ⟨0, .hrow, 79, 1, [[.own 100 0 0 n]]⟩), (102, ⟨0, .own, 3, 1, (Za P n k).map zE⟩), (100, ⟨0, .hrow, 22, 1, (List.range n).map fun j => [zhQ P k j]⟩)] ++ (ZM 200 ++ Xd 1000 n (zeZ P k))⟩) (fun k => k ≤ P.length) (fun k => P.length - k) 0 (Nat.zero_le _) ?_ ?_
   ·rw [show List.replicate n (zE 0) = (Za P n 0).map zE by rw [zeV, List.map_replicate], zcM n [FV.nil]]
    exact (FLe.toH (i := 103) rfl).trans (FLe.convN [⟨101, some 101, 0, ⟨0, .hrow, 79, 1, [[.own 100 0 0 n]]⟩⟩, ⟨102, some 102, 0, ⟨0, .own, 3, 1, (Za P n 0).map zE⟩⟩, ⟨100, some 103, 0, ⟨0, .hrow, 22, 1, (List.range n).map fun j => [zhQ P 0 j]⟩⟩] 1000 n (zeZ P 0) rfl (by unfold zf; omega) rfl (by simp) (by simp) (by repeat (first | exact Low.nil | exact Low.fam rfl (by unfold zf; omega) | refine Low.cons rfl ?_))
     (fun j _ => ⟨rfl, rfl⟩) (.oldH rfl (.cons (.own (.tail _ (.tail _ (.head _))) rfl rfl rfl) .nil) (.old rfl rfl rfl (.oldH rfl (zdQ.of fun j hj => .nil (List.mem_append_right _ (Ym hj)) rfl) .nil))) (by repeat (first | exact .nil | refine .cons (.plain rfl rfl rfl) ?_ | refine .cons (.ptr rfl (.head _) rfl) ?_ | refine .cons (.own rfl (.tail _ (.head _)) rfl rfl) ?_)))
   intro k hk
   (repeat (first | refine FW.seq ?_ | refine FW.region ?_ | refine zc.nil ?_ | refine zH rfl rfl rfl rfl ?_))
   refine FW.cond rfl (fun h => ?_) (fun h => ?_)
   ·have hlt : k < P.length := by simpa using h
    clear h
    obtain ⟨⟨a, b⟩, he⟩ : ∃ e, nth P k = e := ⟨_, rfl⟩
    obtain ⟨ha, hb⟩ := hin (nth P k) (zy hlt)
    have hrs := fun v => zhM (P := P) (v := v) hlt
    have hds1 := zeU (P := P) (n := n) hlt
    have hdl := xU (P := P) (n := n) k
    rw [he] at ha hb hds1
    simp only [he] at hrs
    dsimp only at ha hb hds1
    have hrl := zdc P a k
    (repeat (first | refine FW.seq ?_ | refine FW.region ?_ | refine FW.block ?_ | refine FW.skip ?_ | refine zc.nil ?_ | refine yI rfl rfl rfl (by decide) (by simp; omega) (by first | exact zd (by omega) | rfl) rfl rfl rfl ?_ | refine zQ rfl rfl rfl rfl rfl rfl rfl ?_ | refine zB rfl rfl rfl rfl rfl rfl rfl rfl rfl ?_ | refine zC rfl rfl rfl rfl rfl rfl (by simp; omega) rfl rfl ?_))
    refine FW.le (s' := ⟨[(11, .ptr 11 1 0 0), (2, .eptr 1 [[.int .i64 n]] 0 0), (6, .ptr 101 0 0 0), (7, .own 102 0 0 n), (54, .list 2 (P.map edf)), (55, .int .i64 P.length), (56, .int .i64 k)], [(101, ⟨0, .hrow, 79, 1, [[.own 100 0 0 n]]⟩), (102, ⟨0, .own, 3, 1, (Za P n k).map zE⟩), (11, ⟨1, .own, 59, 2, [edf (a, b)]⟩), (100, ⟨0, .hrow, 22, 1, (List.range n).map fun j => [if j = a then .own 150 0 0 (adj P a k).length else zhQ P k j]⟩), (150, zeZ P k a)] ++ (ZM 200 ++ Xd 1000 n fun j => if j = a then ⟨0, .own, 3, 1, []⟩ else zeZ P k j)⟩) ?_ ?_
    ·refine FW.draw ?_
     refine ZC rfl rfl rfl rfl rfl rfl rfl ?_
     refine WN rfl rfl rfl rfl rfl rfl rfl (by decide) (by simp; done) rfl rfl ?_; refine Zf rfl rfl rfl rfl rfl (by simp; done) rfl rfl rfl rfl rfl ?_
     refine ZC rfl rfl rfl rfl rfl rfl rfl ?_
     refine WN rfl rfl rfl rfl rfl rfl rfl (by decide) (by first | omega | (simp; done)) rfl rfl ?_; refine Zf rfl rfl rfl rfl rfl (by first | omega | (simp; done)) rfl rfl rfl rfl rfl ?_; refine xE rfl rfl rfl rfl rfl rfl (by decide) rfl (by first | omega | (simp; done)) rfl rfl ?_
     refine ZC rfl rfl rfl rfl (Zu n a _ ha) rfl rfl ?_
     rw [if_pos rfl]
     refine WN rfl rfl rfl rfl rfl rfl rfl (by decide) (by first | (simp; omega) | (simp; done)) rfl rfl ?_; refine Zf rfl rfl rfl rfl rfl (by first | (simp; omega) | (simp; done)) rfl rfl rfl rfl rfl ?_; refine zfq rfl rfl rfl rfl rfl rfl rfl rfl ?_; refine zgY rfl rfl (by first | exact (List.length_map _).symm | rfl | (simp; done) | (simp; omega)) rfl rfl rfl (by decide) (by exact XN.own rfl rfl (by decide) (by first | exact List.length_map _ | exact (List.length_map _).symm | exact List.length_replicate | rfl | (simp; done) | omega | (simp; omega))) (by first | (simp; omega) | (simp; done)) (by first | (simp; omega) | (simp; done)) rfl rfl rfl ?_
     refine xE rfl rfl rfl rfl rfl rfl (by decide) rfl (by first | omega | (simp; omega)) rfl rfl ?_; refine zaU rfl rfl rfl rfl rfl rfl (by decide) (by first | omega | (simp; omega)) rfl ?_
     refine zG.nil ⟨by kernel_rfl, ?_⟩
     have hdv : 0 ≤ nth (Za P n k) b ∧ nth (Za P n k) b ≤ P.length := by
      rw [ZT hb]
      have : (P.take k).countP (fun e => decide (e.2 = b)) ≤ (P.take k).length := List.countP_le_length
      rw [List.length_take] at this
      omega
     generalize Za P n k = D at hds1 hdl hdv ⊢
     obtain ⟨x, hx⟩ : ∃ x, nth D b = x := ⟨_, rfl⟩
     rw [hx] at hds1 hdv
     (repeat (first | refine FW.region ?_ | refine zm rfl rfl rfl rfl rfl (by first | omega | (simp; omega) | (simp; done)) (by first | exact zd (by omega) | rfl) rfl rfl rfl rfl ?_ | refine zb rfl rfl rfl ?_ | refine zt rfl rfl rfl rfl rfl rfl (by decide) rfl (by first | omega | (simp; omega) | (simp; done)) rfl rfl ?_ | refine xP rfl rfl rfl rfl rfl rfl rfl (by decide) (by first | omega | (simp; omega) | (simp; done)) rfl rfl ?_))
     dsimp only
     rw [hx]
     (repeat (first | refine FW.region ?_ | refine zc.nil ?_ | refine zS rfl rfl rfl rfl rfl rfl (by first | omega | (simp; omega)) (by first | exact zd (by omega) | rfl) rfl rfl rfl ?_ | refine zb rfl rfl rfl ?_ | refine zt rfl rfl rfl rfl rfl rfl (by decide) rfl (by first | omega | (simp; omega)) rfl rfl ?_ | refine zu rfl rfl (by omega) rfl rfl ?_))
     rw [Wo]
     refine ⟨k + 1, by omega, by omega, ?_⟩
     rw [hds1, List.map_set]
     refine FLe.convS [⟨101, some 101, 0, ⟨0, .hrow, 79, 1, [[.own 100 0 0 n]]⟩⟩, ⟨102, some 102, 0, ⟨0, .own, 3, 1, (D.map zE).set b (zE (x + 1))⟩⟩, ⟨100, some 100, 0, ⟨0, .hrow, 22, 1, (List.range n).map fun j => [zhQ P (k + 1) j]⟩⟩] 1000 n a (some 71) (fun j => if j = a then 1 else 0) (zeZ P (k + 1)) rfl (by unfold zf; omega) rfl (by simp) (by simp) (by simp) (by repeat (first | exact Low.nil | exact Low.fam rfl (by unfold zf; omega) | refine Low.cons rfl ?_)) ?_ ?_ ?_
     ·intro j hj
      by_cases hja : j = a
      ·subst hja
       rw [if_pos rfl, if_pos rfl]
       refine .inr ⟨71, rfl, ?_, rfl⟩
       unfold zeZ
       rw [hrs, if_pos rfl, List.map_append]
       rfl
      ·rw [if_neg hja, if_neg hja]
       refine .inr ⟨_, rfl, (yp (C := [(102, _), (100, _), (71, _), (150, _), (70, _), (101, _), (102, _), (11, _), (100, _), (150, _)]) rfl (by decide) hj).trans ?_, rfl⟩
       rw [if_neg hja]
       unfold zeZ
       rw [hrs, if_neg hja, List.append_nil]
     ·refine .oldH rfl (.cons (.own (.tail _ (.tail _ (.head _))) rfl rfl rfl) .nil) (.old rfl rfl rfl (.oldH rfl ?_ .nil))
      rw [show ((List.range n).map fun j => if j = a then [FV.own 71 (0 + 1) 0 (List.map ye (adj P a k) ++ [[FV.int IntKind.i64 ((b : Nat) : Int)]]).length] else [if j = a then FV.own 150 0 0 (adj P a k).length else zhQ P k j]) = (List.range n).map fun j => [if j = a then FV.own 71 1 0 ((adj P a k).length + 1) else zhQ P k j] from List.map_congr_left fun j _ => by
       by_cases hja : j = a
       ·rw [if_pos hja, if_pos hja, List.length_append, List.length_map]; rfl
       ·rw [if_neg hja, if_neg hja, if_neg hja]]
      refine zdQ.of fun j hj => ?_
      have hm := Ym (B := 1000) (s := fun j => if j = a then some 71 else some (1000 + j)) (vo := fun j => if j = a then 1 else 0) (f := zeZ P (k + 1)) hj
      unfold zhQ
      by_cases hja : j = a
      ·subst hja
       simp only [if_pos] at hm
       rw [if_pos rfl, hrs, if_pos rfl]
       exact .own (List.mem_append_right _ hm) rfl rfl (by simp)
      ·simp only [if_neg hja] at hm
       rw [if_neg hja, hrs, if_neg hja, List.append_nil]
       exact .own (List.mem_append_right _ hm) rfl rfl rfl
     ·exact (by repeat (first | exact .nil | refine .cons (.plain rfl rfl rfl) ?_ | refine .cons (.ptr rfl (.head _) rfl) ?_ | refine .cons (.own rfl (.tail _ (.head _)) rfl rfl) ?_))
    ·refine FLe.convS [⟨101, some 101, 0, ⟨0, .hrow, 79, 1, [[.own 100 0 0 n]]⟩⟩, ⟨102, some 102, 0, ⟨0, .own, 3, 1, (Za P n k).map zE⟩⟩, ⟨11, some 11, 1, ⟨1, .own, 59, 2, [edf (a, b)]⟩⟩, ⟨100, some 100, 0, ⟨0, .hrow, 22, 1, (List.range n).map fun j => [if j = a then .own 150 0 0 (adj P a k).length else zhQ P k j]⟩⟩, ⟨150, some (1000 + a), 0, zeZ P k a⟩] 1000 n a none (fun _ => 0) (fun j => if j = a then ⟨0, .own, 3, 1, []⟩ else zeZ P k j) rfl (by unfold zf; omega) rfl (by simp) (by simp <;> omega) (by simp <;> omega) (by repeat (first | exact Low.nil | exact Low.fam rfl (by unfold zf; omega) | refine Low.cons rfl ?_)) ?_ ?_ ?_
     ·intro j hj
      by_cases hja : j = a
      ·rw [if_pos hja, if_pos hja]; exact .inl ⟨rfl, rfl, rfl⟩
      ·rw [if_neg hja, if_neg hja]
       exact .inr ⟨_, rfl, yp (C := [(11, _), (11, _), (101, _), (102, _), (100, _)]) rfl (by decide) hj, rfl⟩
     ·refine .oldH rfl (.cons (.own (.tail _ (.tail _ (.tail _ (.head _)))) rfl rfl rfl) .nil) (.old rfl rfl rfl (.old rfl rfl (by rw [he]) (.oldH rfl (zdQ.of fun j hj => ?_) (.old (yp (C := [(11, _), (11, _), (101, _), (102, _), (100, _)]) rfl (by decide) ha) rfl rfl .nil))))
      by_cases hja : j = a
      ·subst hja
       rw [if_pos rfl]
       exact .own (List.mem_append_left _ (.tail _ (.tail _ (.tail _ (.tail _ (.head _)))))) rfl rfl rfl
      ·rw [if_neg hja]
       have hm := Ym (B := 1000) (s := fun j => if j = a then none else some (1000 + j)) (vo := fun _ => 0) (f := fun j => if j = a then ⟨0, .own, 3, 1, []⟩ else zeZ P k j) hj
       simp only [if_neg hja] at hm
       exact .own (List.mem_append_right _ hm) rfl rfl rfl
     ·exact (by repeat (first | exact .nil | refine .cons (.plain rfl rfl rfl) ?_ | refine .cons (.ptr rfl (.head _) rfl) ?_ | refine .cons (.own rfl (.tail _ (.head _)) rfl rfl) ?_ | refine .cons (.ptr rfl (.tail _ (.tail _ (.head _))) rfl) ?_))
   ·obtain rfl : k = P.length := by simp at h; omega
    clear h hk
    (repeat (first | refine FW.exit ?_))
    refine GW.le ?_ (FLe.deep 100 1000 n (w := 0) (E2 := 22) (E := 3) (sz := 1) (fun _ => 0) (fun j => (adj P j P.length).map ye) ?_ (fun j hj => yp (C := [(101, _), (102, _), (100, _)]) rfl (by decide) hj) (by decide))
    ·obtain ⟨NX, hNX⟩ : ∃ NX, (List.range n).map (fun j => [FV.list 1 ((adj P j P.length).map ye)]) = NX := ⟨_, rfl⟩
     have hNXl : NX.length = n := by rw [← hNX]; simp
     have hNXa : ∀ v, v < n → NX.getD v [] = [.list 1 ((zae P v).map ye)] := fun v hv => by rw [← hNX]; simp [hv]; rfl
     rw [hNX]
     refine GW.le (s' := ⟨[(2, .eptr 1 [[.int .i64 n]] 0 0), (6, .ptr 101 0 0 0), (7, .own 102 0 0 n)], [(101, ⟨0, .hrow, 79, 1, [[.own 100 0 0 n]]⟩), (102, ⟨0, .own, 3, 1, (Za P n P.length).map zE⟩), (100, ⟨0, .own, 22, 1, NX⟩)] ++ (ZM 200 ++ Xd 1000 0 (zeZ P 0))⟩) ?_
      (FLe.convN [⟨101, some 101, 0, ⟨0, .hrow, 79, 1, [[.own 100 0 0 n]]⟩⟩, ⟨102, some 102, 0, ⟨0, .own, 3, 1, (Za P n P.length).map zE⟩⟩, ⟨100, some 100, 0, ⟨0, .own, 22, 1, NX⟩⟩] 1000 0 (zeZ P 0) rfl (by decide) rfl (by simp) (by simp) (.cons rfl (.famA (by unfold zf; omega) (by repeat (first | exact Low.nil | exact Low.fam rfl (by unfold zf; omega) | refine Low.cons rfl ?_)))) (fun j hj => by omega)
       (.oldH (zcC (i := 100) (by decide) (by decide)) (.cons (.own (.tail _ (.tail _ (.head _))) rfl rfl rfl) .nil) (.old (zcC (i := 100) (by decide) (by decide)) rfl rfl (.old rfl rfl rfl .nil))) (by repeat (first | exact .nil | refine .cons (.plain rfl rfl rfl) ?_ | refine .cons (.ptr rfl (.head _) rfl) ?_ | refine .cons (.own rfl (.tail _ (.head _)) rfl rfl) ?_)))
     refine GW.le ?_ FLe.unpad
     refine GW.le ?_ (FLe.shut (i := 100) rfl)
     refine GW.le ?_ (FLe.cellL 101 (j := 0) (o := 0) rfl rfl rfl rfl hNXl.symm)
     refine GW.le ?_ (FLe.ofH 101 rfl rfl)
     refine GW.le ?_ (FLe.shareP 6 rfl rfl)
     refine GW.le (s' := ⟨[(2, .eptr 1 [[.int .i64 n]] 0 0), (6, .eptr 1 [[.list 1 NX]] 0 0), (7, .own 102 0 0 n)], [(102, ⟨0, .own, 3, 1, (Za P n P.length).map zE⟩)]⟩) ?_ (FLe.conv [⟨102, some 102, 0, ⟨0, .own, 3, 1, (Za P n P.length).map zE⟩⟩] (by simp) (by simp) rfl (by repeat (first | exact .nil | refine .low rfl ?_ | refine .same rfl ?_ | refine .bump (Nat.lt_succ_self _) ?_)) (by repeat (first | exact .nil | refine .old rfl (by decide) rfl ?_)) (by repeat (first | exact .nil | refine .cons (.plain rfl rfl rfl) ?_ | refine .cons (.own rfl (.head _) rfl rfl) ?_)))
     have hKI := KI.first hin
     have hDl := xU (P := P) (n := n) P.length
     generalize Za P n P.length = D at hKI hDl ⊢
     refine GW.seq ?_
     (repeat (first | refine FW.region ?_ | refine zc.nil ?_ | refine za rfl rfl rfl ?_))
     refine GW.seq ?_
     (repeat (first | refine FW.seq ?_ | refine FW.region ?_ | refine FW.block ?_ | refine zc.nil ?_ | refine zD rfl rfl rfl (by simp; done) rfl rfl rfl rfl rfl ?_ | refine zb rfl rfl rfl ?_))
     refine FW.loop (fun k : Nat => ⟨[(2, .eptr 1 [[.int .i64 n]] 0 0), (6, .eptr 1 [[.list 1 NX]] 0 0), (7, .own 102 0 0 n), (12, .own 103 0 0 (zdJ D k).length), (81, .int .i64 n), (82, .int .i64 k)], [(102, ⟨0, .own, 3, 1, (D).map zE⟩), (103, ⟨0, .own, 3, 1, (zdJ D k).map ye⟩)]⟩) (fun k => k ≤ n) (fun k => n - k) 0 (Nat.zero_le _) ?_ ?_
     ·show FLe _ ⟨[(2, .eptr 1 [[.int .i64 n]] 0 0), (6, .eptr 1 [[.list 1 NX]] 0 0), (7, .own 102 0 0 n), (12, .own 103 0 0 0), (81, .int .i64 n), (82, .int .i64 0)], [(102, ⟨0, .own, 3, 1, (D).map zE⟩), (103, ⟨0, .own, 3, 1, (([] : List Nat)).map ye⟩)]⟩
      exact (FLe.conv [⟨102, some 102, 0, ⟨0, .own, 3, 1, (D).map zE⟩⟩, ⟨103, none, 0, ⟨0, .own, 3, 1, []⟩⟩] (by simp) (by simp) rfl (by repeat (first | exact .nil | refine .low rfl ?_ | refine .same rfl ?_ | refine .bump (Nat.lt_succ_self _) ?_)) (by repeat (first | exact .nil | refine .old rfl (by decide) rfl ?_ | refine .new ?_)) (by repeat (first | exact .nil | refine .cons (.plain rfl rfl rfl) ?_ | refine .cons (.own rfl (.head _) rfl rfl) ?_ | refine .cons (.nil rfl (.tail _ (.head _)) rfl) ?_)))
     ·intro k hk
      (repeat (first | refine FW.seq ?_ | refine FW.region ?_ | refine zc.nil ?_ | refine zH rfl rfl rfl rfl ?_))
      refine FW.cond rfl (fun h => ?_) (fun h => ?_)
      ·have hlt : k < n := by simpa using h
       clear h
       have hzs := zhm D k
       have hzl := ziC D k
       (repeat (first | refine FW.seq ?_ | refine FW.region ?_ | refine FW.block ?_ | refine FW.skip ?_ | refine zc.nil ?_ | refine za rfl rfl rfl ?_ | refine zm rfl rfl rfl rfl rfl (by first | omega | (simp; omega)) (by first | exact zd (by omega) | rfl) rfl rfl rfl rfl ?_ | refine zb rfl rfl rfl ?_ | refine zt rfl rfl rfl rfl rfl rfl (by decide) rfl (by first | omega | (simp; omega)) rfl rfl ?_ | refine yy rfl rfl rfl rfl ?_))
       refine FW.cond rfl (fun h => ?_) (fun h => ?_)
       ·rw [if_pos (of_decide_eq_true h)] at hzs
        (repeat (first | refine FW.region ?_ | refine zc.nil ?_ | refine za rfl rfl rfl ?_ | refine zb rfl rfl rfl ?_ | refine zu rfl rfl (by omega) rfl rfl ?_ | refine xF rfl rfl (by first | exact (List.length_map _).symm | (simp; done) | (simp; omega)) rfl rfl rfl (by decide) (by exact XN.own rfl rfl (by decide) (by first | exact List.length_map _ | exact (List.length_map _).symm | exact List.length_replicate | rfl | (simp; done) | omega | (simp; omega))) (by first | (simp; omega) | (simp; done)) (by first | (simp; omega) | (simp; done)) rfl rfl rfl ?_ | refine yT rfl rfl rfl rfl rfl rfl rfl rfl ?_))
        refine ⟨k + 1, by omega, by omega, ?_⟩
        rw [hzs, List.map_append]
        exact (FLe.conv [⟨102, some 102, 0, ⟨0, .own, 3, 1, (D).map zE⟩⟩, ⟨103, some 93, 0 + 1, ⟨0, .own, 3, 1, (zdJ D k).map ye ++ [k].map ye⟩⟩] (by simp) (by simp) rfl (by repeat (first | exact .nil | refine .low rfl ?_ | refine .same rfl ?_ | refine .bump (Nat.lt_succ_self _) ?_)) (by repeat (first | exact .nil | refine .old rfl (by decide) (by first | rfl | (simp; done)) ?_)) (by repeat (first | exact .nil | refine .cons (.plain rfl rfl (by first | rfl | (simp; done))) ?_ | refine .cons (.own rfl (.head _) rfl (by first | rfl | (simp; done))) ?_ | refine .cons (.own rfl (.tail _ (.head _)) rfl (by first | rfl | (simp; done))) ?_)))
       ·rw [if_neg (of_decide_eq_false h), List.append_nil] at hzs
        (repeat (first | refine FW.region ?_ | refine FW.skip ?_ | refine zc.nil ?_ | refine zb rfl rfl rfl ?_ | refine zu rfl rfl (by omega) rfl rfl ?_))
        refine ⟨k + 1, by omega, by omega, ?_⟩
        rw [hzs]
        exact (FLe.conv [⟨102, some 102, 0, ⟨0, .own, 3, 1, (D).map zE⟩⟩, ⟨103, some 103, 0, ⟨0, .own, 3, 1, (zdJ D k).map ye⟩⟩] (by simp) (by simp) rfl (by repeat (first | exact .nil | refine .low rfl ?_ | refine .same rfl ?_ | refine .bump (Nat.lt_succ_self _) ?_)) (by repeat (first | exact .nil | refine .old rfl (by decide) rfl ?_)) (by repeat (first | exact .nil | refine .cons (.plain rfl rfl rfl) ?_ | refine .cons (.own rfl (.head _) rfl rfl) ?_ | refine .cons (.own rfl (.tail _ (.head _)) rfl rfl) ?_)))
      ·obtain rfl : n = k := by simp at h; omega
       clear h hk
       generalize zdJ D n = row at hKI ⊢
       (repeat (first | refine FW.exit ?_))
       refine GW.seq ?_
       (repeat (first | refine FW.seq ?_ | refine FW.region ?_ | refine FW.block ?_ | refine zc.nil ?_ | refine za rfl rfl rfl ?_))
       refine FW.loop (fun p : Nat × List Nat × List Int => ⟨[(2, .eptr 1 [[.int .i64 n]] 0 0), (6, .eptr 1 [[.list 1 NX]] 0 0), (7, .own 102 0 0 n), (12, .own 103 0 0 p.2.1.length), (14, .int .i64 p.1)], [(102, ⟨0, .own, 3, 1, (p.2.2).map zE⟩), (103, ⟨0, .own, 3, 1, (p.2.1).map ye⟩)]⟩) (fun p => KI P n p.1 p.2.1 p.2.2) (fun p => n - p.1) (0, row, D) hKI ?_ ?_
       ·exact (FLe.conv [⟨102, some 102, 0, ⟨0, .own, 3, 1, (D).map zE⟩⟩, ⟨103, some 103, 0, ⟨0, .own, 3, 1, row.map ye⟩⟩] (by simp) (by simp) rfl (by repeat (first | exact .nil | refine .low rfl ?_ | refine .same rfl ?_ | refine .bump (Nat.lt_succ_self _) ?_)) (by repeat (first | exact .nil | refine .old rfl (by decide) rfl ?_)) (by repeat (first | exact .nil | refine .cons (.plain rfl rfl rfl) ?_ | refine .cons (.own rfl (.head _) rfl rfl) ?_ | refine .cons (.own rfl (.tail _ (.head _)) rfl rfl) ?_)))
       ·rintro ⟨k, row, D⟩ hKI
        dsimp only at hKI ⊢
        have hDl := hKI.r.len
        have hrl := hKI.r.row_len
        have hkr := hKI.le
        (repeat (first | refine FW.seq ?_ | refine FW.region ?_ | refine zc.nil ?_ | refine zH rfl rfl rfl rfl ?_ | refine zb rfl rfl rfl ?_ | refine ya rfl rfl rfl (by decide) rfl rfl ?_))
        refine FW.cond rfl (fun h => ?_) (fun h => ?_)
        ·have hlt : k < row.length := by simpa using h
         clear h
         have hvn : nth row k < n := hKI.r.rng _ (zy hlt)
         have hKJ := hKI.start
         have hn0 := hKI.r.nd
         have hstp := fun j zfC W hj h => KJ.step (P := P) hin (row0 := row) (j := j) (row := zfC) (W := W) hlt hn0 h hj
         have hstop := fun zfC W h => KJ.stop (P := P) (n := n) (row0 := row) (row := zfC) (W := W) hlt hn0 h
         have hNa := hNXa _ hvn
         have hAl : (zae P (nth row k)).length ≤ P.length := zdc P _ _
         obtain ⟨v, hv⟩ : ∃ v, nth row k = v := ⟨_, rfl⟩
         rw [hv] at hvn hNa hstp hAl hstop
         obtain ⟨A, hA⟩ : ∃ A, zae P v = A := ⟨_, rfl⟩
         rw [hA] at hNa hstp hAl hstop
         (repeat (first | refine FW.seq ?_ | refine FW.block ?_ | refine FW.skip ?_))
         refine FW.drawQ (by kernel_rfl) ?_
         (repeat (first | refine yO rfl rfl rfl (by first | omega | (simp; omega) | (simp; done)) (by first | exact zd (by omega) | rfl) rfl rfl rfl rfl ?_ | refine Zf rfl rfl rfl rfl rfl (by first | omega | (simp; omega) | (simp; done)) (by first | exact zd (by omega) | rfl) rfl rfl rfl rfl ?_ | refine yn rfl rfl rfl ?_ | refine xj rfl rfl rfl rfl rfl rfl (by first | omega | (simp; omega) | (simp; done)) rfl rfl ?_ | refine xE rfl rfl rfl rfl rfl rfl (by decide) rfl (by first | omega | (simp; omega) | (simp; done)) rfl rfl ?_))
         rw [hv]
         skip
         refine yO rfl rfl rfl (by omega) hNa rfl rfl rfl rfl ?_
         (repeat (first | refine zG.nil ?_ | refine yn rfl rfl rfl ?_ | refine zfr rfl rfl (by exact List.length_map _) rfl rfl ?_))
         refine ⟨by kernel_rfl, ?_⟩
         (repeat (first | refine FW.block ?_))
         refine FW.loop (fun p : Nat × List Nat × List Int => ⟨[(2, .eptr 1 [[.int .i64 n]] 0 0), (6, .eptr 1 [[.list 1 NX]] 0 0), (7, .own 102 0 0 n), (12, .own 103 0 0 p.2.1.length), (14, .int .i64 k), (107, .list 1 (A.map ye)), (108, .int .i64 A.length), (109, .int .i64 p.1)], [(102, ⟨0, .own, 3, 1, (p.2.2).map zE⟩), (103, ⟨0, .own, 3, 1, (p.2.1).map ye⟩)]⟩) (fun p => p.1 ≤ A.length ∧ KJ P n k row p.1 p.2.1 p.2.2) (fun p => A.length - p.1) (0, row, D) ⟨Nat.zero_le _, hKJ⟩ ?_ ?_
         ·exact (FLe.conv [⟨102, some 102, 0, ⟨0, .own, 3, 1, (D).map zE⟩⟩, ⟨103, some 103, 0, ⟨0, .own, 3, 1, row.map ye⟩⟩] (by simp) (by simp) rfl (by repeat (first | exact .nil | refine .low rfl ?_ | refine .same rfl ?_ | refine .bump (Nat.lt_succ_self _) ?_)) (by repeat (first | exact .nil | refine .old rfl (by decide) rfl ?_)) (by repeat (first | exact .nil | refine .cons (.plain rfl rfl rfl) ?_ | refine .cons (.own rfl (.head _) rfl rfl) ?_ | refine .cons (.own rfl (.tail _ (.head _)) rfl rfl) ?_)))
         rintro ⟨j, zfC, W⟩ ⟨hj, hKJ⟩
         dsimp only at hj hKJ ⊢
         have hWl := hKJ.r.len
         have hr2 := hKJ.r.row_len
         (repeat (first | refine FW.seq ?_ | refine FW.region ?_ | refine zc.nil ?_ | refine zH rfl rfl rfl rfl ?_))
         refine FW.cond rfl (fun h => ?_) (fun h => ?_)
         ·have hltj : j < A.length := by simpa using h
          clear h
          obtain ⟨b1, b2, b3⟩ := hstp j zfC W hltj hKJ
          obtain ⟨b, hb⟩ : ∃ b, nth A j = b := ⟨_, rfl⟩
          rw [hb] at b1 b2 b3
          have hwu : nth W b ≤ P.length := by
           have h1 := hKJ.wt b b1
           have h2 := zkf P (row.take k) b
           omega
          have hset : nth (W.set b (nth W b - 1)) b = nth W b - 1 := by rw [yN (by omega), if_pos rfl]
          obtain ⟨x, hx⟩ : ∃ x, nth W b = x := ⟨_, rfl⟩
          rw [hx] at b2 b3 hwu hset
          (repeat (first | refine FW.seq ?_ | refine FW.region ?_ | refine FW.block ?_ | refine FW.skip ?_ | refine zc.nil ?_ | refine za rfl rfl rfl ?_ | refine zD rfl rfl rfl (by first | omega | (simp; omega)) (by first | exact zd (by omega) | rfl) rfl rfl rfl rfl ?_ | refine zm rfl rfl rfl rfl rfl (by first | omega | (simp; omega)) (by first | exact zd (by omega) | rfl) rfl rfl rfl rfl ?_ | refine zb rfl rfl rfl ?_ | refine zC rfl rfl rfl rfl rfl rfl (by first | omega | (simp; omega)) rfl rfl ?_ | refine zt rfl rfl rfl rfl rfl rfl (by decide) rfl (by first | omega | (simp; omega)) rfl rfl ?_))
          rw [hb]
          (repeat (first | refine FW.seq ?_ | refine FW.region ?_ | refine zc.nil ?_ | refine zS rfl rfl rfl rfl rfl rfl (by first | omega | (simp; omega)) (by first | exact zd (by omega) | rfl) rfl rfl rfl ?_ | refine zb rfl rfl rfl ?_ | refine zt rfl rfl rfl rfl rfl rfl (by decide) rfl (by first | omega | (simp; omega)) rfl rfl ?_ | refine zcX rfl rfl (by omega) rfl rfl ?_))
          rw [hx]
          skip
          rw [show (W.map zE).set b ((zE x).set 0 (.int .i64 (x - 1))) = (W.set b (x - 1)).map zE by rw [List.map_set]; rfl]
          obtain ⟨Z, hZ⟩ : ∃ Z, W.set b (x - 1) = Z := ⟨_, rfl⟩
          have hZl : Z.length = n := by rw [← hZ, List.length_set]; exact hWl
          rw [hZ] at hset b3 ⊢
          (repeat (first | refine zc.nil ?_ | refine zm rfl rfl rfl rfl rfl (by simp; omega) (by exact zd (by omega)) rfl rfl rfl rfl ?_ | refine yy rfl rfl rfl rfl ?_))
          rw [hset]
          skip
          refine FW.cond rfl (fun h => ?_) (fun h => ?_)
          ·rw [if_pos (of_decide_eq_true h)] at b3
           (repeat (first | refine FW.region ?_ | refine zc.nil ?_ | refine za rfl rfl rfl ?_ | refine zb rfl rfl rfl ?_ | refine zu rfl rfl (by omega) rfl rfl ?_ | refine xF rfl rfl (by first | exact (List.length_map _).symm | (simp; done) | (simp; omega)) rfl rfl rfl (by decide) (by exact XN.own rfl rfl (by decide) (by first | exact List.length_map _ | exact (List.length_map _).symm | exact List.length_replicate | rfl | (simp; done) | omega | (simp; omega))) (by first | (simp; omega) | (simp; done)) (by first | (simp; omega) | (simp; done)) rfl rfl rfl ?_ | refine yT rfl rfl rfl rfl rfl rfl rfl rfl ?_))
           refine ⟨(j + 1, zfC ++ [b], Z), ⟨hltj, b3⟩, by dsimp only; omega, ?_⟩
           dsimp only
           rw [List.map_append, List.length_append]
           exact (FLe.conv [⟨102, some 102, 0, ⟨0, .own, 3, 1, (Z).map zE⟩⟩, ⟨103, some 127, 0 + 1, ⟨0, .own, 3, 1, zfC.map ye ++ [b].map ye⟩⟩] (by simp) (by simp) rfl (by repeat (first | exact .nil | refine .low rfl ?_ | refine .same rfl ?_ | refine .bump (Nat.lt_succ_self _) ?_)) (by repeat (first | exact .nil | refine .old rfl (by decide) (by first | rfl | (simp; done)) ?_)) (by repeat (first | exact .nil | refine .cons (.plain rfl rfl (by first | rfl | (simp; done))) ?_ | refine .cons (.own rfl (.head _) rfl (by first | rfl | (simp; done))) ?_ | refine .cons (.own rfl (.tail _ (.head _)) rfl (by first | rfl | (simp; done))) ?_)))
          ·rw [if_neg (of_decide_eq_false h)] at b3
           (repeat (first | refine FW.region ?_ | refine FW.skip ?_ | refine zc.nil ?_ | refine zb rfl rfl rfl ?_ | refine zu rfl rfl (by omega) rfl rfl ?_))
           exact ⟨(j + 1, zfC, Z), ⟨hltj, b3⟩, by dsimp only; omega, (FLe.conv [⟨102, some 102, 0, ⟨0, .own, 3, 1, (Z).map zE⟩⟩, ⟨103, some 103, 0, ⟨0, .own, 3, 1, zfC.map ye⟩⟩] (by simp) (by simp) rfl (by repeat (first | exact .nil | refine .low rfl ?_ | refine .same rfl ?_ | refine .bump (Nat.lt_succ_self _) ?_)) (by repeat (first | exact .nil | refine .old rfl (by decide) rfl ?_)) (by repeat (first | exact .nil | refine .cons (.plain rfl rfl rfl) ?_ | refine .cons (.own rfl (.head _) rfl rfl) ?_ | refine .cons (.own rfl (.tail _ (.head _)) rfl rfl) ?_)))⟩
         ·obtain rfl : j = A.length := by simp at h; omega
          have hKI2 := hstop zfC W hKJ
          (repeat (first | refine FW.region ?_ | refine FW.exit ?_ | refine zc.nil ?_ | refine za rfl rfl rfl ?_ | refine zb rfl rfl rfl ?_ | refine zu rfl rfl (by omega) rfl rfl ?_))
          exact ⟨(k + 1, zfC, W), hKI2, by dsimp only; omega, (FLe.conv [⟨102, some 102, 0, ⟨0, .own, 3, 1, (W).map zE⟩⟩, ⟨103, some 103, 0, ⟨0, .own, 3, 1, zfC.map ye⟩⟩] (by simp) (by simp) rfl (by repeat (first | exact .nil | refine .low rfl ?_ | refine .same rfl ?_ | refine .bump (Nat.lt_succ_self _) ?_)) (by repeat (first | exact .nil | refine .old rfl (by decide) rfl ?_)) (by repeat (first | exact .nil | refine .cons (.plain rfl rfl rfl) ?_ | refine .cons (.own rfl (.head _) rfl rfl) ?_ | refine .cons (.own rfl (.tail _ (.head _)) rfl rfl) ?_)))⟩
        ·obtain rfl : k = row.length := by simp at h; omega
         have hall := hKI.all hin hf
         have htop := hKI.r
         (repeat (first | refine FW.exit ?_))
         refine GW.seq ?_
         (repeat (first | refine FW.seq ?_ | refine FW.region ?_ | refine zc.nil ?_ | refine zD rfl rfl rfl (by simp; done) rfl rfl rfl rfl rfl ?_ | refine zH rfl rfl rfl rfl ?_ | refine zb rfl rfl rfl ?_ | refine ya rfl rfl rfl (by decide) rfl rfl ?_))
         refine FW.condF (congrArg FV.bool (decide_eq_false (by omega))) ?_
         (repeat (first | refine FW.skip ?_))
         obtain ⟨RI, hRI⟩ : ∃ RI : List Int, row.map (fun x : Nat => (x : Int)) = RI := ⟨_, rfl⟩
         have hRf : row.map ye = RI.map zE := by rw [← hRI, List.map_map]; rfl
         have hRl : RI.length = n := by rw [← hRI, List.length_map]; exact hall
         have hRn : ∀ i, i < n → nth RI i = ((nth row i : Nat) : Int) := fun i hi => by rw [← hRI, zg (by rw [List.length_map]; omega), zg (by omega), List.getElem_map]
         rw [hRf]
         refine GW.le ?_ (FLe.share 12 rfl rfl (by rw [List.length_map]; omega))
         refine GW.le (s' := ⟨[(2, .eptr 1 [[.int .i64 n]] 0 0), (6, .eptr 1 [[.list 1 NX]] 0 0), (12, .list 1 (RI.map zE))], []⟩) ?_ (FLe.conv [] (by simp) (by simp) rfl (by repeat (first | exact .nil | refine .low rfl ?_ | refine .same rfl ?_ | refine .bump (Nat.lt_succ_self _) ?_)) (by repeat (first | exact .nil)) (by repeat (first | exact .nil | refine .cons (.plain rfl rfl rfl) ?_)))
         refine GW.seq ?_
         skip
         refine FW.draw ?_
         refine yO rfl rfl rfl (by first | omega | (simp; done)) rfl rfl rfl rfl rfl ?_; refine yO rfl rfl rfl (by first | omega | (simp; done)) rfl rfl rfl rfl rfl ?_; refine zg3 rfl rfl rfl rfl rfl rfl rfl rfl (by first | omega | (simp; done)) (by first | omega | (simp; done)) rfl rfl rfl ?_
         refine zg0 rfl rfl rfl rfl rfl rfl rfl (.inl rfl) (.inr (.inl ⟨_, _, _, _, rfl, zO rfl (by decide)⟩)) rfl rfl rfl rfl ?_
         refine zjC rfl rfl rfl rfl rfl rfl rfl ?_
         refine zgX rfl rfl rfl rfl rfl ?_
         refine zfs rfl rfl rfl rfl rfl rfl (by decide) (by simp; done) rfl ?_
         refine zG.nil ⟨by kernel_rfl, ?_⟩
         refine GW.seqG ?_
         refine GW.seq ?_
         (repeat (first | refine FW.region ?_))
         refine zb rfl rfl rfl ?_
         refine xn (zba RI (by omega)) (by repeat (first | exact zi.nil | refine zi.cons (by exact yh.plain rfl rfl) ?_)) rfl rfl ?_
         refine zc.nil ?_
         rw [zcM n [FV.nil]]
         refine GW.le (s' := ⟨[(2, .eptr 1 [[.int .i64 n]] 0 0), (6, .eptr 1 [[.list 1 NX]] 0 0), (17, .ptr 110 0 0 0), (139, .fn 65 [.eptr 1 [[.list 1 (RI.map zE)]] 0 0])], zim n (abv P n (row.drop (n - 0)))⟩) ?_ ?_
         ·refine GW.block ?_
          refine GW.range (c := (ZJ Try.prog zF zA 187)) (ps := [140, 141]) (t := [(2, .eptr 1 [[.int .i64 n]] 0 0), (6, .eptr 1 [[.list 1 NX]] 0 0), (17, .ptr 110 0 0 0), (139, .fn 65 [.eptr 1 [[.list 1 (RI.map zE)]] 0 0])]) (inv := fun k => zim n (abv P n (row.drop (n - k)))) (zag RI (by omega)) hds rfl ⟨139, rfl⟩ ?_ ?_ (FLe.refl _) ?_ (by kernel_rfl) (by kernel_rfl) ?_ ?_
          ·intro y hy
           unfold zde at hy
           obtain ⟨k, _, rfl⟩ := List.mem_map.1 hy
           exact ⟨rfl, rfl⟩
          ·intro p hp
           simp at hp
           rcases hp with rfl | rfl <;> decide
          ·intro d hd
           have : d = 2 ∨ d = 6 ∨ d = 17 ∨ d = 139 := by
            refine Classical.byContradiction fun hno => hd ?_
            simp only [not_or] at hno
            rw [zq, if_neg (fun e => hno.1 e.symm), zq, if_neg (fun e => hno.2.1 e.symm), zq, if_neg (fun e => hno.2.2.1 e.symm), zq, if_neg (fun e => hno.2.2.2 e.symm)]
            rfl
           rcases this with rfl | rfl | rfl | rfl <;> exact ⟨by kernel_rfl, by kernel_rfl, by decide⟩
          ·intro k hk
           rw [XP, hRl] at hk
           have hi : n - 1 - k < n := by omega
           rw [zdU (by omega), hRl, hRn _ hi]
           have hd1 : row.drop (n - (k + 1)) = nth row (n - 1 - k) :: row.drop (n - k) := by
            rw [show n - (k + 1) = n - 1 - k by omega, zg (by omega), List.drop_eq_getElem_cons (by omega), show n - 1 - k + 1 = n - k by omega]
           have han : nth row (n - 1 - k) < n := htop.rng _ (zy (by omega))
           have hadj : ∀ b ∈ zae P (nth row (n - 1 - k)), b < n ∧ b ∈ row.drop (n - k) ∧ b ≠ nth row (n - 1 - k) := fun b hb => by
            rw [XO] at hb
            have hbn := (hin _ hb).2
            have hbr : b ∈ row := zhn htop hall hbn
            obtain ⟨i, hil, e⟩ := List.getElem_of_mem hbr
            obtain ⟨i', h1, h2⟩ := htop.topo i hil _ hb (by rw [zg hil]; exact e.symm)
            have h2 : nth row i' = nth row (n - 1 - k) := h2
            rw [zg (by omega), zg (by omega)] at h2
            have h3 := (List.getElem_inj htop.nd).1 h2
            refine ⟨hbn, ?_, fun e2 => ?_⟩
            ·rw [← e]
             exact List.mem_drop_iff_getElem.2 ⟨i - (n - k), by omega, by congr 1; omega⟩
            ·rw [← e, zg (by omega)] at e2
             have := (List.getElem_inj htop.nd).1 e2
             omega
           have haD : nth row (n - 1 - k) ∉ row.drop (n - k) := fun h => by
            obtain ⟨i, hi, e⟩ := List.mem_drop_iff_getElem.1 h
            rw [zg (by omega)] at e
            have := (List.getElem_inj htop.nd).1 e
            omega
           rw [hd1]
           generalize row.drop (n - k) = D at hadj haD ⊢
           generalize nth row (n - 1 - k) = a at hadj haD han ⊢
           have hNa := hNXa a han
           have hpall := zjA P a
           have hAl : (zae P a).length ≤ P.length := zdc P _ _
           generalize zae P a = A at hadj hNa hpall hAl
           (repeat (first | refine FW.region ?_ | refine zc.nil ?_ | refine za rfl rfl rfl ?_))
           refine ⟨rfl, ?_⟩
           change FW _ _ _ ⟨[(19, .int .i64 (a : Int)), (141, .int .i64 (a : Int)), (140, .int .i64 ((n - 1 - k : Nat) : Int)), (2, .eptr 1 [[.int .i64 n]] 0 0), (6, .eptr 1 [[.list 1 NX]] 0 0), (17, .ptr 110 0 0 0), (139, .fn 65 [.eptr 1 [[.list 1 (RI.map zE)]] 0 0])], zim n (abv P n D)⟩
           unfold zim
           (repeat (first | refine FW.seq ?_ | refine FW.block ?_))
           obtain ⟨q, hq⟩ : ∃ q, ((n : Int) + 63) / 64 = q := ⟨_, rfl⟩
           have hq' : q = ((xh n : Nat) : Int) := by unfold xh; omega
           have hnw : xh n ≤ 1000 := by unfold xh; omega
           refine FW.draw ?_
           refine ZC rfl rfl rfl rfl rfl rfl rfl ?_
           refine zdG rfl rfl (by decide) rfl rfl ?_; refine Ya rfl rfl rfl rfl rfl rfl (by decide) rfl rfl ?_
           refine UK rfl rfl rfl rfl rfl rfl rfl ?_
           refine yn rfl rfl rfl ?_; refine yO rfl rfl rfl (by simp; done) rfl rfl rfl rfl rfl ?_; refine zkk rfl rfl (by omega) rfl rfl ?_; refine zi7 rfl rfl (by omega) rfl rfl ?_
           rw [hq, hq']
           refine zg3 rfl rfl rfl rfl rfl rfl rfl rfl (by omega) (by omega) rfl rfl rfl ?_
           refine xE rfl rfl (by first | rfl | exact (Int.toNat_of_nonneg (by omega)).symm) rfl rfl rfl (by decide) rfl han rfl rfl ?_
           refine zaU rfl rfl rfl rfl rfl rfl (by decide) (by simp; omega) rfl ?_
           refine zG.nil ⟨by kernel_rfl, ?_⟩
           rw [Wo]
           (repeat (first | refine FW.seq ?_ | refine FW.region ?_ | refine zD rfl rfl rfl (by first | omega | (simp; done)) rfl rfl rfl rfl rfl ?_ | refine zb rfl rfl rfl ?_ | refine zC rfl rfl rfl rfl rfl rfl (by first | omega | (simp; done)) rfl rfl ?_))
           refine zD rfl rfl rfl (by omega) hNa rfl rfl rfl rfl ?_
           (repeat (first | refine FW.block ?_ | refine zc.nil ?_ | refine zb rfl rfl rfl ?_ | refine zw rfl rfl (by exact List.length_map _) rfl rfl ?_))
           refine FW.loop (fun j : Nat => ⟨[(19, .int .i64 (a : Int)), (2, .eptr 1 [[.int .i64 n]] 0 0), (6, .eptr 1 [[.list 1 NX]] 0 0), (17, .ptr 110 0 0 0), (139, .fn 65 [.eptr 1 [[.list 1 (RI.map zE)]] 0 0]), (155, .list 1 (A.map ye)), (156, .int .i64 A.length), (157, .int .i64 j)], [(110, ⟨0, .hrow, 60, 1, [[.ptr 111 0 0 0]]⟩), (111, ⟨0, .hrow, 89, 2, [[.int .i64 n, .own 112 0 0 n]]⟩), (112, ⟨0, .hrow, 94, 1, (List.range n).map fun j => [if j = a then .own 113 0 0 (xh n) else abv P n D j]⟩), (113, ⟨0, .own, 116, 1, (xH n (ptB P (A.take j))).map za4⟩)]⟩) (fun j => j ≤ A.length) (fun j => A.length - j) 0 (Nat.zero_le _) ?_ ?_
           ·rw [show (fun j => if j = a then [FV.own 150 (0 + 1) 0 (xh n)] else [abv P n D j]) = fun j => [if j = a then FV.own 150 1 0 (xh n) else abv P n D j] from funext fun j => by split <;> rfl,
             show List.replicate (xh n) [FV.int .u64 0] = (xH n (ptB P (A.take 0))).map za4 by rw [List.take_zero, zjB, zfJ, List.map_replicate]; rfl]
            exact FLe.ordA (i1 := 110) (i2 := 111) (i3 := 112) (i4 := 150) (by omega) (fun j _ => za9 P n D j) rfl rfl rfl rfl (by decide) (by repeat (first | exact Low.nil | exact Low.fam rfl (by unfold zf; omega) | refine Low.cons rfl ?_)) (by repeat (first | exact .nil | refine .cons (.plain rfl rfl rfl) ?_ | refine .cons (.ptr rfl (.head _) rfl) ?_))
           intro j hj
           (repeat (first | refine FW.seq ?_ | refine FW.region ?_ | refine zc.nil ?_ | refine zH rfl rfl rfl rfl ?_))
           refine FW.cond rfl (fun h => ?_) (fun h => ?_)
           ·have hltj : j < A.length := by simpa using h
            clear h
            have hts := Zg hltj
            obtain ⟨b1, b2, b3⟩ := hadj _ (zy hltj)
            obtain ⟨b, hb⟩ : ∃ b, nth A j = b := ⟨_, rfl⟩
            rw [hb] at b1 b2 b3 hts
            have hps := zir P (A.take j) b
            rw [← hts] at hps
            generalize ptB P (A.take j) = pp at hps
            have hadd := zc0 n b 0 pp b1 (by omega)
            have hjn := zaw 0 (xh n) (xH n fun x => pp x || decide (x = b)) (xH n (yX P b)) (yu _ _) (yu _ _) (by omega) zeF zeF
            rw [zfI] at hjn
            have hab : (if b = a then FV.own 113 0 0 (xh n) else abv P n D b) = .list 1 ((xH n (yX P b)).map za4) := by
             rw [if_neg b3]; unfold abv; rw [if_pos b2]
            (repeat (first | refine FW.seq ?_ | refine FW.region ?_ | refine FW.block ?_ | refine FW.skip ?_ | refine zc.nil ?_ | refine za rfl rfl rfl ?_ | refine zD rfl rfl rfl (by first | (simp; omega) | (simp; done)) (by first | exact zd (by omega) | rfl) rfl rfl rfl rfl ?_ | refine zbK rfl rfl rfl rfl rfl rfl rfl ?_ | refine zC rfl rfl rfl rfl rfl rfl (by first | (simp; omega) | (simp; done)) rfl rfl ?_ | refine zjE rfl rfl (by decide) rfl rfl ?_ | refine zj rfl rfl rfl rfl rfl rfl (by decide) rfl rfl ?_))
            rw [hb]
            skip
            refine zcT rfl rfl rfl rfl rfl rfl rfl ?_
            refine zb rfl rfl rfl ?_; refine zt rfl rfl rfl rfl rfl rfl (by decide) rfl (by omega) rfl rfl ?_
            refine zbK rfl rfl rfl rfl (Zu n a _ han) rfl rfl ?_
            rw [if_pos rfl]
            refine zb rfl rfl rfl ?_
            refine zbH hadd [(5000, 113)] rfl (xt.cons rfl rfl rfl xt.nil) rfl rfl rfl rfl rfl rfl ?_
            rintro _ _ ⟨rfl, h1⟩
            refine zbU.one [(113, zax 0 (xH n fun x => pp x || decide (x = b)))] (.tup []) rfl (congrArg (fun b => [(113, zn.ren (gOf [(5000, 113)]) b)]) h1) ?_
            clear h1 hadd
            refine zc.nil ?_
            refine FW.draw ?_
            refine ZC rfl rfl rfl rfl rfl rfl rfl ?_
            refine zdG rfl rfl (by decide) rfl rfl ?_; refine Ya rfl rfl rfl rfl rfl rfl (by decide) rfl rfl ?_
            refine UK rfl rfl rfl rfl rfl rfl rfl ?_
            refine yn rfl rfl rfl ?_; refine xE rfl rfl rfl rfl rfl rfl (by decide) rfl (by omega) rfl rfl ?_
            refine ZC rfl rfl rfl rfl (Zu n a _ han) rfl rfl ?_
            rw [if_pos rfl]
            refine ZC rfl rfl rfl rfl rfl rfl rfl ?_
            refine zdG rfl rfl (by decide) rfl rfl ?_; refine Ya rfl rfl rfl rfl rfl rfl (by decide) rfl rfl ?_
            refine UK rfl rfl rfl rfl rfl rfl rfl ?_
            refine yn rfl rfl rfl ?_; refine xE rfl rfl rfl rfl rfl rfl (by decide) rfl (by omega) rfl rfl ?_
            refine ZC rfl rfl rfl rfl (Zu n b _ b1) rfl rfl ?_
            rw [hab]
            refine ziv hjn [(5000, 113)] (r := .tup []) (l := [(113, zax 0 (xH n fun x => (pp x || decide (x = b)) || yX P b x))]) (by
             rintro _ ob' ⟨rfl, h1⟩
             exact ⟨rfl, congrArg (fun b => [(113, zn.ren (gOf [(5000, 113)]) b)]) h1⟩) rfl (xt.cons rfl rfl rfl xt.nil) rfl rfl rfl rfl rfl rfl ?_
            refine zG.nil ⟨by kernel_rfl, ?_⟩
            (repeat (first | refine FW.region ?_ | refine zc.nil ?_ | refine zb rfl rfl rfl ?_ | refine zu rfl rfl (by omega) rfl rfl ?_))
            refine ⟨j + 1, by omega, by omega, ?_⟩
            rw [hps]
            exact FLe.ordA (i1 := 110) (i2 := 111) (i3 := 112) (i4 := 113) (by omega) (fun j _ => za9 P n D j) rfl rfl rfl rfl (by decide) (by repeat (first | exact Low.nil | exact Low.fam rfl (by unfold zf; omega) | refine Low.cons rfl ?_)) (by repeat (first | exact .nil | refine .cons (.plain rfl rfl rfl) ?_ | refine .cons (.ptr rfl (.head _) rfl) ?_))
           ·obtain rfl : j = A.length := by simp at h; omega
            rw [List.take_length, hpall]
            (repeat (first | refine FW.exit ?_))
            refine ⟨rfl, ?_⟩
            refine FLe.trans (FLe.shut (i := 113) rfl) ?_
            refine FLe.trans (FLe.cellL 112 (j := a) (o := 0) rfl (Zu n a _ han) (by rw [if_pos rfl]; rfl) rfl (by rw [List.length_map, yu])) ?_
            refine FLe.ordK (i1 := 110) (i2 := 111) (i3 := 112) (by omega) (g := abv P n (a :: D)) (fun j _ => ⟨rfl, za9 _ _ _ j⟩) rfl rfl ?_ (by decide) (by repeat (first | exact Low.nil | exact Low.fam rfl (by unfold zf; omega) | refine Low.cons rfl ?_)) (by repeat (first | exact .nil | refine .cons (.plain rfl rfl rfl) ?_ | refine .cons (.ptr rfl (.head _) rfl) ?_))
            refine Eq.trans (b := (⟨0, .hrow, 94, 1, ((List.range n).map fun j => [if j = a then FV.own 113 0 0 (xh n) else abv P n D j]).set a ([if a = a then FV.own 113 0 0 (xh n) else abv P n D a].set 0 (.list 1 ((xH n (yX P a)).map za4)))⟩ : zn)) rfl ?_
            refine congrArg (fun z => (⟨0, .hrow, 94, 1, z⟩ : zn)) ?_
            rw [Wo]
            refine List.map_congr_left fun j _ => ?_
            unfold abv
            by_cases hja : j = a
            ·subst hja
             rw [if_pos rfl, if_pos (List.mem_cons_self ..)]; rfl
            ·rw [if_neg hja, if_neg hja]
             by_cases hjD : j ∈ D
             ·rw [if_pos hjD, if_pos (List.mem_cons_of_mem _ hjD)]
             ·rw [if_neg hjD, if_neg (fun h => by rcases List.mem_cons.1 h with h | h; exact hja h; exact hjD h)]
          ·intro J' hM a w β hF
           rw [XP, hRl, Nat.sub_self, List.drop_zero] at hF
           have hO : zim n (abv P n row) = zim n (fun j => .list 1 ((xH n (yX P j)).map za4)) := by
            unfold zim
            rw [show ((List.range n).map fun j => [abv P n row j]) = (List.range n).map fun j => [FV.list 1 ((xH n (yX P j)).map za4)] from List.map_congr_left fun j hj => by
             unfold abv
             rw [if_pos]
             refine Classical.byContradiction fun hno => ?_
             have hjn := List.mem_range.1 hj
             have h1 := zhn htop hall hjn
             exact hno h1]
           rw [hO] at hF
           change Code.wp _ _ _ a w
           refine GW.at ?_ hF
           unfold zim
           refine GW.le ?_ (FLe.ofH 112 rfl (List.all_eq_true.2 fun g hg => ?_))
           ·refine GW.le ?_ (FLe.shut (i := 112) rfl)
            refine GW.le ?_ (FLe.cellL 111 (j := 0) (o := 1) rfl rfl rfl rfl (by simp))
            refine GW.le ?_ (FLe.ofH 111 rfl rfl)
            refine GW.seq ?_
            (repeat (first | refine FW.region ?_ | refine zc.nil ?_ | refine za rfl rfl rfl ?_ | refine zbK rfl rfl rfl rfl rfl rfl rfl ?_))
            refine GW.le ?_ (FLe.shareP 4 rfl rfl)
            refine GW.of (FW.ret ?_)
            intro a w β hF
            exact ⟨.inl rfl, J', _, β, hM, ⟨_, .cons (.tmp 4 rfl rfl) (.cons (.tmp 5 rfl rfl) .nil), rfl⟩, hF⟩
           ·obtain ⟨e, he, hg⟩ := List.mem_flatten.1 hg
            obtain ⟨j, _, rfl⟩ := List.mem_map.1 he
            rw [List.mem_singleton.1 hg]; rfl
         ·refine (FLe.toH (i := 135) rfl).trans (FLe.ordK (i1 := 17) (i2 := 137) (i3 := 135) (by omega) (g := fun _ => .nil) (fun j hj => ⟨?_, rfl⟩) rfl rfl rfl (by decide) (by repeat (first | exact Low.nil | exact Low.fam rfl (by unfold zf; omega) | refine Low.cons rfl ?_)) (by repeat (first | exact .nil | refine .cons (.plain rfl rfl rfl) ?_ | refine .cons (.ptr rfl (.head _) rfl) ?_)))
          unfold abv
          rw [if_neg]
          rw [Nat.sub_zero, List.drop_of_length_le (by omega)]
          simp
    ·refine Eq.trans (b := (⟨0, .hrow, 22, 1, (List.range n).map fun j => [zhQ P P.length j]⟩ : zn)) rfl ?_
     refine congrArg (fun l => (⟨0, .hrow, 22, 1, l⟩ : zn)) (List.map_congr_left fun j _ => ?_)
     rw [List.length_map]; rfl
end Go.Proofs.Ytbeebjdnapkhhaa
