/-
  poset.New, at plain values.
-/
import Derived.Test.YtbeebjdnapkhhaaZQ
import Derived.Test.YtbeebjdnapkhhaaZFmOrd
import Derived.Test.YtbeebjdnapkhhaaZFmRowD
import Derived.Test.YtbeebjdnapkhhaaZFmBack
import Derived.Test.YtbeebjdnapkhhaaZJ
namespace Go.Proofs.Ytbeebjdnapkhhaa
set_option linter.unusedVariables false
open Go.RowKit

theorem Low.famA {B n : Nat} {f : Nat → zp} {l : List (Nat × zp)} (h : B + n ≤ zf) (hl : Low l) : Low (Xd B n f ++ l) := fun p hp => by
 rcases List.mem_append.1 hp with hp | hp
 ·obtain ⟨j, hj, rfl⟩ := List.mem_map.1 hp
  have := List.mem_range.1 hj
  show B + j < zf
  omega
 ·exact hl p hp
theorem zcM {B n k i : Nat} {f : Nat → zp} {b : zp} {l : List (Nat × zp)} (h : k < B) (hi : i ≠ k) : look {} ((i, b) :: (Xd B n f ++ l)) k = look {} l k := by
 rw [zw, if_neg hi, yR]
 have : (Xd B n f).any (fun p => Nat.beq p.1 k) = false := by
  rw [List.any_eq_false]
  intro p hp e
  obtain ⟨j, hj, rfl⟩ := List.mem_map.1 hp
  have e : B + j = k := Nat.eq_of_beq_eq_true e
  omega
 rw [this]; rfl
theorem zaQ {k : Nat} : ∀ {l : List (Nat × zp)}, l.any (fun p => Nat.beq p.1 k) = false → look {} l k = {}
 | [], _ => rfl
 | p :: l, h => by
  obtain ⟨i, b⟩ := p
  rw [List.any_cons, Bool.or_eq_false_iff] at h
  rw [zw, if_neg (fun e => by rw [e, Nat.beq_refl] at h; exact absurd h.1 (by decide)), zaQ h.2]
theorem FLe.unpad {t : List (Nat × FV)} {C : List (Nat × zp)} {N B : Nat} {f : Nat → zp} : FLe ⟨t, C ++ (ZH N ++ Xd B 0 f)⟩ ⟨t, C⟩ := by
 refine FLe.ext fun k => ?_
 rw [yR]
 split
 ·rfl
 ·rename_i h
  rw [zaQ (Bool.eq_false_iff.2 h), zbx]
  split
  ·rfl
  ·rw [Wj, if_neg (by omega)]
theorem zbd (es : List Int) (hl : es.length ≤ 1000000000) : yg Try.prog 46 [.list 1 (es.map zF)] .sh (.fn 65 [.eptr 1 [[.list 1 (es.map zF)]] 0 0]) := by
 refine yg.of_body (c := (Zy Try.prog zG zA 4)) ⟨Try.func46, rfl, Try.ntmps46, by kernel_rfl⟩ (by simp [FV.hand]) (by exact Nat.le_of_ble_eq_true rfl) rfl ?_
 change FW _ _ _ ⟨[(0, .list 1 (es.map zF))], []⟩
 (repeat (first | refine FW.seq ?_ | refine FW.region ?_ | refine zc.nil ?_ | refine zbK rfl rfl rfl rfl rfl ?_ | refine za rfl rfl rfl ?_))
 refine zc.le ?_ (FLe.shareP 1 rfl rfl)
 (repeat (first | refine zc.nil ?_ | refine za rfl rfl rfl ?_ | refine WQ rfl rfl rfl rfl ?_))
 exact FW.ret ⟨.inl rfl, .sh (.cons (.tmp 2 rfl rfl) .nil) rfl rfl⟩
noncomputable def abv (P : Prs) (n : Nat) (D : List Nat) (j : Nat) : FV := if j ∈ D then .list 1 ((xK n (yH P j)).map za6) else .nil
def ziq (n : Nat) (g : Nat → FV) : List (Nat × zp) := [(110, ⟨0, .hrow, 60, 1, [[.ptr 111 0 0 0]]⟩), (111, ⟨0, .hrow, 89, 2, [[.int .i64 n, .own 112 0 0 n]]⟩), (112, ⟨0, .hrow, 94, 1, (List.range n).map fun j => [g j]⟩)]
theorem FLe.ordK {t t' : List (Nat × FV)} {ob : List (Nat × zp)} {n : Nat} (hn : n ≤ 1000) {g g' : Nat → FV} {i1 v1 i2 v2 i3 v3 : Nat} (hg : ∀ j, j < n → g j = g' j ∧ (g j).hand = none) (h1 : look {} ob i1 = ⟨v1, .hrow, 60, 1, [[.ptr i2 v2 0 0]]⟩) (h2 : look {} ob i2 = ⟨v2, .hrow, 89, 2, [[.int .i64 n, .own i3 v3 0 n]]⟩)
  (h3 : look {} ob i3 = ⟨v3, .hrow, 94, 1, (List.range n).map fun j => [g j]⟩) (hnd : [i1, i2, i3].Nodup) (hlow : Low ob)
  (ht : SlC t [⟨110, some i1, v1, ⟨0, .hrow, 60, 1, [[.ptr 111 0 0 0]]⟩⟩, ⟨111, some i2, v2, ⟨0, .hrow, 89, 2, [[.int .i64 n, .own 112 0 0 n]]⟩⟩, ⟨112, some i3, v3, ⟨0, .hrow, 94, 1, (List.range n).map fun j => [g' j]⟩⟩] t') :
  FLe ⟨t, ob⟩ ⟨t', ziq n g'⟩ := by
 refine FLe.conv [⟨110, some i1, v1, ⟨0, .hrow, 60, 1, [[.ptr 111 0 0 0]]⟩⟩, ⟨111, some i2, v2, ⟨0, .hrow, 89, 2, [[.int .i64 n, .own 112 0 0 n]]⟩⟩, ⟨112, some i3, v3, ⟨0, .hrow, 94, 1, (List.range n).map fun j => [g' j]⟩⟩] (by simp) hnd (XZ (zbn hlow) _) (zba.all fun q hq => ?_)
  (.oldH h1 (.cons (.ptr (.tail _ (.head _)) rfl) .nil) (.oldK h2 (.cons (.cons (.plain rfl rfl) (.cons (.own (.tail _ (.tail _ (.head _))) rfl rfl rfl) .nil)) rfl .nil) (.oldH h3 (zd6.of fun j hj => .plain (hg j hj).2 (hg j hj).1) .nil))) ht
 simp at hq
 rcases hq with rfl | rfl | rfl
 ·show 110 < zf; unfold zf; omega
 ·show 111 < zf; unfold zf; omega
 ·show 112 < zf; unfold zf; omega
theorem FLe.ordA {t t' : List (Nat × FV)} {ob : List (Nat × zp)} {n m a : Nat} (hn : n ≤ 1000) {g : Nat → FV} {W : List (List FV)} {i1 v1 i2 v2 i3 v3 i4 v4 : Nat} (hg : ∀ j, j < n → (g j).hand = none) (h1 : look {} ob i1 = ⟨v1, .hrow, 60, 1, [[.ptr i2 v2 0 0]]⟩) (h2 : look {} ob i2 = ⟨v2, .hrow, 89, 2, [[.int .i64 n, .own i3 v3 0 n]]⟩)
  (h3 : look {} ob i3 = ⟨v3, .hrow, 94, 1, (List.range n).map fun j => [if j = a then .own i4 v4 0 m else g j]⟩) (h4 : look {} ob i4 = ⟨v4, .own, 116, 1, W⟩) (hnd : [i1, i2, i3, i4].Nodup) (hlow : Low ob)
  (ht : SlC t [⟨110, some i1, v1, ⟨0, .hrow, 60, 1, [[.ptr 111 0 0 0]]⟩⟩, ⟨111, some i2, v2, ⟨0, .hrow, 89, 2, [[.int .i64 n, .own 112 0 0 n]]⟩⟩, ⟨112, some i3, v3, ⟨0, .hrow, 94, 1, (List.range n).map fun j => [if j = a then .own 113 0 0 m else g j]⟩⟩, ⟨113, some i4, v4, ⟨0, .own, 116, 1, W⟩⟩] t') :
  FLe ⟨t, ob⟩ ⟨t', [(110, ⟨0, .hrow, 60, 1, [[.ptr 111 0 0 0]]⟩), (111, ⟨0, .hrow, 89, 2, [[.int .i64 n, .own 112 0 0 n]]⟩), (112, ⟨0, .hrow, 94, 1, (List.range n).map fun j => [if j = a then .own 113 0 0 m else g j]⟩), (113, ⟨0, .own, 116, 1, W⟩)]⟩ := by
 refine FLe.conv [⟨110, some i1, v1, ⟨0, .hrow, 60, 1, [[.ptr 111 0 0 0]]⟩⟩, ⟨111, some i2, v2, ⟨0, .hrow, 89, 2, [[.int .i64 n, .own 112 0 0 n]]⟩⟩, ⟨112, some i3, v3, ⟨0, .hrow, 94, 1, (List.range n).map fun j => [if j = a then .own 113 0 0 m else g j]⟩⟩, ⟨113, some i4, v4, ⟨0, .own, 116, 1, W⟩⟩] (by simp) hnd (XZ (zbn hlow) _) (zba.all fun q hq => ?_)
  (.oldH h1 (.cons (.ptr (.tail _ (.head _)) rfl) .nil) (.oldK h2 (.cons (.cons (.plain rfl rfl) (.cons (.own (.tail _ (.tail _ (.head _))) rfl rfl rfl) .nil)) rfl .nil) (.oldH h3 (zd6.of fun j hj => ?_) (.old h4 rfl rfl .nil)))) ht
 ·simp at hq
  rcases hq with rfl | rfl | rfl | rfl
  ·show 110 < zf; unfold zf; omega
  ·show 111 < zf; unfold zf; omega
  ·show 112 < zf; unfold zf; omega
  ·show 113 < zf; unfold zf; omega
 ·split
  ·exact .own (.tail _ (.tail _ (.tail _ (.head _)))) rfl rfl rfl
  ·exact .plain (hg j hj) rfl
theorem zbc (P : Prs) (n : Nat) (D : List Nat) (j : Nat) : (abv P n D j).hand = none := by unfold abv; split <;> rfl
theorem zhu {P : Prs} {n : Nat} {row : List Nat} {W : List Int} (h : KR P n row W) (hall : row.length = n) {b : Nat} (hb : b < n) : b ∈ row := by
 refine Classical.byContradiction fun hno => ?_
 have key : ∀ (l m : List Nat), l.Nodup → (∀ x ∈ l, x ∈ m) → l.length ≤ m.length := by
  intro l
  induction l with
  | nil => intro m _ _; exact Nat.zero_le _
  | cons x l ih =>
   intro m hn hs
   obtain ⟨h1, h2⟩ := List.nodup_cons.1 hn
   have hx := hs x (by simp)
   have hl := List.length_erase_of_mem hx
   have hpos : 0 < m.length := List.length_pos_of_mem hx
   have := ih (m.erase x) h2 fun y hy => (List.mem_erase_of_ne (fun e : y = x => h1 (by rw [← e]; exact hy))).2 (hs y (by simp [hy]))
   rw [List.length_cons]
   omega
 have hs := key row ((List.range n).erase b) h.nd fun x hx => (List.mem_erase_of_ne (fun e : x = b => hno (by rw [← e]; exact hx))).2 (List.mem_range.2 (h.rng x hx))
 rw [List.length_erase_of_mem (List.mem_range.2 hb), List.length_range] at hs
 omega
theorem GW.at {c : Ctx} {w0 w : World} {J : JJ} {QQ : Exit → Act → World → Prop} {s : FSt} {code : Code} {a : Act} {β : Nat → Option Nat} (h : GW c w0 J code QQ s) (hF : FR c.N w0 J s a w β) : code.wp c.P QQ a w := h a w β hF
def ze6 (P : Prs) (k j : Nat) : zp := ⟨0, .own, 3, 1, (adj P j k).map zQ⟩
def zhU (P : Prs) (k j : Nat) : FV := .own (1000 + j) 0 0 (adj P j k).length
set_option maxHeartbeats 16000000 in
theorem zbz (n : Nat) (P : Prs) (hn : n ≤ 1000) (hP : P.length ≤ 1000000) (hin : ∀ e ∈ P, e.1 < n ∧ e.2 < n) (f : Nat → Nat) (hf : ∀ e ∈ P, f e.1 < f e.2) : yg Try.prog 29 [.int .i64 n, .list 2 (P.map edf)] .sh (.tup [zft n (yH P), .int .i64 0]) := by
 unfold zft zir
 refine yg.of_bodyR (c := (Zy Try.prog zG zA 187)) ⟨Try.func29, rfl, Try.ntmps29, by kernel_rfl⟩ (by simp [FV.hand]) (by exact Nat.le_of_ble_eq_true rfl) rfl ?_
 intro w0 J hds
 change GW _ _ _ _ _ ⟨[(0, .int .i64 n), (1, .list 2 (P.map edf))], []⟩
 refine GW.seq ?_
 (repeat (first | refine FW.region ?_ | refine zc.nil ?_ | refine zbK rfl rfl rfl rfl rfl ?_ | refine za rfl rfl rfl ?_))
 refine GW.le ?_ (FLe.shareP 2 rfl rfl)
 refine GW.seq ?_
 (repeat (first | refine FW.seq ?_ | refine FW.region ?_ | refine FW.block ?_ | refine FW.condF rfl ?_ | refine zc.nil ?_ | refine za rfl rfl rfl ?_ | refine zB rfl rfl rfl (by simp; done) rfl rfl rfl rfl rfl ?_ | refine zH rfl rfl rfl rfl ?_ | refine zhn rfl rfl rfl rfl ?_))
 refine FW.condF (congrArg FV.bool (decide_eq_false (by omega))) ?_
 (repeat (first | refine FW.skip ?_))
 refine GW.seq ?_
 (repeat (first | refine FW.region ?_ | refine zB rfl rfl rfl (by first | omega | (simp; done)) rfl rfl rfl rfl rfl ?_ | refine WP rfl rfl rfl rfl rfl rfl rfl rfl (by first | omega | (simp; done)) (by first | omega | (simp; done)) rfl rfl rfl ?_ | refine zY rfl rfl rfl rfl rfl rfl rfl ?_))
 refine zc.le ?_ (FLe.toH (i := 6) rfl)
 (repeat (first | refine zc.nil ?_ | refine zfH rfl rfl rfl rfl rfl rfl (by decide) (by simp; done) rfl ?_))
 refine GW.seq ?_
 (repeat (first | refine FW.region ?_ | refine zc.nil ?_ | refine za rfl rfl rfl ?_ | refine zB rfl rfl rfl (by first | omega | (simp; done)) rfl rfl rfl rfl rfl ?_ | refine WP rfl rfl rfl rfl rfl rfl rfl rfl (by first | omega | (simp; done)) (by first | omega | (simp; done)) rfl rfl rfl ?_))
 refine GW.seq ?_
 (repeat (first | refine FW.seq ?_ | refine FW.region ?_ | refine FW.block ?_ | refine zc.nil ?_ | refine zb rfl rfl rfl ?_ | refine zm rfl rfl (by exact List.length_map _) rfl rfl ?_))
 refine FW.loop (fun i : Nat => ⟨[(1, .list 2 (P.map edf)), (2, .eptr 1 [[.int .i64 n]] 0 0), (6, .ptr 101 0 0 0), (7, .own 102 0 0 n), (32, .list 2 (P.map edf)), (33, .int .i64 P.length), (34, .int .i64 i)], [(101, ⟨0, .hrow, 79, 1, [[.own 103 0 0 n]]⟩), (102, ⟨0, .own, 3, 1, List.replicate n (zF 0)⟩), (103, ⟨0, .own, 22, 1, List.replicate n [.nil]⟩)]⟩) (fun i => i ≤ P.length) (fun i => P.length - i) 0 (Nat.zero_le _) ?_ ?_
 ·exact (FLe.conv [⟨101, some 6, 0 + 1, ⟨0, .hrow, 79, 1, [[.own 103 0 0 n]]⟩⟩, ⟨102, some 31, 0 + 1, ⟨0, .own, 3, 1, List.replicate n (zF 0)⟩⟩, ⟨103, some 29, 0 + 1, ⟨0, .own, 22, 1, List.replicate n [.nil]⟩⟩] (by simp) (by simp) rfl (by repeat (first | exact .nil | refine .low rfl ?_ | refine .same rfl ?_ | refine .bump (Nat.lt_succ_self _) ?_)) (by repeat (first | exact .nil | refine .old rfl (by decide) rfl ?_ | refine .oldH rfl (by repeat (first | exact .nil | refine .cons (.own (.tail _ (.tail _ (.head _))) rfl rfl rfl) ?_)) ?_)) (by repeat (first | exact .nil | refine .cons (.plain rfl rfl rfl) ?_ | refine .cons (.ptr rfl (.head _) rfl) ?_ | refine .cons (.own rfl (.tail _ (.head _)) rfl rfl) ?_)))
 ·intro i hi
  (repeat (first | refine FW.seq ?_ | refine FW.region ?_ | refine zc.nil ?_ | refine zH rfl rfl rfl rfl ?_))
  refine FW.cond rfl (fun h => ?_) (fun h => ?_)
  ·have hlt : i < P.length := by simpa using h
   clear h
   obtain ⟨⟨a, b⟩, he⟩ : ∃ e, nth P i = e := ⟨_, rfl⟩
   obtain ⟨ha, hb⟩ := hin (nth P i) (zn hlt)
   rw [he] at ha hb
   dsimp only at ha hb
   (repeat (first | refine FW.seq ?_ | refine FW.region ?_ | refine FW.block ?_ | refine FW.skip ?_ | refine zc.nil ?_ | refine zq rfl rfl rfl rfl rfl (by first | (simp; omega) | (simp; done)) (by first | exact zd (by omega) | rfl) rfl rfl rfl rfl ?_ | refine yV rfl rfl rfl (by decide) (by first | (simp; omega) | (simp; done)) (by first | exact zd (by omega) | rfl) rfl rfl rfl ?_ | refine zH rfl rfl rfl rfl ?_ | refine zY rfl rfl rfl rfl rfl rfl rfl ?_ | refine zC rfl rfl rfl rfl rfl rfl rfl rfl rfl ?_ | refine zb rfl rfl rfl ?_ | refine zD rfl rfl rfl rfl rfl rfl (by first | (simp; omega) | (simp; done)) rfl rfl ?_ | refine xP rfl rfl rfl rfl rfl rfl rfl (by decide) (by first | (simp; omega) | (simp; done)) rfl rfl ?_ | refine zhp rfl rfl rfl rfl ?_))
   rw [he]
   skip
   refine xd (fun h => ?_) (fun h => ?_)
   ·exfalso
    have := of_decide_eq_true h
    dsimp only at this
    omega
   (repeat (first | refine zc.nil ?_ | refine zP rfl rfl rfl rfl ?_ | refine xP rfl rfl rfl rfl rfl rfl rfl (by decide) (by simp; done) rfl ⟨_, _, rfl, rfl, rfl⟩ ?_ | refine zB rfl rfl rfl (by simp; done) rfl rfl rfl rfl ⟨_, _, rfl, rfl, rfl⟩ ?_ | refine zq rfl rfl rfl rfl rfl (by simp; done) rfl rfl rfl rfl ⟨_, _, rfl, rfl, rfl⟩ ?_ | refine zjc rfl rfl rfl ⟨_, _, rfl, rfl, rfl⟩ ?_ | refine zaY rfl rfl rfl ⟨_, _, rfl, rfl, rfl⟩ ?_))
   refine FW.cond rfl (fun h2 => ?_) (fun h2 => ?_)
   ·exfalso
    have := of_decide_eq_true h2
    dsimp only at this
    omega
   (repeat (first | refine FW.region ?_ | refine FW.skip ?_ | refine zc.nil ?_ | refine zb rfl rfl rfl ?_ | refine zu rfl rfl (by omega) rfl rfl ?_))
   exact ⟨i + 1, by omega, by omega, (FLe.conv [⟨101, some 101, 0, ⟨0, .hrow, 79, 1, [[.own 103 0 0 n]]⟩⟩, ⟨102, some 102, 0, ⟨0, .own, 3, 1, List.replicate n (zF 0)⟩⟩, ⟨103, some 103, 0, ⟨0, .own, 22, 1, List.replicate n [.nil]⟩⟩] (by simp) (by simp) rfl (by repeat (first | exact .nil | refine .low rfl ?_ | refine .same rfl ?_ | refine .bump (Nat.lt_succ_self _) ?_)) (by repeat (first | exact .nil | refine .old rfl (by decide) rfl ?_ | refine .oldH rfl (by repeat (first | exact .nil | refine .cons (.own (.tail _ (.tail _ (.head _))) rfl rfl rfl) ?_)) ?_)) (by repeat (first | exact .nil | refine .cons (.plain rfl rfl rfl) ?_ | refine .cons (.ptr rfl (.head _) rfl) ?_ | refine .cons (.own rfl (.tail _ (.head _)) rfl rfl) ?_)))⟩
  ·obtain rfl : i = P.length := by simp at h; omega
   clear h hi
   (repeat (first | refine FW.exit ?_))
   refine GW.seq ?_
   (repeat (first | refine FW.seq ?_ | refine FW.region ?_ | refine FW.block ?_ | refine zc.nil ?_ | refine zb rfl rfl rfl ?_ | refine zm rfl rfl (by exact List.length_map _) rfl rfl ?_))
   refine FW.loop (fun k : Nat => ⟨[(2, .eptr 1 [[.int .i64 n]] 0 0), (6, .ptr 101 0 0 0), (7, .own 102 0 0 n), (54, .list 2 (P.map edf)), (55, .int .i64 P.length), (56, .int .i64 k)], [(101, ⟨0, .hrow, 79, 1, [[.own 100 0 0 n]]⟩), (102, ⟨0, .own, 3, 1, (Ze P n k).map zF⟩), (100, ⟨0, .hrow, 22, 1, (List.range n).map fun j => [zhU P k j]⟩)] ++ (ZH 200 ++ Xd 1000 n (ze6 P k))⟩) (fun k => k ≤ P.length) (fun k => P.length - k) 0 (Nat.zero_le _) ?_ ?_
   ·rw [show List.replicate n (zF 0) = (Ze P n 0).map zF by rw [ze2, List.map_replicate], zcU n [FV.nil]]
    exact (FLe.toH (i := 103) rfl).trans (FLe.convN [⟨101, some 101, 0, ⟨0, .hrow, 79, 1, [[.own 100 0 0 n]]⟩⟩, ⟨102, some 102, 0, ⟨0, .own, 3, 1, (Ze P n 0).map zF⟩⟩, ⟨100, some 103, 0, ⟨0, .hrow, 22, 1, (List.range n).map fun j => [zhU P 0 j]⟩⟩] 1000 n (ze6 P 0) rfl (by unfold zf; omega) rfl (by simp) (by simp) (by repeat (first | exact Low.nil | exact Low.fam rfl (by unfold zf; omega) | refine Low.cons rfl ?_))
     (fun j _ => ⟨rfl, rfl⟩) (.oldH rfl (.cons (.own (.tail _ (.tail _ (.head _))) rfl rfl rfl) .nil) (.old rfl rfl rfl (.oldH rfl (zd6.of fun j hj => .nil (List.mem_append_right _ (Yl hj)) rfl) .nil))) (by repeat (first | exact .nil | refine .cons (.plain rfl rfl rfl) ?_ | refine .cons (.ptr rfl (.head _) rfl) ?_ | refine .cons (.own rfl (.tail _ (.head _)) rfl rfl) ?_)))
   intro k hk
   (repeat (first | refine FW.seq ?_ | refine FW.region ?_ | refine zc.nil ?_ | refine zH rfl rfl rfl rfl ?_))
   refine FW.cond rfl (fun h => ?_) (fun h => ?_)
   ·have hlt : k < P.length := by simpa using h
    clear h
    obtain ⟨⟨a, b⟩, he⟩ : ∃ e, nth P k = e := ⟨_, rfl⟩
    obtain ⟨ha, hb⟩ := hin (nth P k) (zn hlt)
    have hrs := fun v => zhR (P := P) (v := v) hlt
    have hds1 := ze1 (P := P) (n := n) hlt
    have hdl := xV (P := P) (n := n) k
    rw [he] at ha hb hds1
    simp only [he] at hrs
    dsimp only at ha hb hds1
    have hrl := zdo P a k
    (repeat (first | refine FW.seq ?_ | refine FW.region ?_ | refine FW.block ?_ | refine FW.skip ?_ | refine zc.nil ?_ | refine yV rfl rfl rfl (by decide) (by simp; omega) (by first | exact zd (by omega) | rfl) rfl rfl rfl ?_ | refine zY rfl rfl rfl rfl rfl rfl rfl ?_ | refine zC rfl rfl rfl rfl rfl rfl rfl rfl rfl ?_ | refine zD rfl rfl rfl rfl rfl rfl (by simp; omega) rfl rfl ?_))
    refine FW.le (s' := ⟨[(11, .ptr 11 1 0 0), (2, .eptr 1 [[.int .i64 n]] 0 0), (6, .ptr 101 0 0 0), (7, .own 102 0 0 n), (54, .list 2 (P.map edf)), (55, .int .i64 P.length), (56, .int .i64 k)], [(101, ⟨0, .hrow, 79, 1, [[.own 100 0 0 n]]⟩), (102, ⟨0, .own, 3, 1, (Ze P n k).map zF⟩), (11, ⟨1, .own, 59, 2, [edf (a, b)]⟩), (100, ⟨0, .hrow, 22, 1, (List.range n).map fun j => [if j = a then .own 150 0 0 (adj P a k).length else zhU P k j]⟩), (150, ze6 P k a)] ++ (ZH 200 ++ Xd 1000 n fun j => if j = a then ⟨0, .own, 3, 1, []⟩ else ze6 P k j)⟩) ?_ ?_
    ·refine FW.draw ?_
     refine ZB rfl rfl rfl rfl rfl rfl rfl ?_
     refine WM rfl rfl rfl rfl rfl rfl rfl (by decide) (by simp; done) rfl rfl ?_; refine Zj rfl rfl rfl rfl rfl (by simp; done) rfl rfl rfl rfl rfl ?_
     refine ZB rfl rfl rfl rfl rfl rfl rfl ?_
     refine WM rfl rfl rfl rfl rfl rfl rfl (by decide) (by first | omega | (simp; done)) rfl rfl ?_; refine Zj rfl rfl rfl rfl rfl (by first | omega | (simp; done)) rfl rfl rfl rfl rfl ?_; refine xJ rfl rfl rfl rfl rfl rfl (by decide) rfl (by first | omega | (simp; done)) rfl rfl ?_
     refine ZB rfl rfl rfl rfl (Zs n a _ ha) rfl rfl ?_
     rw [if_pos rfl]
     refine WM rfl rfl rfl rfl rfl rfl rfl (by decide) (by first | (simp; omega) | (simp; done)) rfl rfl ?_; refine Zj rfl rfl rfl rfl rfl (by first | (simp; omega) | (simp; done)) rfl rfl rfl rfl rfl ?_; refine zfx rfl rfl rfl rfl rfl rfl rfl rfl ?_; refine zg5 rfl rfl (by first | exact (List.length_map _).symm | rfl | (simp; done) | (simp; omega)) rfl rfl rfl (by decide) (by exact XB.own rfl rfl (by decide) (by first | exact List.length_map _ | exact (List.length_map _).symm | exact List.length_replicate | rfl | (simp; done) | omega | (simp; omega))) (by first | (simp; omega) | (simp; done)) (by first | (simp; omega) | (simp; done)) rfl rfl rfl ?_
     refine xJ rfl rfl rfl rfl rfl rfl (by decide) rfl (by first | omega | (simp; omega)) rfl rfl ?_; refine zaW rfl rfl rfl rfl rfl rfl (by decide) (by first | omega | (simp; omega)) rfl ?_
     refine zE.nil ⟨by kernel_rfl, ?_⟩
     have hdv : 0 ≤ nth (Ze P n k) b ∧ nth (Ze P n k) b ≤ P.length := by
      rw [ZL hb]
      have : (P.take k).countP (fun e => decide (e.2 = b)) ≤ (P.take k).length := List.countP_le_length
      rw [List.length_take] at this
      omega
     generalize Ze P n k = D at hds1 hdl hdv ⊢
     obtain ⟨x, hx⟩ : ∃ x, nth D b = x := ⟨_, rfl⟩
     rw [hx] at hds1 hdv
     (repeat (first | refine FW.region ?_ | refine zq rfl rfl rfl rfl rfl (by first | omega | (simp; omega) | (simp; done)) (by first | exact zd (by omega) | rfl) rfl rfl rfl rfl ?_ | refine zb rfl rfl rfl ?_ | refine zx rfl rfl rfl rfl rfl rfl (by decide) rfl (by first | omega | (simp; omega) | (simp; done)) rfl rfl ?_ | refine xP rfl rfl rfl rfl rfl rfl rfl (by decide) (by first | omega | (simp; omega) | (simp; done)) rfl rfl ?_))
     dsimp only
     rw [hx]
     (repeat (first | refine FW.region ?_ | refine zc.nil ?_ | refine zZ rfl rfl rfl rfl rfl rfl (by first | omega | (simp; omega)) (by first | exact zd (by omega) | rfl) rfl rfl rfl ?_ | refine zb rfl rfl rfl ?_ | refine zx rfl rfl rfl rfl rfl rfl (by decide) rfl (by first | omega | (simp; omega)) rfl rfl ?_ | refine zu rfl rfl (by omega) rfl rfl ?_))
     rw [Wn]
     refine ⟨k + 1, by omega, by omega, ?_⟩
     rw [hds1, List.map_set]
     refine FLe.convS [⟨101, some 101, 0, ⟨0, .hrow, 79, 1, [[.own 100 0 0 n]]⟩⟩, ⟨102, some 102, 0, ⟨0, .own, 3, 1, (D.map zF).set b (zF (x + 1))⟩⟩, ⟨100, some 100, 0, ⟨0, .hrow, 22, 1, (List.range n).map fun j => [zhU P (k + 1) j]⟩⟩] 1000 n a (some 71) (fun j => if j = a then 1 else 0) (ze6 P (k + 1)) rfl (by unfold zf; omega) rfl (by simp) (by simp) (by simp) (by repeat (first | exact Low.nil | exact Low.fam rfl (by unfold zf; omega) | refine Low.cons rfl ?_)) ?_ ?_ ?_
     ·intro j hj
      by_cases hja : j = a
      ·subst hja
       rw [if_pos rfl, if_pos rfl]
       refine .inr ⟨71, rfl, ?_, rfl⟩
       unfold ze6
       rw [hrs, if_pos rfl, List.map_append]
       rfl
      ·rw [if_neg hja, if_neg hja]
       refine .inr ⟨_, rfl, (yy (C := [(102, _), (100, _), (71, _), (150, _), (70, _), (101, _), (102, _), (11, _), (100, _), (150, _)]) rfl (by decide) hj).trans ?_, rfl⟩
       rw [if_neg hja]
       unfold ze6
       rw [hrs, if_neg hja, List.append_nil]
     ·refine .oldH rfl (.cons (.own (.tail _ (.tail _ (.head _))) rfl rfl rfl) .nil) (.old rfl rfl rfl (.oldH rfl ?_ .nil))
      rw [show ((List.range n).map fun j => if j = a then [FV.own 71 (0 + 1) 0 (List.map zQ (adj P a k) ++ [[FV.int IntKind.i64 ((b : Nat) : Int)]]).length] else [if j = a then FV.own 150 0 0 (adj P a k).length else zhU P k j]) = (List.range n).map fun j => [if j = a then FV.own 71 1 0 ((adj P a k).length + 1) else zhU P k j] from List.map_congr_left fun j _ => by
       by_cases hja : j = a
       ·rw [if_pos hja, if_pos hja, List.length_append, List.length_map]; rfl
       ·rw [if_neg hja, if_neg hja, if_neg hja]]
      refine zd6.of fun j hj => ?_
      have hm := Yl (B := 1000) (s := fun j => if j = a then some 71 else some (1000 + j)) (vo := fun j => if j = a then 1 else 0) (f := ze6 P (k + 1)) hj
      unfold zhU
      by_cases hja : j = a
      ·subst hja
       simp only [if_pos] at hm
       rw [if_pos rfl, hrs, if_pos rfl]
       exact .own (List.mem_append_right _ hm) rfl rfl (by simp)
      ·simp only [if_neg hja] at hm
       rw [if_neg hja, hrs, if_neg hja, List.append_nil]
       exact .own (List.mem_append_right _ hm) rfl rfl rfl
     ·exact (by repeat (first | exact .nil | refine .cons (.plain rfl rfl rfl) ?_ | refine .cons (.ptr rfl (.head _) rfl) ?_ | refine .cons (.own rfl (.tail _ (.head _)) rfl rfl) ?_))
    ·refine FLe.convS [⟨101, some 101, 0, ⟨0, .hrow, 79, 1, [[.own 100 0 0 n]]⟩⟩, ⟨102, some 102, 0, ⟨0, .own, 3, 1, (Ze P n k).map zF⟩⟩, ⟨11, some 11, 1, ⟨1, .own, 59, 2, [edf (a, b)]⟩⟩, ⟨100, some 100, 0, ⟨0, .hrow, 22, 1, (List.range n).map fun j => [if j = a then .own 150 0 0 (adj P a k).length else zhU P k j]⟩⟩, ⟨150, some (1000 + a), 0, ze6 P k a⟩] 1000 n a none (fun _ => 0) (fun j => if j = a then ⟨0, .own, 3, 1, []⟩ else ze6 P k j) rfl (by unfold zf; omega) rfl (by simp) (by simp <;> omega) (by simp <;> omega) (by repeat (first | exact Low.nil | exact Low.fam rfl (by unfold zf; omega) | refine Low.cons rfl ?_)) ?_ ?_ ?_
     ·intro j hj
      by_cases hja : j = a
      ·rw [if_pos hja, if_pos hja]; exact .inl ⟨rfl, rfl, rfl⟩
      ·rw [if_neg hja, if_neg hja]
       exact .inr ⟨_, rfl, yy (C := [(11, _), (11, _), (101, _), (102, _), (100, _)]) rfl (by decide) hj, rfl⟩
     ·refine .oldH rfl (.cons (.own (.tail _ (.tail _ (.tail _ (.head _)))) rfl rfl rfl) .nil) (.old rfl rfl rfl (.old rfl rfl (by rw [he]) (.oldH rfl (zd6.of fun j hj => ?_) (.old (yy (C := [(11, _), (11, _), (101, _), (102, _), (100, _)]) rfl (by decide) ha) rfl rfl .nil))))
      by_cases hja : j = a
      ·subst hja
       rw [if_pos rfl]
       exact .own (List.mem_append_left _ (.tail _ (.tail _ (.tail _ (.tail _ (.head _)))))) rfl rfl rfl
      ·rw [if_neg hja]
       have hm := Yl (B := 1000) (s := fun j => if j = a then none else some (1000 + j)) (vo := fun _ => 0) (f := fun j => if j = a then ⟨0, .own, 3, 1, []⟩ else ze6 P k j) hj
       simp only [if_neg hja] at hm
       exact .own (List.mem_append_right _ hm) rfl rfl rfl
     ·exact (by repeat (first | exact .nil | refine .cons (.plain rfl rfl rfl) ?_ | refine .cons (.ptr rfl (.head _) rfl) ?_ | refine .cons (.own rfl (.tail _ (.head _)) rfl rfl) ?_ | refine .cons (.ptr rfl (.tail _ (.tail _ (.head _))) rfl) ?_))
   ·obtain rfl : k = P.length := by simp at h; omega
    clear h hk
    (repeat (first | refine FW.exit ?_))
    refine GW.le ?_ (FLe.deep 100 1000 n (w := 0) (E2 := 22) (E := 3) (sz := 1) (fun _ => 0) (fun j => (adj P j P.length).map zQ) ?_ (fun j hj => yy (C := [(101, _), (102, _), (100, _)]) rfl (by decide) hj) (by decide))
    ·obtain ⟨NX, hNX⟩ : ∃ NX, (List.range n).map (fun j => [FV.list 1 ((adj P j P.length).map zQ)]) = NX := ⟨_, rfl⟩
     have hNXl : NX.length = n := by rw [← hNX]; simp
     have hNXa : ∀ v, v < n → NX.getD v [] = [.list 1 ((zae P v).map zQ)] := fun v hv => by rw [← hNX]; simp [hv]; rfl
     rw [hNX]
     refine GW.le (s' := ⟨[(2, .eptr 1 [[.int .i64 n]] 0 0), (6, .ptr 101 0 0 0), (7, .own 102 0 0 n)], [(101, ⟨0, .hrow, 79, 1, [[.own 100 0 0 n]]⟩), (102, ⟨0, .own, 3, 1, (Ze P n P.length).map zF⟩), (100, ⟨0, .own, 22, 1, NX⟩)] ++ (ZH 200 ++ Xd 1000 0 (ze6 P 0))⟩) ?_
      (FLe.convN [⟨101, some 101, 0, ⟨0, .hrow, 79, 1, [[.own 100 0 0 n]]⟩⟩, ⟨102, some 102, 0, ⟨0, .own, 3, 1, (Ze P n P.length).map zF⟩⟩, ⟨100, some 100, 0, ⟨0, .own, 22, 1, NX⟩⟩] 1000 0 (ze6 P 0) rfl (by decide) rfl (by simp) (by simp) (.cons rfl (.famA (by unfold zf; omega) (by repeat (first | exact Low.nil | exact Low.fam rfl (by unfold zf; omega) | refine Low.cons rfl ?_)))) (fun j hj => by omega)
       (.oldH (zcM (i := 100) (by decide) (by decide)) (.cons (.own (.tail _ (.tail _ (.head _))) rfl rfl rfl) .nil) (.old (zcM (i := 100) (by decide) (by decide)) rfl rfl (.old rfl rfl rfl .nil))) (by repeat (first | exact .nil | refine .cons (.plain rfl rfl rfl) ?_ | refine .cons (.ptr rfl (.head _) rfl) ?_ | refine .cons (.own rfl (.tail _ (.head _)) rfl rfl) ?_)))
     refine GW.le ?_ FLe.unpad
     refine GW.le ?_ (FLe.shut (i := 100) rfl)
     refine GW.le ?_ (FLe.cellL 101 (j := 0) (o := 0) rfl rfl rfl rfl hNXl.symm)
     refine GW.le ?_ (FLe.ofH 101 rfl rfl)
     refine GW.le ?_ (FLe.shareP 6 rfl rfl)
     refine GW.le (s' := ⟨[(2, .eptr 1 [[.int .i64 n]] 0 0), (6, .eptr 1 [[.list 1 NX]] 0 0), (7, .own 102 0 0 n)], [(102, ⟨0, .own, 3, 1, (Ze P n P.length).map zF⟩)]⟩) ?_ (FLe.conv [⟨102, some 102, 0, ⟨0, .own, 3, 1, (Ze P n P.length).map zF⟩⟩] (by simp) (by simp) rfl (by repeat (first | exact .nil | refine .low rfl ?_ | refine .same rfl ?_ | refine .bump (Nat.lt_succ_self _) ?_)) (by repeat (first | exact .nil | refine .old rfl (by decide) rfl ?_)) (by repeat (first | exact .nil | refine .cons (.plain rfl rfl rfl) ?_ | refine .cons (.own rfl (.head _) rfl rfl) ?_)))
     have hKI := KI.first hin
     have hDl := xV (P := P) (n := n) P.length
     generalize Ze P n P.length = D at hKI hDl ⊢
     refine GW.seq ?_
     (repeat (first | refine FW.region ?_ | refine zc.nil ?_ | refine za rfl rfl rfl ?_))
     refine GW.seq ?_
     (repeat (first | refine FW.seq ?_ | refine FW.region ?_ | refine FW.block ?_ | refine zc.nil ?_ | refine zB rfl rfl rfl (by simp; done) rfl rfl rfl rfl rfl ?_ | refine zb rfl rfl rfl ?_))
     refine FW.loop (fun k : Nat => ⟨[(2, .eptr 1 [[.int .i64 n]] 0 0), (6, .eptr 1 [[.list 1 NX]] 0 0), (7, .own 102 0 0 n), (12, .own 103 0 0 (zdY D k).length), (81, .int .i64 n), (82, .int .i64 k)], [(102, ⟨0, .own, 3, 1, (D).map zF⟩), (103, ⟨0, .own, 3, 1, (zdY D k).map zQ⟩)]⟩) (fun k => k ≤ n) (fun k => n - k) 0 (Nat.zero_le _) ?_ ?_
     ·show FLe _ ⟨[(2, .eptr 1 [[.int .i64 n]] 0 0), (6, .eptr 1 [[.list 1 NX]] 0 0), (7, .own 102 0 0 n), (12, .own 103 0 0 0), (81, .int .i64 n), (82, .int .i64 0)], [(102, ⟨0, .own, 3, 1, (D).map zF⟩), (103, ⟨0, .own, 3, 1, (([] : List Nat)).map zQ⟩)]⟩
      exact (FLe.conv [⟨102, some 102, 0, ⟨0, .own, 3, 1, (D).map zF⟩⟩, ⟨103, none, 0, ⟨0, .own, 3, 1, []⟩⟩] (by simp) (by simp) rfl (by repeat (first | exact .nil | refine .low rfl ?_ | refine .same rfl ?_ | refine .bump (Nat.lt_succ_self _) ?_)) (by repeat (first | exact .nil | refine .old rfl (by decide) rfl ?_ | refine .new ?_)) (by repeat (first | exact .nil | refine .cons (.plain rfl rfl rfl) ?_ | refine .cons (.own rfl (.head _) rfl rfl) ?_ | refine .cons (.nil rfl (.tail _ (.head _)) rfl) ?_)))
     ·intro k hk
      (repeat (first | refine FW.seq ?_ | refine FW.region ?_ | refine zc.nil ?_ | refine zH rfl rfl rfl rfl ?_))
      refine FW.cond rfl (fun h => ?_) (fun h => ?_)
      ·have hlt : k < n := by simpa using h
       clear h
       have hzs := zht D k
       have hzl := ziG D k
       (repeat (first | refine FW.seq ?_ | refine FW.region ?_ | refine FW.block ?_ | refine FW.skip ?_ | refine zc.nil ?_ | refine za rfl rfl rfl ?_ | refine zq rfl rfl rfl rfl rfl (by first | omega | (simp; omega)) (by first | exact zd (by omega) | rfl) rfl rfl rfl rfl ?_ | refine zb rfl rfl rfl ?_ | refine zx rfl rfl rfl rfl rfl rfl (by decide) rfl (by first | omega | (simp; omega)) rfl rfl ?_ | refine yU rfl rfl rfl rfl ?_))
       refine FW.cond rfl (fun h => ?_) (fun h => ?_)
       ·rw [if_pos (of_decide_eq_true h)] at hzs
        (repeat (first | refine FW.region ?_ | refine zc.nil ?_ | refine za rfl rfl rfl ?_ | refine zb rfl rfl rfl ?_ | refine zu rfl rfl (by omega) rfl rfl ?_ | refine xc rfl rfl (by first | exact (List.length_map _).symm | (simp; done) | (simp; omega)) rfl rfl rfl (by decide) (by exact XB.own rfl rfl (by decide) (by first | exact List.length_map _ | exact (List.length_map _).symm | exact List.length_replicate | rfl | (simp; done) | omega | (simp; omega))) (by first | (simp; omega) | (simp; done)) (by first | (simp; omega) | (simp; done)) rfl rfl rfl ?_ | refine yz rfl rfl rfl rfl rfl rfl rfl rfl ?_))
        refine ⟨k + 1, by omega, by omega, ?_⟩
        rw [hzs, List.map_append]
        exact (FLe.conv [⟨102, some 102, 0, ⟨0, .own, 3, 1, (D).map zF⟩⟩, ⟨103, some 93, 0 + 1, ⟨0, .own, 3, 1, (zdY D k).map zQ ++ [k].map zQ⟩⟩] (by simp) (by simp) rfl (by repeat (first | exact .nil | refine .low rfl ?_ | refine .same rfl ?_ | refine .bump (Nat.lt_succ_self _) ?_)) (by repeat (first | exact .nil | refine .old rfl (by decide) (by first | rfl | (simp; done)) ?_)) (by repeat (first | exact .nil | refine .cons (.plain rfl rfl (by first | rfl | (simp; done))) ?_ | refine .cons (.own rfl (.head _) rfl (by first | rfl | (simp; done))) ?_ | refine .cons (.own rfl (.tail _ (.head _)) rfl (by first | rfl | (simp; done))) ?_)))
       ·rw [if_neg (of_decide_eq_false h), List.append_nil] at hzs
        (repeat (first | refine FW.region ?_ | refine FW.skip ?_ | refine zc.nil ?_ | refine zb rfl rfl rfl ?_ | refine zu rfl rfl (by omega) rfl rfl ?_))
        refine ⟨k + 1, by omega, by omega, ?_⟩
        rw [hzs]
        exact (FLe.conv [⟨102, some 102, 0, ⟨0, .own, 3, 1, (D).map zF⟩⟩, ⟨103, some 103, 0, ⟨0, .own, 3, 1, (zdY D k).map zQ⟩⟩] (by simp) (by simp) rfl (by repeat (first | exact .nil | refine .low rfl ?_ | refine .same rfl ?_ | refine .bump (Nat.lt_succ_self _) ?_)) (by repeat (first | exact .nil | refine .old rfl (by decide) rfl ?_)) (by repeat (first | exact .nil | refine .cons (.plain rfl rfl rfl) ?_ | refine .cons (.own rfl (.head _) rfl rfl) ?_ | refine .cons (.own rfl (.tail _ (.head _)) rfl rfl) ?_)))
      ·obtain rfl : n = k := by simp at h; omega
       clear h hk
       generalize zdY D n = row at hKI ⊢
       (repeat (first | refine FW.exit ?_))
       refine GW.seq ?_
       (repeat (first | refine FW.seq ?_ | refine FW.region ?_ | refine FW.block ?_ | refine zc.nil ?_ | refine za rfl rfl rfl ?_))
       refine FW.loop (fun p : Nat × List Nat × List Int => ⟨[(2, .eptr 1 [[.int .i64 n]] 0 0), (6, .eptr 1 [[.list 1 NX]] 0 0), (7, .own 102 0 0 n), (12, .own 103 0 0 p.2.1.length), (14, .int .i64 p.1)], [(102, ⟨0, .own, 3, 1, (p.2.2).map zF⟩), (103, ⟨0, .own, 3, 1, (p.2.1).map zQ⟩)]⟩) (fun p => KI P n p.1 p.2.1 p.2.2) (fun p => n - p.1) (0, row, D) hKI ?_ ?_
       ·exact (FLe.conv [⟨102, some 102, 0, ⟨0, .own, 3, 1, (D).map zF⟩⟩, ⟨103, some 103, 0, ⟨0, .own, 3, 1, row.map zQ⟩⟩] (by simp) (by simp) rfl (by repeat (first | exact .nil | refine .low rfl ?_ | refine .same rfl ?_ | refine .bump (Nat.lt_succ_self _) ?_)) (by repeat (first | exact .nil | refine .old rfl (by decide) rfl ?_)) (by repeat (first | exact .nil | refine .cons (.plain rfl rfl rfl) ?_ | refine .cons (.own rfl (.head _) rfl rfl) ?_ | refine .cons (.own rfl (.tail _ (.head _)) rfl rfl) ?_)))
       ·rintro ⟨k, row, D⟩ hKI
        dsimp only at hKI ⊢
        have hDl := hKI.r.len
        have hrl := hKI.r.row_len
        have hkr := hKI.le
        (repeat (first | refine FW.seq ?_ | refine FW.region ?_ | refine zc.nil ?_ | refine zH rfl rfl rfl rfl ?_ | refine zb rfl rfl rfl ?_ | refine yf rfl rfl rfl (by decide) rfl rfl ?_))
        refine FW.cond rfl (fun h => ?_) (fun h => ?_)
        ·have hlt : k < row.length := by simpa using h
         clear h
         have hvn : nth row k < n := hKI.r.rng _ (zn hlt)
         have hKJ := hKI.start
         have hn0 := hKI.r.nd
         have hstp := fun j zfJ W hj h => KJ.step (P := P) hin (row0 := row) (j := j) (row := zfJ) (W := W) hlt hn0 h hj
         have hstop := fun zfJ W h => KJ.stop (P := P) (n := n) (row0 := row) (row := zfJ) (W := W) hlt hn0 h
         have hNa := hNXa _ hvn
         have hAl : (zae P (nth row k)).length ≤ P.length := zdo P _ _
         obtain ⟨v, hv⟩ : ∃ v, nth row k = v := ⟨_, rfl⟩
         rw [hv] at hvn hNa hstp hAl hstop
         obtain ⟨A, hA⟩ : ∃ A, zae P v = A := ⟨_, rfl⟩
         rw [hA] at hNa hstp hAl hstop
         (repeat (first | refine FW.seq ?_ | refine FW.block ?_ | refine FW.skip ?_))
         refine FW.drawQ (by kernel_rfl) ?_
         (repeat (first | refine yh rfl rfl rfl (by first | omega | (simp; omega) | (simp; done)) (by first | exact zd (by omega) | rfl) rfl rfl rfl rfl ?_ | refine Zj rfl rfl rfl rfl rfl (by first | omega | (simp; omega) | (simp; done)) (by first | exact zd (by omega) | rfl) rfl rfl rfl rfl ?_ | refine zV rfl rfl rfl ?_ | refine yj rfl rfl rfl rfl rfl rfl (by first | omega | (simp; omega) | (simp; done)) rfl rfl ?_ | refine xJ rfl rfl rfl rfl rfl rfl (by decide) rfl (by first | omega | (simp; omega) | (simp; done)) rfl rfl ?_))
         rw [hv]
         skip
         refine yh rfl rfl rfl (by omega) hNa rfl rfl rfl rfl ?_
         (repeat (first | refine zE.nil ?_ | refine zV rfl rfl rfl ?_ | refine zfy rfl rfl (by exact List.length_map _) rfl rfl ?_))
         refine ⟨by kernel_rfl, ?_⟩
         (repeat (first | refine FW.block ?_))
         refine FW.loop (fun p : Nat × List Nat × List Int => ⟨[(2, .eptr 1 [[.int .i64 n]] 0 0), (6, .eptr 1 [[.list 1 NX]] 0 0), (7, .own 102 0 0 n), (12, .own 103 0 0 p.2.1.length), (14, .int .i64 k), (107, .list 1 (A.map zQ)), (108, .int .i64 A.length), (109, .int .i64 p.1)], [(102, ⟨0, .own, 3, 1, (p.2.2).map zF⟩), (103, ⟨0, .own, 3, 1, (p.2.1).map zQ⟩)]⟩) (fun p => p.1 ≤ A.length ∧ KJ P n k row p.1 p.2.1 p.2.2) (fun p => A.length - p.1) (0, row, D) ⟨Nat.zero_le _, hKJ⟩ ?_ ?_
         ·exact (FLe.conv [⟨102, some 102, 0, ⟨0, .own, 3, 1, (D).map zF⟩⟩, ⟨103, some 103, 0, ⟨0, .own, 3, 1, row.map zQ⟩⟩] (by simp) (by simp) rfl (by repeat (first | exact .nil | refine .low rfl ?_ | refine .same rfl ?_ | refine .bump (Nat.lt_succ_self _) ?_)) (by repeat (first | exact .nil | refine .old rfl (by decide) rfl ?_)) (by repeat (first | exact .nil | refine .cons (.plain rfl rfl rfl) ?_ | refine .cons (.own rfl (.head _) rfl rfl) ?_ | refine .cons (.own rfl (.tail _ (.head _)) rfl rfl) ?_)))
         rintro ⟨j, zfJ, W⟩ ⟨hj, hKJ⟩
         dsimp only at hj hKJ ⊢
         have hWl := hKJ.r.len
         have hr2 := hKJ.r.row_len
         (repeat (first | refine FW.seq ?_ | refine FW.region ?_ | refine zc.nil ?_ | refine zH rfl rfl rfl rfl ?_))
         refine FW.cond rfl (fun h => ?_) (fun h => ?_)
         ·have hltj : j < A.length := by simpa using h
          clear h
          obtain ⟨b1, b2, b3⟩ := hstp j zfJ W hltj hKJ
          obtain ⟨b, hb⟩ : ∃ b, nth A j = b := ⟨_, rfl⟩
          rw [hb] at b1 b2 b3
          have hwu : nth W b ≤ P.length := by
           have h1 := hKJ.wt b b1
           have h2 := zkr P (row.take k) b
           omega
          have hset : nth (W.set b (nth W b - 1)) b = nth W b - 1 := by rw [yX (by omega), if_pos rfl]
          obtain ⟨x, hx⟩ : ∃ x, nth W b = x := ⟨_, rfl⟩
          rw [hx] at b2 b3 hwu hset
          (repeat (first | refine FW.seq ?_ | refine FW.region ?_ | refine FW.block ?_ | refine FW.skip ?_ | refine zc.nil ?_ | refine za rfl rfl rfl ?_ | refine zB rfl rfl rfl (by first | omega | (simp; omega)) (by first | exact zd (by omega) | rfl) rfl rfl rfl rfl ?_ | refine zq rfl rfl rfl rfl rfl (by first | omega | (simp; omega)) (by first | exact zd (by omega) | rfl) rfl rfl rfl rfl ?_ | refine zb rfl rfl rfl ?_ | refine zD rfl rfl rfl rfl rfl rfl (by first | omega | (simp; omega)) rfl rfl ?_ | refine zx rfl rfl rfl rfl rfl rfl (by decide) rfl (by first | omega | (simp; omega)) rfl rfl ?_))
          rw [hb]
          (repeat (first | refine FW.seq ?_ | refine FW.region ?_ | refine zc.nil ?_ | refine zZ rfl rfl rfl rfl rfl rfl (by first | omega | (simp; omega)) (by first | exact zd (by omega) | rfl) rfl rfl rfl ?_ | refine zb rfl rfl rfl ?_ | refine zx rfl rfl rfl rfl rfl rfl (by decide) rfl (by first | omega | (simp; omega)) rfl rfl ?_ | refine zc7 rfl rfl (by omega) rfl rfl ?_))
          rw [hx]
          skip
          rw [show (W.map zF).set b ((zF x).set 0 (.int .i64 (x - 1))) = (W.set b (x - 1)).map zF by rw [List.map_set]; rfl]
          obtain ⟨Z, hZ⟩ : ∃ Z, W.set b (x - 1) = Z := ⟨_, rfl⟩
          have hZl : Z.length = n := by rw [← hZ, List.length_set]; exact hWl
          rw [hZ] at hset b3 ⊢
          (repeat (first | refine zc.nil ?_ | refine zq rfl rfl rfl rfl rfl (by simp; omega) (by exact zd (by omega)) rfl rfl rfl rfl ?_ | refine yU rfl rfl rfl rfl ?_))
          rw [hset]
          skip
          refine FW.cond rfl (fun h => ?_) (fun h => ?_)
          ·rw [if_pos (of_decide_eq_true h)] at b3
           (repeat (first | refine FW.region ?_ | refine zc.nil ?_ | refine za rfl rfl rfl ?_ | refine zb rfl rfl rfl ?_ | refine zu rfl rfl (by omega) rfl rfl ?_ | refine xc rfl rfl (by first | exact (List.length_map _).symm | (simp; done) | (simp; omega)) rfl rfl rfl (by decide) (by exact XB.own rfl rfl (by decide) (by first | exact List.length_map _ | exact (List.length_map _).symm | exact List.length_replicate | rfl | (simp; done) | omega | (simp; omega))) (by first | (simp; omega) | (simp; done)) (by first | (simp; omega) | (simp; done)) rfl rfl rfl ?_ | refine yz rfl rfl rfl rfl rfl rfl rfl rfl ?_))
           refine ⟨(j + 1, zfJ ++ [b], Z), ⟨hltj, b3⟩, by dsimp only; omega, ?_⟩
           dsimp only
           rw [List.map_append, List.length_append]
           exact (FLe.conv [⟨102, some 102, 0, ⟨0, .own, 3, 1, (Z).map zF⟩⟩, ⟨103, some 127, 0 + 1, ⟨0, .own, 3, 1, zfJ.map zQ ++ [b].map zQ⟩⟩] (by simp) (by simp) rfl (by repeat (first | exact .nil | refine .low rfl ?_ | refine .same rfl ?_ | refine .bump (Nat.lt_succ_self _) ?_)) (by repeat (first | exact .nil | refine .old rfl (by decide) (by first | rfl | (simp; done)) ?_)) (by repeat (first | exact .nil | refine .cons (.plain rfl rfl (by first | rfl | (simp; done))) ?_ | refine .cons (.own rfl (.head _) rfl (by first | rfl | (simp; done))) ?_ | refine .cons (.own rfl (.tail _ (.head _)) rfl (by first | rfl | (simp; done))) ?_)))
          ·rw [if_neg (of_decide_eq_false h)] at b3
           (repeat (first | refine FW.region ?_ | refine FW.skip ?_ | refine zc.nil ?_ | refine zb rfl rfl rfl ?_ | refine zu rfl rfl (by omega) rfl rfl ?_))
           exact ⟨(j + 1, zfJ, Z), ⟨hltj, b3⟩, by dsimp only; omega, (FLe.conv [⟨102, some 102, 0, ⟨0, .own, 3, 1, (Z).map zF⟩⟩, ⟨103, some 103, 0, ⟨0, .own, 3, 1, zfJ.map zQ⟩⟩] (by simp) (by simp) rfl (by repeat (first | exact .nil | refine .low rfl ?_ | refine .same rfl ?_ | refine .bump (Nat.lt_succ_self _) ?_)) (by repeat (first | exact .nil | refine .old rfl (by decide) rfl ?_)) (by repeat (first | exact .nil | refine .cons (.plain rfl rfl rfl) ?_ | refine .cons (.own rfl (.head _) rfl rfl) ?_ | refine .cons (.own rfl (.tail _ (.head _)) rfl rfl) ?_)))⟩
         ·obtain rfl : j = A.length := by simp at h; omega
          have hKI2 := hstop zfJ W hKJ
          (repeat (first | refine FW.region ?_ | refine FW.exit ?_ | refine zc.nil ?_ | refine za rfl rfl rfl ?_ | refine zb rfl rfl rfl ?_ | refine zu rfl rfl (by omega) rfl rfl ?_))
          exact ⟨(k + 1, zfJ, W), hKI2, by dsimp only; omega, (FLe.conv [⟨102, some 102, 0, ⟨0, .own, 3, 1, (W).map zF⟩⟩, ⟨103, some 103, 0, ⟨0, .own, 3, 1, zfJ.map zQ⟩⟩] (by simp) (by simp) rfl (by repeat (first | exact .nil | refine .low rfl ?_ | refine .same rfl ?_ | refine .bump (Nat.lt_succ_self _) ?_)) (by repeat (first | exact .nil | refine .old rfl (by decide) rfl ?_)) (by repeat (first | exact .nil | refine .cons (.plain rfl rfl rfl) ?_ | refine .cons (.own rfl (.head _) rfl rfl) ?_ | refine .cons (.own rfl (.tail _ (.head _)) rfl rfl) ?_)))⟩
        ·obtain rfl : k = row.length := by simp at h; omega
         have hall := hKI.all hin hf
         have htop := hKI.r
         (repeat (first | refine FW.exit ?_))
         refine GW.seq ?_
         (repeat (first | refine FW.seq ?_ | refine FW.region ?_ | refine zc.nil ?_ | refine zB rfl rfl rfl (by simp; done) rfl rfl rfl rfl rfl ?_ | refine zH rfl rfl rfl rfl ?_ | refine zb rfl rfl rfl ?_ | refine yf rfl rfl rfl (by decide) rfl rfl ?_))
         refine FW.condF (congrArg FV.bool (decide_eq_false (by omega))) ?_
         (repeat (first | refine FW.skip ?_))
         obtain ⟨RI, hRI⟩ : ∃ RI : List Int, row.map (fun x : Nat => (x : Int)) = RI := ⟨_, rfl⟩
         have hRf : row.map zQ = RI.map zF := by rw [← hRI, List.map_map]; rfl
         have hRl : RI.length = n := by rw [← hRI, List.length_map]; exact hall
         have hRn : ∀ i, i < n → nth RI i = ((nth row i : Nat) : Int) := fun i hi => by rw [← hRI, zi (by rw [List.length_map]; omega), zi (by omega), List.getElem_map]
         rw [hRf]
         refine GW.le ?_ (FLe.share 12 rfl rfl (by rw [List.length_map]; omega))
         refine GW.le (s' := ⟨[(2, .eptr 1 [[.int .i64 n]] 0 0), (6, .eptr 1 [[.list 1 NX]] 0 0), (12, .list 1 (RI.map zF))], []⟩) ?_ (FLe.conv [] (by simp) (by simp) rfl (by repeat (first | exact .nil | refine .low rfl ?_ | refine .same rfl ?_ | refine .bump (Nat.lt_succ_self _) ?_)) (by repeat (first | exact .nil)) (by repeat (first | exact .nil | refine .cons (.plain rfl rfl rfl) ?_)))
         refine GW.seq ?_
         skip
         refine FW.draw ?_
         refine yh rfl rfl rfl (by first | omega | (simp; done)) rfl rfl rfl rfl rfl ?_; refine yh rfl rfl rfl (by first | omega | (simp; done)) rfl rfl rfl rfl rfl ?_; refine zha rfl rfl rfl rfl rfl rfl rfl rfl (by first | omega | (simp; done)) (by first | omega | (simp; done)) rfl rfl rfl ?_
         refine zg7 rfl rfl rfl rfl rfl rfl rfl (.inl rfl) (.inr (.inl ⟨_, _, _, _, rfl, zR rfl (by decide)⟩)) rfl rfl rfl rfl ?_
         refine zjK rfl rfl rfl rfl rfl rfl rfl ?_
         refine zg4 rfl rfl rfl rfl rfl ?_
         refine zfz rfl rfl rfl rfl rfl rfl (by decide) (by simp; done) rfl ?_
         refine zE.nil ⟨by kernel_rfl, ?_⟩
         refine GW.seqG ?_
         refine GW.seq ?_
         (repeat (first | refine FW.region ?_))
         refine zb rfl rfl rfl ?_
         refine yZ (zbd RI (by omega)) (by repeat (first | exact zj.nil | refine zj.cons (by exact yu.plain rfl rfl) ?_)) rfl rfl ?_
         refine zc.nil ?_
         rw [zcU n [FV.nil]]
         refine GW.le (s' := ⟨[(2, .eptr 1 [[.int .i64 n]] 0 0), (6, .eptr 1 [[.list 1 NX]] 0 0), (17, .ptr 110 0 0 0), (139, .fn 65 [.eptr 1 [[.list 1 (RI.map zF)]] 0 0])], ziq n (abv P n (row.drop (n - 0)))⟩) ?_ ?_
         ·refine GW.block ?_
          refine GW.range (c := (Zy Try.prog zG zA 187)) (ps := [140, 141]) (t := [(2, .eptr 1 [[.int .i64 n]] 0 0), (6, .eptr 1 [[.list 1 NX]] 0 0), (17, .ptr 110 0 0 0), (139, .fn 65 [.eptr 1 [[.list 1 (RI.map zF)]] 0 0])]) (inv := fun k => ziq n (abv P n (row.drop (n - k)))) (zag RI (by omega)) hds rfl ⟨139, rfl⟩ ?_ ?_ (FLe.refl _) ?_ (by kernel_rfl) (by kernel_rfl) ?_ ?_
          ·intro y hy
           unfold zdq at hy
           obtain ⟨k, _, rfl⟩ := List.mem_map.1 hy
           exact ⟨rfl, rfl⟩
          ·intro p hp
           simp at hp
           rcases hp with rfl | rfl <;> decide
          ·intro d hd
           have : d = 2 ∨ d = 6 ∨ d = 17 ∨ d = 139 := by
            refine Classical.byContradiction fun hno => hd ?_
            simp only [not_or] at hno
            rw [zw, if_neg (fun e => hno.1 e.symm), zw, if_neg (fun e => hno.2.1 e.symm), zw, if_neg (fun e => hno.2.2.1 e.symm), zw, if_neg (fun e => hno.2.2.2 e.symm)]
            rfl
           rcases this with rfl | rfl | rfl | rfl <;> exact ⟨by kernel_rfl, by kernel_rfl, by decide⟩
          ·intro k hk
           rw [XP, hRl] at hk
           have hi : n - 1 - k < n := by omega
           rw [zea (by omega), hRl, hRn _ hi]
           have hd1 : row.drop (n - (k + 1)) = nth row (n - 1 - k) :: row.drop (n - k) := by
            rw [show n - (k + 1) = n - 1 - k by omega, zi (by omega), List.drop_eq_getElem_cons (by omega), show n - 1 - k + 1 = n - k by omega]
           have han : nth row (n - 1 - k) < n := htop.rng _ (zn (by omega))
           have hadj : ∀ b ∈ zae P (nth row (n - 1 - k)), b < n ∧ b ∈ row.drop (n - k) ∧ b ≠ nth row (n - 1 - k) := fun b hb => by
            rw [XO] at hb
            have hbn := (hin _ hb).2
            have hbr : b ∈ row := zhu htop hall hbn
            obtain ⟨i, hil, e⟩ := List.getElem_of_mem hbr
            obtain ⟨i', h1, h2⟩ := htop.topo i hil _ hb (by rw [zi hil]; exact e.symm)
            have h2 : nth row i' = nth row (n - 1 - k) := h2
            rw [zi (by omega), zi (by omega)] at h2
            have h3 := (List.getElem_inj htop.nd).1 h2
            refine ⟨hbn, ?_, fun e2 => ?_⟩
            ·rw [← e]
             exact List.mem_drop_iff_getElem.2 ⟨i - (n - k), by omega, by congr 1; omega⟩
            ·rw [← e, zi (by omega)] at e2
             have := (List.getElem_inj htop.nd).1 e2
             omega
           have haD : nth row (n - 1 - k) ∉ row.drop (n - k) := fun h => by
            obtain ⟨i, hi, e⟩ := List.mem_drop_iff_getElem.1 h
            rw [zi (by omega)] at e
            have := (List.getElem_inj htop.nd).1 e
            omega
           rw [hd1]
           generalize row.drop (n - k) = D at hadj haD ⊢
           generalize nth row (n - 1 - k) = a at hadj haD han ⊢
           have hNa := hNXa a han
           have hpall := zjI P a
           have hAl : (zae P a).length ≤ P.length := zdo P _ _
           generalize zae P a = A at hadj hNa hpall hAl
           (repeat (first | refine FW.region ?_ | refine zc.nil ?_ | refine za rfl rfl rfl ?_))
           refine ⟨rfl, ?_⟩
           change FW _ _ _ ⟨[(19, .int .i64 (a : Int)), (141, .int .i64 (a : Int)), (140, .int .i64 ((n - 1 - k : Nat) : Int)), (2, .eptr 1 [[.int .i64 n]] 0 0), (6, .eptr 1 [[.list 1 NX]] 0 0), (17, .ptr 110 0 0 0), (139, .fn 65 [.eptr 1 [[.list 1 (RI.map zF)]] 0 0])], ziq n (abv P n D)⟩
           unfold ziq
           (repeat (first | refine FW.seq ?_ | refine FW.block ?_))
           obtain ⟨q, hq⟩ : ∃ q, ((n : Int) + 63) / 64 = q := ⟨_, rfl⟩
           have hq' : q = ((xm n : Nat) : Int) := by unfold xm; omega
           have hnw : xm n ≤ 1000 := by unfold xm; omega
           refine FW.draw ?_
           refine ZB rfl rfl rfl rfl rfl rfl rfl ?_
           refine zdW rfl rfl (by decide) rfl rfl ?_; refine ZX rfl rfl rfl rfl rfl rfl (by decide) rfl rfl ?_
           refine UI rfl rfl rfl rfl rfl rfl rfl ?_
           refine zV rfl rfl rfl ?_; refine yh rfl rfl rfl (by simp; done) rfl rfl rfl rfl rfl ?_; refine zkw rfl rfl (by omega) rfl rfl ?_; refine zja rfl rfl (by omega) rfl rfl ?_
           rw [hq, hq']
           refine zha rfl rfl rfl rfl rfl rfl rfl rfl (by omega) (by omega) rfl rfl rfl ?_
           refine xJ rfl rfl (by first | rfl | exact (Int.toNat_of_nonneg (by omega)).symm) rfl rfl rfl (by decide) rfl han rfl rfl ?_
           refine zaW rfl rfl rfl rfl rfl rfl (by decide) (by simp; omega) rfl ?_
           refine zE.nil ⟨by kernel_rfl, ?_⟩
           rw [Wn]
           (repeat (first | refine FW.seq ?_ | refine FW.region ?_ | refine zB rfl rfl rfl (by first | omega | (simp; done)) rfl rfl rfl rfl rfl ?_ | refine zb rfl rfl rfl ?_ | refine zD rfl rfl rfl rfl rfl rfl (by first | omega | (simp; done)) rfl rfl ?_))
           refine zB rfl rfl rfl (by omega) hNa rfl rfl rfl rfl ?_
           (repeat (first | refine FW.block ?_ | refine zc.nil ?_ | refine zb rfl rfl rfl ?_ | refine zm rfl rfl (by exact List.length_map _) rfl rfl ?_))
           refine FW.loop (fun j : Nat => ⟨[(19, .int .i64 (a : Int)), (2, .eptr 1 [[.int .i64 n]] 0 0), (6, .eptr 1 [[.list 1 NX]] 0 0), (17, .ptr 110 0 0 0), (139, .fn 65 [.eptr 1 [[.list 1 (RI.map zF)]] 0 0]), (155, .list 1 (A.map zQ)), (156, .int .i64 A.length), (157, .int .i64 j)], [(110, ⟨0, .hrow, 60, 1, [[.ptr 111 0 0 0]]⟩), (111, ⟨0, .hrow, 89, 2, [[.int .i64 n, .own 112 0 0 n]]⟩), (112, ⟨0, .hrow, 94, 1, (List.range n).map fun j => [if j = a then .own 113 0 0 (xm n) else abv P n D j]⟩), (113, ⟨0, .own, 116, 1, (xK n (ptB P (A.take j))).map za6⟩)]⟩) (fun j => j ≤ A.length) (fun j => A.length - j) 0 (Nat.zero_le _) ?_ ?_
           ·rw [show (fun j => if j = a then [FV.own 150 (0 + 1) 0 (xm n)] else [abv P n D j]) = fun j => [if j = a then FV.own 150 1 0 (xm n) else abv P n D j] from funext fun j => by split <;> rfl,
             show List.replicate (xm n) [FV.int .u64 0] = (xK n (ptB P (A.take 0))).map za6 by rw [List.take_zero, zjJ, zfU, List.map_replicate]; rfl]
            exact FLe.ordA (i1 := 110) (i2 := 111) (i3 := 112) (i4 := 150) (by omega) (fun j _ => zbc P n D j) rfl rfl rfl rfl (by decide) (by repeat (first | exact Low.nil | exact Low.fam rfl (by unfold zf; omega) | refine Low.cons rfl ?_)) (by repeat (first | exact .nil | refine .cons (.plain rfl rfl rfl) ?_ | refine .cons (.ptr rfl (.head _) rfl) ?_))
           intro j hj
           (repeat (first | refine FW.seq ?_ | refine FW.region ?_ | refine zc.nil ?_ | refine zH rfl rfl rfl rfl ?_))
           refine FW.cond rfl (fun h => ?_) (fun h => ?_)
           ·have hltj : j < A.length := by simpa using h
            clear h
            have hts := xu hltj
            obtain ⟨b1, b2, b3⟩ := hadj _ (zn hltj)
            obtain ⟨b, hb⟩ : ∃ b, nth A j = b := ⟨_, rfl⟩
            rw [hb] at b1 b2 b3 hts
            have hps := ziv P (A.take j) b
            rw [← hts] at hps
            generalize ptB P (A.take j) = pp at hps
            have hadd := zda n b 0 pp b1 (by omega)
            have hjn := zay 0 (xm n) (xK n fun x => pp x || decide (x = b)) (xK n (yH P b)) (yB _ _) (yB _ _) (by omega) zeO zeO
            rw [zfT] at hjn
            have hab : (if b = a then FV.own 113 0 0 (xm n) else abv P n D b) = .list 1 ((xK n (yH P b)).map za6) := by
             rw [if_neg b3]; unfold abv; rw [if_pos b2]
            (repeat (first | refine FW.seq ?_ | refine FW.region ?_ | refine FW.block ?_ | refine FW.skip ?_ | refine zc.nil ?_ | refine za rfl rfl rfl ?_ | refine zB rfl rfl rfl (by first | (simp; omega) | (simp; done)) (by first | exact zd (by omega) | rfl) rfl rfl rfl rfl ?_ | refine zbN rfl rfl rfl rfl rfl rfl rfl ?_ | refine zD rfl rfl rfl rfl rfl rfl (by first | (simp; omega) | (simp; done)) rfl rfl ?_ | refine zjL rfl rfl (by decide) rfl rfl ?_ | refine zt rfl rfl rfl rfl rfl rfl (by decide) rfl rfl ?_))
            rw [hb]
            skip
            refine zc2 rfl rfl rfl rfl rfl rfl rfl ?_
            refine zb rfl rfl rfl ?_; refine zx rfl rfl rfl rfl rfl rfl (by decide) rfl (by omega) rfl rfl ?_
            refine zbN rfl rfl rfl rfl (Zs n a _ han) rfl rfl ?_
            rw [if_pos rfl]
            refine zb rfl rfl rfl ?_
            refine zbL hadd [(5000, 113)] rfl (xx.cons rfl rfl rfl xx.nil) rfl rfl rfl rfl rfl rfl ?_
            rintro _ _ ⟨rfl, h1⟩
            refine zb1.one [(113, zaz 0 (xK n fun x => pp x || decide (x = b)))] (.tup []) rfl (congrArg (fun b => [(113, zp.ren (gOf [(5000, 113)]) b)]) h1) ?_
            clear h1 hadd
            refine zc.nil ?_
            refine FW.draw ?_
            refine ZB rfl rfl rfl rfl rfl rfl rfl ?_
            refine zdW rfl rfl (by decide) rfl rfl ?_; refine ZX rfl rfl rfl rfl rfl rfl (by decide) rfl rfl ?_
            refine UI rfl rfl rfl rfl rfl rfl rfl ?_
            refine zV rfl rfl rfl ?_; refine xJ rfl rfl rfl rfl rfl rfl (by decide) rfl (by omega) rfl rfl ?_
            refine ZB rfl rfl rfl rfl (Zs n a _ han) rfl rfl ?_
            rw [if_pos rfl]
            refine ZB rfl rfl rfl rfl rfl rfl rfl ?_
            refine zdW rfl rfl (by decide) rfl rfl ?_; refine ZX rfl rfl rfl rfl rfl rfl (by decide) rfl rfl ?_
            refine UI rfl rfl rfl rfl rfl rfl rfl ?_
            refine zV rfl rfl rfl ?_; refine xJ rfl rfl rfl rfl rfl rfl (by decide) rfl (by omega) rfl rfl ?_
            refine ZB rfl rfl rfl rfl (Zs n b _ b1) rfl rfl ?_
            rw [hab]
            refine ziz hjn [(5000, 113)] (r := .tup []) (l := [(113, zaz 0 (xK n fun x => (pp x || decide (x = b)) || yH P b x))]) (by
             rintro _ ob' ⟨rfl, h1⟩
             exact ⟨rfl, congrArg (fun b => [(113, zp.ren (gOf [(5000, 113)]) b)]) h1⟩) rfl (xx.cons rfl rfl rfl xx.nil) rfl rfl rfl rfl rfl rfl ?_
            refine zE.nil ⟨by kernel_rfl, ?_⟩
            (repeat (first | refine FW.region ?_ | refine zc.nil ?_ | refine zb rfl rfl rfl ?_ | refine zu rfl rfl (by omega) rfl rfl ?_))
            refine ⟨j + 1, by omega, by omega, ?_⟩
            rw [hps]
            exact FLe.ordA (i1 := 110) (i2 := 111) (i3 := 112) (i4 := 113) (by omega) (fun j _ => zbc P n D j) rfl rfl rfl rfl (by decide) (by repeat (first | exact Low.nil | exact Low.fam rfl (by unfold zf; omega) | refine Low.cons rfl ?_)) (by repeat (first | exact .nil | refine .cons (.plain rfl rfl rfl) ?_ | refine .cons (.ptr rfl (.head _) rfl) ?_))
           ·obtain rfl : j = A.length := by simp at h; omega
            rw [List.take_length, hpall]
            (repeat (first | refine FW.exit ?_))
            refine ⟨rfl, ?_⟩
            refine FLe.trans (FLe.shut (i := 113) rfl) ?_
            refine FLe.trans (FLe.cellL 112 (j := a) (o := 0) rfl (Zs n a _ han) (by rw [if_pos rfl]; rfl) rfl (by rw [List.length_map, yB])) ?_
            refine FLe.ordK (i1 := 110) (i2 := 111) (i3 := 112) (by omega) (g := abv P n (a :: D)) (fun j _ => ⟨rfl, zbc _ _ _ j⟩) rfl rfl ?_ (by decide) (by repeat (first | exact Low.nil | exact Low.fam rfl (by unfold zf; omega) | refine Low.cons rfl ?_)) (by repeat (first | exact .nil | refine .cons (.plain rfl rfl rfl) ?_ | refine .cons (.ptr rfl (.head _) rfl) ?_))
            refine Eq.trans (b := (⟨0, .hrow, 94, 1, ((List.range n).map fun j => [if j = a then FV.own 113 0 0 (xm n) else abv P n D j]).set a ([if a = a then FV.own 113 0 0 (xm n) else abv P n D a].set 0 (.list 1 ((xK n (yH P a)).map za6)))⟩ : zp)) rfl ?_
            refine congrArg (fun z => (⟨0, .hrow, 94, 1, z⟩ : zp)) ?_
            rw [Wn]
            refine List.map_congr_left fun j _ => ?_
            unfold abv
            by_cases hja : j = a
            ·subst hja
             rw [if_pos rfl, if_pos (List.mem_cons_self ..)]; rfl
            ·rw [if_neg hja, if_neg hja]
             by_cases hjD : j ∈ D
             ·rw [if_pos hjD, if_pos (List.mem_cons_of_mem _ hjD)]
             ·rw [if_neg hjD, if_neg (fun h => by rcases List.mem_cons.1 h with h | h; exact hja h; exact hjD h)]
          ·intro J' hM a w β hF
           rw [XP, hRl, Nat.sub_self, List.drop_zero] at hF
           have hO : ziq n (abv P n row) = ziq n (fun j => .list 1 ((xK n (yH P j)).map za6)) := by
            unfold ziq
            rw [show ((List.range n).map fun j => [abv P n row j]) = (List.range n).map fun j => [FV.list 1 ((xK n (yH P j)).map za6)] from List.map_congr_left fun j hj => by
             unfold abv
             rw [if_pos]
             refine Classical.byContradiction fun hno => ?_
             have hjn := List.mem_range.1 hj
             have h1 := zhu htop hall hjn
             exact hno h1]
           rw [hO] at hF
           change Code.wp _ _ _ a w
           refine GW.at ?_ hF
           unfold ziq
           refine GW.le ?_ (FLe.ofH 112 rfl (List.all_eq_true.2 fun g hg => ?_))
           ·refine GW.le ?_ (FLe.shut (i := 112) rfl)
            refine GW.le ?_ (FLe.cellL 111 (j := 0) (o := 1) rfl rfl rfl rfl (by simp))
            refine GW.le ?_ (FLe.ofH 111 rfl rfl)
            refine GW.seq ?_
            (repeat (first | refine FW.region ?_ | refine zc.nil ?_ | refine za rfl rfl rfl ?_ | refine zbN rfl rfl rfl rfl rfl rfl rfl ?_))
            refine GW.le ?_ (FLe.shareP 4 rfl rfl)
            refine GW.of (FW.ret ?_)
            intro a w β hF
            exact ⟨.inl rfl, J', _, β, hM, ⟨_, .cons (.tmp 4 rfl rfl) (.cons (.tmp 5 rfl rfl) .nil), rfl⟩, hF⟩
           ·obtain ⟨e, he, hg⟩ := List.mem_flatten.1 hg
            obtain ⟨j, _, rfl⟩ := List.mem_map.1 he
            rw [List.mem_singleton.1 hg]; rfl
         ·refine (FLe.toH (i := 135) rfl).trans (FLe.ordK (i1 := 17) (i2 := 137) (i3 := 135) (by omega) (g := fun _ => .nil) (fun j hj => ⟨?_, rfl⟩) rfl rfl rfl (by decide) (by repeat (first | exact Low.nil | exact Low.fam rfl (by unfold zf; omega) | refine Low.cons rfl ?_)) (by repeat (first | exact .nil | refine .cons (.plain rfl rfl rfl) ?_ | refine .cons (.ptr rfl (.head _) rfl) ?_)))
          unfold abv
          rw [if_neg]
          rw [Nat.sub_zero, List.drop_of_length_le (by omega)]
          simp
    ·refine Eq.trans (b := (⟨0, .hrow, 22, 1, (List.range n).map fun j => [zhU P P.length j]⟩ : zp)) rfl ?_
     refine congrArg (fun l => (⟨0, .hrow, 22, 1, l⟩ : zp)) (List.map_congr_left fun j _ => ?_)
     rw [List.length_map]; rfl
end Go.Proofs.Ytbeebjdnapkhhaa
