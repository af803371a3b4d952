/-
  linear.linearization, at plain values.
-/
import Derived.Test.YtbeebjdnapkhhaaZFmSeq
import Derived.Test.YtbeebjdnapkhhaaZG
namespace Go.Proofs.Ytbeebjdnapkhhaa
set_option linter.unusedVariables false
open Go.RowKit

theorem zcA (l : List OpV) : (yK l).length ≤ l.length := by
 have hn : (yK l).Nodup := (zcz l).imp fun h e => by rw [e] at h; omega
 have := ZW (m := l.map OpV.key) hn fun x hx => by
  obtain ⟨o, h1, h2⟩ := (ZO l x).1 hx
  exact List.mem_map.2 ⟨o, h1, h2⟩
 simpa using this
theorem zgP : Maps.Keyed Try.prog 3 := Maps.int_keyed (q := .i64) (by kernel_rfl)
theorem zih {a : Int} (ha : I64 a) : XN Try.prog 3 (.int .i64 a) := ⟨rfl, _, Maps.keyOf_int_mk (q := .i64) (by kernel_rfl) (zgT ha)⟩
def XG (L : List Nat) : List (List FV) := (List.range L.length).map fun j => [.int .i64 (nth L j : Nat), .int .i64 (j : Nat)]
theorem zfp (L : List Nat) (x : Nat) : XG (L ++ [x]) = XG L ++ [[.int .i64 (x : Nat), .int .i64 (L.length : Nat)]] := by
 unfold XG
 rw [List.length_append, List.length_singleton, List.range_succ, List.map_append]
 congr 1
 ·exact List.map_congr_left fun j hj => by rw [zbB (List.mem_range.1 hj)]
 ·simp only [List.map_cons, List.map_nil, zbC]
theorem Uv {L : List Nat} {x : Nat} (h : x ∈ L) : [FV.int .i64 (x : Nat), .int .i64 (Ys L x : Nat)] ∈ XG L := by
 refine List.mem_map.2 ⟨Ys L x, List.mem_range.2 (xO h), ?_⟩
 rw [yp h]
theorem zfo {L : List Nat} {x : Nat} (h : x ∉ L) : ∀ row ∈ XG L, row.head? ≠ some (FV.int .i64 (x : Nat)) := fun row hr e => by
 obtain ⟨j, hj, rfl⟩ := List.mem_map.1 hr
 simp only [List.head?_cons, Option.some.injEq, FV.int.injEq, true_and] at e
 have : nth L j = x := by omega
 exact h (by rw [← this]; exact zn (List.mem_range.1 hj))
theorem zcP {L : List Nat} (h : ∀ x ∈ L, x ≤ 1000) : ∀ row ∈ XG L, ∀ kf, row.head? = some kf → XN Try.prog 3 kf := fun row hr kf hk => by
 obtain ⟨j, hj, rfl⟩ := List.mem_map.1 hr
 simp only [List.head?_cons, Option.some.injEq] at hk
 subst hk
 have := h _ (zn (List.mem_range.1 hj))
 exact zih ⟨by omega, by omega⟩
def zdO (l : List OpV) (k : Nat) : List Nat := (List.range k).filter (zW l)
theorem zcG (l : List OpV) (k : Nat) : zdO l (k + 1) = zdO l k ++ if zW l k = true then [k] else [] := by
 unfold zdO
 rw [List.range_succ, List.filter_append]
 congr 1
 by_cases h : zW l k = true
 ·rw [if_pos h, List.filter_cons_of_pos (by exact h)]; rfl
 ·rw [if_neg h, List.filter_cons_of_neg (by exact h)]; rfl
theorem zjA {l : List OpV} {k x : Nat} (h : x ∈ zdO l k) : x < k := List.mem_range.1 (List.mem_filter.1 h).1
theorem zet (l : List OpV) (k : Nat) : (zdO l k).length ≤ k := by unfold zdO; exact Nat.le_trans (List.length_filter_le _ _) (by simp)
set_option maxHeartbeats 8000000 in
theorem Wi (l : List OpV) (ins : List Bool) (hl : l.length ≤ 300) (hin : ∀ o ∈ l, zdm o) (H : H21 l) (V : ∀ c ∈ yK l, VO l c) (hil : ins.length = l.length) (hi0 : ∀ i, i < l.length → nth ins i = zW l i) :
  yg Try.prog 39 [.list 8 (l.map OpV.fv), .list 1 (ins.map bof)] (.ow 3 1) (.list 1 ((Uo l (yK l)).map zQ)) := by
 have hK : ∀ i, i < l.length → (nth l i).key ∈ yK l := fun i hi => (ZO l _).2 ⟨_, zn hi, rfl⟩
 have hKI : ∀ c ∈ yK l, I64 c := fun c hc => by
  obtain ⟨o, h1, h2⟩ := (ZO l c).1 hc
  rw [← h2]; exact (hin o h1).2.2.1
 have hks := zaL l (by omega)
 have hkl := zcA l
 generalize yK l = K at V hK hKI hks hkl ⊢
 have hLl := zbw H V hK
 have E := Yr H V hK
 obtain ⟨f, hf⟩ := zcK H V hK
 have hpi := zjD H V
 have hil2 := zgH l
 have hPe : zgS l K = zeu l K ++ rtT l (yF l).length := rfl
 have hNe : zhL l K = yE (yH (zgS l K)) (yF l).length (yF l).length := rfl
 have hkpl := zev H V
 have hkps := fun i h => zgO (l := l) (K := K) (i := i) h
 have hss := fun c hc => zbR l c ins hl hin (hKI c hc) H (V c hc) hil hi0
 have hsl := fun c hc => zeL H (V c hc)
 have hsm := fun c hc i => (xt H.dom H.wf (V c hc) (i := i)).1
 have hLe : Uo l K = (zhL l K).map fun a => nth (yF l) a := rfl
 rw [hLe]
 generalize zhL l K = N at E hNe ⊢
 refine yg.of_body (c := (Zy Try.prog zG zA 125)) ⟨Try.func39, rfl, Try.ntmps39, by kernel_rfl⟩ (by simp [FV.hand]) (by exact Nat.le_of_ble_eq_true rfl) rfl ?_
 change FW _ _ _ ⟨[(0, .list 8 (l.map OpV.fv)), (1, .list 1 (ins.map bof))], []⟩
 (repeat (first | refine FW.seq ?_ | refine FW.region ?_ | refine FW.block ?_ | refine zc.nil ?_ | refine za rfl rfl rfl ?_ | refine WR rfl rfl rfl ?_ | refine zb rfl rfl rfl ?_ | refine zm rfl rfl (by exact List.length_map _) rfl rfl ?_))
 refine FW.loop (fun k : Nat => ⟨[(0, .list 8 (l.map OpV.fv)), (1, .list 1 (ins.map bof)), (5, .omap 100 0), (6, .own 101 0 0 (zdO l k).length), (23, .list 8 (l.map OpV.fv)), (24, .int .i64 l.length), (25, .int .i64 k)], [(100, ⟨0, .mapo, 99, 0, XG (zdO l k)⟩), (101, ⟨0, .own, 3, 1, (zdO l k).map zQ⟩)]⟩) (fun k => k ≤ l.length) (fun k => l.length - k) 0 (Nat.zero_le _) ?_ ?_
 ·show FLe _ ⟨[(0, .list 8 (l.map OpV.fv)), (1, .list 1 (ins.map bof)), (5, .omap 100 0), (6, .own 101 0 0 0), (23, .list 8 (l.map OpV.fv)), (24, .int .i64 l.length), (25, .int .i64 0)], [(100, ⟨0, .mapo, 99, 0, []⟩), (101, ⟨0, .own, 3, 1, []⟩)]⟩
  exact (FLe.conv [⟨100, some 22, 0 + 1, ⟨0, .mapo, 99, 0, []⟩⟩, ⟨101, none, 0, ⟨0, .own, 3, 1, []⟩⟩] (by simp) (by simp) rfl (by repeat (first | exact .nil | refine .low rfl ?_ | refine .same rfl ?_ | refine .bump (Nat.lt_succ_self _) ?_)) (by repeat (first | exact .nil | refine .old rfl (by decide) rfl ?_ | refine .new ?_)) (by repeat (first | exact .nil | refine .cons (.plain rfl rfl rfl) ?_ | refine .cons (.omap rfl (.head _) rfl) ?_ | refine .cons (.nil rfl (.tail _ (.head _)) rfl) ?_)))
 intro k hk
 have his := zcG l k
 have hitl := zet l k
 have hitm := fun x => zjA (l := l) (k := k) (x := x)
 have hiL : k = l.length → zdO l k = yF l := fun e => by rw [e]; rfl
 generalize zdO l k = I at his hitl hitm hiL
 (repeat (first | refine FW.seq ?_ | refine FW.region ?_ | refine zc.nil ?_ | refine zH rfl rfl rfl rfl ?_))
 refine FW.cond rfl (fun h => ?_) (fun h => ?_)
 ·have hlt : k < l.length := by simpa using h
  clear h
  have hi0 := hi0 k hlt
  (repeat (first | refine FW.seq ?_ | refine FW.region ?_ | refine FW.block ?_ | refine FW.skip ?_ | refine zc.nil ?_ | refine za rfl rfl rfl ?_ | refine zb rfl rfl rfl ?_ | refine zD rfl rfl rfl rfl rfl rfl (by simp; omega) rfl rfl ?_ | refine zB rfl rfl rfl (by simp; omega) (by first | exact zd (by omega) | rfl) rfl rfl rfl rfl ?_))
  rw [hi0]
  cases hB : zW l k with
  | false =>
   rw [hB, if_neg (by decide), List.append_nil] at his
   (repeat (first | refine FW.region ?_ | refine FW.skip ?_ | refine FW.condF rfl ?_ | refine zc.nil ?_ | refine zb rfl rfl rfl ?_ | refine zu rfl rfl (by omega) rfl rfl ?_))
   refine ⟨k + 1, by omega, by omega, ?_⟩
   rw [his]
   exact (FLe.conv [⟨100, some 100, 0, ⟨0, .mapo, 99, 0, XG I⟩⟩, ⟨101, some 101, 0, ⟨0, .own, 3, 1, I.map zQ⟩⟩] (by simp) (by simp) rfl (by repeat (first | exact .nil | refine .low rfl ?_ | refine .same rfl ?_ | refine .bump (Nat.lt_succ_self _) ?_)) (by repeat (first | exact .nil | refine .old rfl (by decide) rfl ?_)) (by repeat (first | exact .nil | refine .cons (.plain rfl rfl rfl) ?_ | refine .cons (.omap rfl (.head _) rfl) ?_ | refine .cons (.own rfl (.tail _ (.head _)) rfl rfl) ?_)))
  | true =>
   rw [hB, if_pos rfl] at his
   (repeat (first | refine FW.seq ?_ | refine FW.region ?_ | refine FW.condT rfl ?_ | refine zb rfl rfl rfl ?_ | refine yf rfl rfl rfl (by decide) rfl rfl ?_))
   refine Wp zgP (zcP fun x hx => by have := hitm x hx; omega) (zih ⟨by omega, by omega⟩) (show zkM (XG I) (.int .i64 (k : Nat)) (.int .i64 (I.length : Nat)) (XG (I ++ [k])) from .inr ⟨zfo (fun hx => by have := hitm k hx; omega), zfp I k⟩) rfl rfl rfl rfl rfl rfl rfl ?_
   (repeat (first | refine FW.region ?_ | refine zc.nil ?_ | refine za rfl rfl rfl ?_ | refine zb rfl rfl rfl ?_ | refine yz rfl rfl rfl rfl rfl rfl rfl rfl ?_ | refine xc rfl rfl (by first | exact (List.length_map _).symm | (simp; done) | (simp; omega)) rfl rfl rfl (by decide) (by exact XB.own rfl rfl (by decide) (by first | exact List.length_map _ | exact (List.length_map _).symm | exact List.length_replicate | rfl | (simp; done) | omega | (simp; omega))) (by first | (simp; omega) | (simp; done)) (by first | (simp; omega) | (simp; done)) rfl rfl rfl ?_ | refine zu rfl rfl (by omega) rfl rfl ?_))
   refine ⟨k + 1, by omega, by omega, ?_⟩
   rw [his, List.map_append]
   exact (FLe.conv [⟨100, some 100, 0, ⟨0, .mapo, 99, 0, XG (I ++ [k])⟩⟩, ⟨101, some 39, 0 + 1, ⟨0, .own, 3, 1, I.map zQ ++ [k].map zQ⟩⟩] (by simp) (by simp) rfl (by repeat (first | exact .nil | refine .low rfl ?_ | refine .same rfl ?_ | refine .bump (Nat.lt_succ_self _) ?_)) (by repeat (first | exact .nil | refine .old rfl (by decide) (by first | rfl | (simp; done)) ?_)) (by repeat (first | exact .nil | refine .cons (.plain rfl rfl (by first | rfl | (simp; done))) ?_ | refine .cons (.omap rfl (.head _) rfl) ?_ | refine .cons (.own rfl (.tail _ (.head _)) rfl (by first | rfl | (simp; done))) ?_)))
 ·obtain rfl : k = l.length := by simp at h; omega
  have hiL := hiL rfl
  have hnum := fun x (h : x ∈ yF l) => xw h
  have hnumR := fun x (h : x ∈ yF l) => Uv h
  have hkeyR := zcP (L := yF l) fun x hx => by have := hitm x (by rw [hiL]; exact hx); omega
  have hmemI := fun c hc i hi => zX.2 ⟨(hsm c hc i hi).1, (hsm c hc i hi).2.2⟩
  subst hiL
  refine FW.le ?_ (FLe.shareMap 5 rfl rfl)
  refine FW.le ?_ (FLe.share 6 rfl rfl (by simp))
  refine FW.le (s' := ⟨[(0, .list 8 (l.map OpV.fv)), (1, .list 1 (ins.map bof)), (5, .smap (XG (yF l))), (6, .list 1 ((yF l).map zQ))], []⟩) ?_ (FLe.conv [] (by simp) (by simp) rfl (by repeat (first | exact .nil | refine .low rfl ?_ | refine .same rfl ?_ | refine .bump (Nat.lt_succ_self _) ?_)) (by repeat (first | exact .nil)) (by repeat (first | exact .nil | refine .cons (.plain rfl rfl rfl) ?_)))
  have hnumE : ∀ i, XL l i = Ys (yF l) i := fun i => rfl
  have hposl := fun x (h : x ∈ yF l) => xO h
  have hrtS := fun a => zbO l a
  have hrtR := fun a k => zeK l a k
  have hrtTl := fun a => zd0 l a
  have hrtRl := fun a k => zdZ l a k
  have hrt0 : rtT l 0 = [] := rfl
  have hrt1 : ∀ a, rtR l a 0 = [] := fun a => rfl
  have hImem : ∀ i ∈ yF l, i < l.length := fun i hi => (zX.1 hi).1
  obtain ⟨I, hI⟩ : ∃ I, yF l = I := ⟨_, rfl⟩
  simp only [hI] at hposl hrtTl hnum hnumR hkeyR hmemI hnumE hrtR hrtS hImem hPe hNe hpi E hLl hil2 ⊢
  (repeat (first | refine FW.seq ?_ | refine FW.region ?_ | refine FW.exit ?_ | refine zc.nil ?_ | refine za rfl rfl rfl ?_ | refine zb rfl rfl rfl ?_))
  refine ye hks (by repeat (first | exact zj.nil | refine zj.cons (by exact yu.plain rfl rfl) ?_)) (List.length_map _) rfl rfl rfl ?_
  (repeat (first | refine FW.block ?_ | refine zc.nil ?_ | refine zb rfl rfl rfl ?_ | refine yf rfl rfl rfl (by decide) rfl rfl ?_))
  refine FW.loop (fun i : Nat => ⟨[(0, .list 8 (l.map OpV.fv)), (1, .list 1 (ins.map bof)), (5, .smap (XG I)), (6, .list 1 (I.map zQ)), (8, .own 102 0 0 (zeu l (K.take i)).length), (42, .own 103 0 0 K.length), (43, .int .i64 K.length), (44, .int .i64 i)], [(102, ⟨0, .own, 59, 2, (zeu l (K.take i)).map edf⟩), (103, ⟨0, .own, 3, 1, K.map zF⟩)]⟩) (fun i => i ≤ K.length) (fun i => K.length - i) 0 (Nat.zero_le _) ?_ ?_
  ·show FLe _ ⟨[(0, .list 8 (l.map OpV.fv)), (1, .list 1 (ins.map bof)), (5, .smap (XG I)), (6, .list 1 (I.map zQ)), (8, .own 102 0 0 0), (42, .own 103 0 0 K.length), (43, .int .i64 K.length), (44, .int .i64 0)], [(102, ⟨0, .own, 59, 2, []⟩), (103, ⟨0, .own, 3, 1, K.map zF⟩)]⟩
   exact (FLe.conv [⟨102, none, 0, ⟨0, .own, 59, 2, []⟩⟩, ⟨103, some 42, 0 + 1, ⟨0, .own, 3, 1, K.map zF⟩⟩] (by simp) (by simp) rfl (by repeat (first | exact .nil | refine .low rfl ?_ | refine .same rfl ?_ | refine .bump (Nat.lt_succ_self _) ?_)) (by repeat (first | exact .nil | refine .old rfl (by decide) rfl ?_ | refine .new ?_)) (by repeat (first | exact .nil | refine .cons (.plain rfl rfl rfl) ?_ | refine .cons (.nil rfl (.head _) rfl) ?_ | refine .cons (.own rfl (.tail _ (.head _)) rfl rfl) ?_)))
  intro i hi
  (repeat (first | refine FW.seq ?_ | refine FW.region ?_ | refine zc.nil ?_ | refine zH rfl rfl rfl rfl ?_))
  refine FW.cond rfl (fun h => ?_) (fun h => ?_)
  ·have hlt : i < K.length := by simpa using h
   clear h
   have hkl2 := hkpl i hi
   have hkps := hkps i hlt
   have hkl3 := Nat.mul_le_mul (show i ≤ 300 by omega) hl
   obtain ⟨c, hc⟩ : ∃ c, nth K i = c := ⟨_, rfl⟩
   have hcK : c ∈ K := by rw [← hc]; exact zn hlt
   rw [hc] at hkps
   have hss := hss c hcK
   have hsl := hsl c hcK
   have hmemI := hmemI c hcK
   generalize zeu l (K.take i) = PP at hkl2 hkps ⊢
   generalize YD l c = S at hkps hss hsl hmemI ⊢
   (repeat (first | refine FW.seq ?_ | refine FW.region ?_ | refine FW.block ?_ | refine FW.skip ?_ | refine zc.nil ?_ | refine za rfl rfl rfl ?_ | refine zb rfl rfl rfl ?_ | refine zx rfl rfl rfl rfl rfl rfl (by decide) rfl (by first | omega | (simp; omega)) rfl rfl ?_ | refine zq rfl rfl rfl rfl rfl (by first | omega | (simp; omega)) (by first | exact zd (by omega) | rfl) rfl rfl rfl rfl ?_))
   rw [hc]
   skip
   refine ye hss (by repeat (first | exact zj.nil | refine zj.cons (by exact yu.plain rfl rfl) ?_)) (List.length_map _) rfl rfl rfl ?_
   refine zc.le ?_ (FLe.share 51 rfl rfl (by simp))
   (repeat (first | refine FW.seq ?_ | refine FW.region ?_ | refine FW.block ?_ | refine zc.nil ?_ | refine za rfl rfl rfl ?_))
   refine FW.loop (fun q : Nat => ⟨[(0, .list 8 (l.map OpV.fv)), (1, .list 1 (ins.map bof)), (5, .smap (XG I)), (6, .list 1 (I.map zQ)), (8, .own 102 0 0 (PP ++ zf0 l S q).length), (11, .list 1 (S.map zQ)), (12, .int .i64 ((q : Int) + 1)), (42, .own 103 0 0 K.length), (43, .int .i64 K.length), (44, .int .i64 i)], [(102, ⟨0, .own, 59, 2, (PP ++ zf0 l S q).map edf⟩), (103, ⟨0, .own, 3, 1, K.map zF⟩)]⟩) (fun q => q ≤ S.length - 1) (fun q => S.length - q) 0 (Nat.zero_le _) ?_ ?_
   ·rw [show zf0 l S 0 = [] from rfl, List.append_nil]
    exact (FLe.conv [⟨102, some 102, 0, ⟨0, .own, 59, 2, PP.map edf⟩⟩, ⟨103, some 103, 0, ⟨0, .own, 3, 1, K.map zF⟩⟩] (by simp) (by simp) rfl (by repeat (first | exact .nil | refine .low rfl ?_ | refine .same rfl ?_ | refine .bump (Nat.lt_succ_self _) ?_)) (by repeat (first | exact .nil | refine .old rfl (by decide) rfl ?_)) (by repeat (first | exact .nil | refine .cons (.plain rfl rfl rfl) ?_ | refine .cons (.own rfl (.head _) rfl rfl) ?_ | refine .cons (.own rfl (.tail _ (.head _)) rfl rfl) ?_)))
   intro q hq
   have hqs := zhs l S q
   have hql := zeJ l S q
   (repeat (first | refine FW.seq ?_ | refine FW.region ?_ | refine zc.nil ?_ | refine zb rfl rfl rfl ?_ | refine zm rfl rfl (by exact List.length_map _) rfl rfl ?_ | refine zH rfl rfl rfl rfl ?_))
   refine FW.cond rfl (fun h => ?_) (fun h => ?_)
   ·have hltq : q + 1 < S.length := by
     have := of_decide_eq_true h
     omega
    clear h
    have m1 := hmemI _ (zn (show q < S.length by omega))
    have m2 := hmemI _ (zn hltq)
    rw [hnumE, hnumE] at hqs
    generalize zf0 l S q = RT at hqs hql ⊢
    obtain ⟨x, hx⟩ : ∃ x, nth S q = x := ⟨_, rfl⟩
    obtain ⟨y, hy⟩ : ∃ y, nth S (q + 1) = y := ⟨_, rfl⟩
    rw [hx] at m1 hqs
    rw [hy] at m2 hqs
    have n1 := Uv m1
    have n2 := Uv m2
    have xl := hImem x m1
    have yl := hImem y m2
    have pl1 := hposl x m1
    have pl2 := hposl y m2
    obtain ⟨px, hpx⟩ : ∃ z, Ys I x = z := ⟨_, rfl⟩
    obtain ⟨py, hpy⟩ : ∃ z, Ys I y = z := ⟨_, rfl⟩
    rw [hpx] at n1 pl1 hqs
    rw [hpy] at n2 pl2 hqs
    (repeat (first | refine FW.seq ?_ | refine FW.block ?_ | refine FW.skip ?_ | refine FW.draw ?_ | refine zV rfl rfl rfl ?_ | refine yj rfl rfl (by exact (Int.toNat_of_nonneg (by omega)).symm) rfl rfl rfl (by simp; omega) rfl rfl ?_ | refine yh rfl rfl rfl (by simp; omega) (by exact zd (by omega)) rfl rfl rfl rfl ?_ | refine zkD rfl rfl (by omega) rfl rfl ?_))
    rw [show ((q : Int) + 1 - 1).toNat = q by omega, hx]
    refine zcX (e := 3) zgP hkeyR (zih ⟨by omega, by omega⟩) (.inl ⟨rfl, n1⟩) rfl rfl rfl rfl rfl rfl rfl ?_
    (repeat (first | refine zV rfl rfl rfl ?_ | refine yj rfl rfl rfl rfl rfl rfl (by simp; omega) rfl rfl ?_ | refine yh rfl rfl rfl (by simp; omega) (by first | exact zd (by omega) | rfl) rfl rfl rfl rfl ?_))
    rw [hy]
    refine zcX (e := 3) zgP hkeyR (zih ⟨by omega, by omega⟩) (.inl ⟨rfl, n2⟩) rfl rfl rfl rfl rfl rfl rfl ?_
    (repeat (first | refine zE.nil ?_ | refine xH rfl rfl rfl ?_ | refine zdV rfl rfl rfl rfl rfl rfl rfl rfl rfl rfl ?_ | refine zg5 rfl rfl (by first | exact (List.length_map _).symm | (simp; done) | (simp; omega)) rfl rfl rfl (by decide) (by exact XB.own rfl rfl (by decide) (by first | exact List.length_map _ | exact (List.length_map _).symm | exact List.length_replicate | rfl | (simp; done) | omega | (simp; omega))) (by first | (simp; omega) | (simp; done)) (by first | (simp; omega) | (simp; done)) rfl rfl rfl ?_ | refine zfw rfl rfl rfl rfl rfl rfl rfl rfl rfl ?_))
    refine ⟨by kernel_rfl, ?_⟩
    (repeat (first | refine FW.region ?_ | refine zc.nil ?_ | refine za rfl rfl rfl ?_ | refine zb rfl rfl rfl ?_ | refine zu rfl rfl (by omega) rfl rfl ?_))
    refine ⟨q + 1, by omega, by omega, ?_⟩
    rw [hqs, show (PP ++ (RT ++ [(px, py)])).map edf = (PP ++ RT).map edf ++ [edf (px, py)] by rw [← List.append_assoc, List.map_append]; rfl]
    exact (FLe.conv [⟨102, some 74, 0 + 1, ⟨0, .own, 59, 2, (PP ++ RT).map edf ++ [edf (px, py)]⟩⟩, ⟨103, some 103, 0, ⟨0, .own, 3, 1, K.map zF⟩⟩] (by simp) (by simp) rfl (by repeat (first | exact .nil | refine .low rfl ?_ | refine .same rfl ?_ | refine .bump (Nat.lt_succ_self _) ?_)) (by repeat (first | exact .nil | refine .old rfl (by decide) (by first | rfl | (simp; done)) ?_)) (by repeat (first | exact .nil | refine .cons (.plain rfl rfl (by first | rfl | (simp; done))) ?_ | refine .cons (.own rfl (.head _) rfl (by first | rfl | (simp; done))) ?_ | refine .cons (.own rfl (.tail _ (.head _)) rfl (by first | rfl | (simp; done))) ?_)))
   ·have : q = S.length - 1 := by
     have := of_decide_eq_false h
     omega
    subst this
    (repeat (first | refine FW.region ?_ | refine FW.exit ?_ | refine zc.nil ?_ | refine zb rfl rfl rfl ?_ | refine zu rfl rfl (by omega) rfl rfl ?_))
    refine ⟨i + 1, by omega, by omega, ?_⟩
    rw [hkps]
    exact (FLe.conv [⟨102, some 102, 0, ⟨0, .own, 59, 2, (PP ++ zf0 l S (S.length - 1)).map edf⟩⟩, ⟨103, some 103, 0, ⟨0, .own, 3, 1, K.map zF⟩⟩] (by simp) (by simp) rfl (by repeat (first | exact .nil | refine .low rfl ?_ | refine .same rfl ?_ | refine .bump (Nat.lt_succ_self _) ?_)) (by repeat (first | exact .nil | refine .old rfl (by decide) rfl ?_)) (by repeat (first | exact .nil | refine .cons (.plain rfl rfl rfl) ?_ | refine .cons (.own rfl (.head _) rfl rfl) ?_ | refine .cons (.own rfl (.tail _ (.head _)) rfl rfl) ?_)))
  ·obtain rfl : i = K.length := by simp at h; omega
   have hkl2 := hkpl K.length (Nat.le_refl _)
   have hkl3 := Nat.mul_le_mul (show K.length ≤ 300 by omega) hl
   rw [List.take_length] at hkl2 ⊢
   generalize zeu l K = KP at hPe hkl2 ⊢
   (repeat (first | refine FW.seq ?_ | refine FW.region ?_ | refine FW.block ?_ | refine FW.exit ?_ | refine zc.nil ?_ | refine zb rfl rfl rfl ?_ | refine zm rfl rfl (by exact List.length_map _) rfl rfl ?_))
   refine FW.loop (fun a : Nat => ⟨[(0, .list 8 (l.map OpV.fv)), (6, .list 1 (I.map zQ)), (8, .own 102 0 0 (KP ++ rtT l a).length), (76, .list 1 (I.map zQ)), (77, .int .i64 I.length), (78, .int .i64 a)], [(102, ⟨0, .own, 59, 2, (KP ++ rtT l a).map edf⟩)]⟩) (fun a => a ≤ I.length) (fun a => I.length - a) 0 (Nat.zero_le _) ?_ ?_
   ·rw [hrt0, List.append_nil]
    exact (FLe.conv [⟨102, some 102, 0, ⟨0, .own, 59, 2, KP.map edf⟩⟩] (by simp) (by simp) rfl (by repeat (first | exact .nil | refine .low rfl ?_ | refine .same rfl ?_ | refine .bump (Nat.lt_succ_self _) ?_)) (by repeat (first | exact .nil | refine .old rfl (by decide) rfl ?_)) (by repeat (first | exact .nil | refine .cons (.plain rfl rfl rfl) ?_ | refine .cons (.own rfl (.head _) rfl rfl) ?_)))
   intro a ha
   (repeat (first | refine FW.seq ?_ | refine FW.region ?_ | refine zc.nil ?_ | refine zH rfl rfl rfl rfl ?_))
   refine FW.cond rfl (fun h => ?_) (fun h => ?_)
   ·have hlta : a < I.length := by simpa using h
    clear h
    have hrtS := hrtS a
    have hrtl := hrtTl a
    have hrtl2 := Nat.mul_le_mul (show a ≤ 300 by omega) (show I.length ≤ 300 by omega)
    have hrtR := hrtR a
    have hrtRl := hrtRl a
    have hrt1 := hrt1 a
    obtain ⟨x, hx⟩ : ∃ x, nth I a = x := ⟨_, rfl⟩
    have hxl : x < l.length := by rw [← hx]; exact hImem _ (zn hlta)
    simp only [hx] at hrtR
    generalize rtR l a = RR at hrtS hrtR hrtRl hrt1
    generalize rtT l a = PP at hrtS hrtl ⊢
    (repeat (first | refine FW.seq ?_ | refine FW.region ?_ | refine FW.block ?_ | refine FW.skip ?_ | refine zc.nil ?_ | refine za rfl rfl rfl ?_ | refine zb rfl rfl rfl ?_ | refine zm rfl rfl (by first | exact List.length_map _ | rfl | (simp; omega)) rfl rfl ?_ | refine zD rfl rfl rfl rfl rfl rfl (by simp; omega) rfl rfl ?_ | refine zB rfl rfl rfl (by simp; omega) (by first | exact zd (by omega) | rfl) rfl rfl rfl rfl ?_))
    rw [hx]
    skip
    refine FW.loop (fun b : Nat => ⟨[(0, .list 8 (l.map OpV.fv)), (6, .list 1 (I.map zQ)), (8, .own 102 0 0 (KP ++ PP ++ RR b).length), (13, .int .i64 a), (14, .int .i64 x), (76, .list 1 (I.map zQ)), (77, .int .i64 I.length), (78, .int .i64 a), (83, .list 1 (I.map zQ)), (84, .int .i64 I.length), (85, .int .i64 b)], [(102, ⟨0, .own, 59, 2, (KP ++ PP ++ RR b).map edf⟩)]⟩) (fun b => b ≤ I.length) (fun b => I.length - b) 0 (Nat.zero_le _) ?_ ?_
    ·rw [hrt1, List.append_nil]
     exact (FLe.conv [⟨102, some 102, 0, ⟨0, .own, 59, 2, (KP ++ PP).map edf⟩⟩] (by simp) (by simp) rfl (by repeat (first | exact .nil | refine .low rfl ?_ | refine .same rfl ?_ | refine .bump (Nat.lt_succ_self _) ?_)) (by repeat (first | exact .nil | refine .old rfl (by decide) rfl ?_)) (by repeat (first | exact .nil | refine .cons (.plain rfl rfl rfl) ?_ | refine .cons (.own rfl (.head _) rfl rfl) ?_)))
    intro b hb
    (repeat (first | refine FW.seq ?_ | refine FW.region ?_ | refine zc.nil ?_ | refine zH rfl rfl rfl rfl ?_))
    refine FW.cond rfl (fun h => ?_) (fun h => ?_)
    ·have hltb : b < I.length := by simpa using h
     clear h
     obtain ⟨y, hy⟩ : ∃ y, nth I b = y := ⟨_, rfl⟩
     have hyl : y < l.length := by rw [← hy]; exact hImem _ (zn hltb)
     have hrtR := hrtR b
     have hrtRl := hrtRl b
     rw [hy] at hrtR
     have hbs := YL l x y hxl hyl
     generalize RR b = RB at hrtR hrtRl ⊢
     (repeat (first | refine FW.seq ?_ | refine FW.region ?_ | refine FW.block ?_ | refine FW.skip ?_ | refine zc.nil ?_ | refine za rfl rfl rfl ?_ | refine zb rfl rfl rfl ?_ | refine zD rfl rfl rfl rfl rfl rfl (by simp; omega) rfl rfl ?_ | refine zB rfl rfl rfl (by simp; omega) (by first | exact zd (by omega) | rfl) rfl rfl rfl rfl ?_))
     rw [hy]
     skip
     refine zJ hbs (by repeat (first | exact zj.nil | refine zj.cons (by exact yu.plain rfl rfl) ?_)) rfl rfl ?_
     (repeat (first | refine zc.nil ?_))
     refine FW.cond rfl (fun h => ?_) (fun h => ?_)
     ·rw [if_pos h] at hrtR
      (repeat (first | refine FW.region ?_ | refine zc.nil ?_ | refine za rfl rfl rfl ?_ | refine zb rfl rfl rfl ?_ | refine yT rfl rfl rfl rfl rfl rfl rfl rfl rfl rfl ?_ | refine xc rfl rfl (by first | exact (List.length_map _).symm | (simp; done) | (simp; omega)) rfl rfl rfl (by decide) (by exact XB.own rfl rfl (by decide) (by first | exact List.length_map _ | exact (List.length_map _).symm | exact List.length_replicate | rfl | (simp; done) | omega | (simp; omega))) (by first | (simp; omega) | (simp; done)) (by first | (simp; omega) | (simp; done)) rfl rfl rfl ?_ | refine zu rfl rfl (by omega) rfl rfl ?_ | refine Xj rfl rfl rfl rfl rfl rfl rfl rfl rfl ?_))
      refine ⟨b + 1, by omega, by omega, ?_⟩
      rw [hrtR, show (KP ++ PP ++ (RB ++ [(a, b)])).map edf = (KP ++ PP ++ RB).map edf ++ [edf (a, b)] by rw [← List.append_assoc, List.map_append]; rfl]
      exact (FLe.conv [⟨102, some 99, 0 + 1, ⟨0, .own, 59, 2, (KP ++ PP ++ RB).map edf ++ [edf (a, b)]⟩⟩] (by simp) (by simp) rfl (by repeat (first | exact .nil | refine .low rfl ?_ | refine .same rfl ?_ | refine .bump (Nat.lt_succ_self _) ?_)) (by repeat (first | exact .nil | refine .old rfl (by decide) (by first | rfl | (simp; done)) ?_)) (by repeat (first | exact .nil | refine .cons (.plain rfl rfl (by first | rfl | (simp; done))) ?_ | refine .cons (.own rfl (.head _) rfl (by first | rfl | (simp; done))) ?_)))
     ·rw [if_neg (by rw [h]; decide), List.append_nil] at hrtR
      (repeat (first | refine FW.region ?_ | refine FW.skip ?_ | refine zc.nil ?_ | refine zb rfl rfl rfl ?_ | refine zu rfl rfl (by omega) rfl rfl ?_))
      refine ⟨b + 1, by omega, by omega, ?_⟩
      rw [hrtR]
      exact (FLe.conv [⟨102, some 102, 0, ⟨0, .own, 59, 2, (KP ++ PP ++ RB).map edf⟩⟩] (by simp) (by simp) rfl (by repeat (first | exact .nil | refine .low rfl ?_ | refine .same rfl ?_ | refine .bump (Nat.lt_succ_self _) ?_)) (by repeat (first | exact .nil | refine .old rfl (by decide) rfl ?_)) (by repeat (first | exact .nil | refine .cons (.plain rfl rfl rfl) ?_ | refine .cons (.own rfl (.head _) rfl rfl) ?_)))
    ·obtain rfl : b = I.length := by simp at h; omega
     (repeat (first | refine FW.region ?_ | refine FW.exit ?_ | refine zc.nil ?_ | refine zb rfl rfl rfl ?_ | refine zu rfl rfl (by omega) rfl rfl ?_))
     refine ⟨a + 1, by omega, by omega, ?_⟩
     rw [hrtS, ← List.append_assoc]
     exact (FLe.conv [⟨102, some 102, 0, ⟨0, .own, 59, 2, (KP ++ PP ++ RR I.length).map edf⟩⟩] (by simp) (by simp) rfl (by repeat (first | exact .nil | refine .low rfl ?_ | refine .same rfl ?_ | refine .bump (Nat.lt_succ_self _) ?_)) (by repeat (first | exact .nil | refine .old rfl (by decide) rfl ?_)) (by repeat (first | exact .nil | refine .cons (.plain rfl rfl rfl) ?_ | refine .cons (.own rfl (.head _) rfl rfl) ?_)))
   ·obtain rfl : a = I.length := by simp at h; omega
    have hrtl := hrtTl I.length
    have hrtl2 := Nat.mul_le_mul (show I.length ≤ 300 by omega) (show I.length ≤ 300 by omega)
    have hLP : (zgS l K).length ≤ 1000000 := by
     rw [hPe, List.length_append]; omega
    rw [← hPe] at ⊢
    have hnw := zbz I.length (zgS l K) (by omega) hLP hpi f hf
    have hln := Up I.length (yH (zgS l K)) (by omega) (ZC hf)
    rw [← hNe] at hln
    have hNl := E.len
    have hNr := E.rng
    generalize zgS l K = P at hnw hln hLP ⊢
    (repeat (first | refine FW.seq ?_ | refine FW.region ?_ | refine FW.exit ?_ | refine zb rfl rfl rfl ?_ | refine zm rfl rfl (by exact List.length_map _) rfl rfl ?_))
    refine zc.le ?_ (FLe.share 105 rfl rfl (by simp))
    refine yZ hnw (by repeat (first | exact zj.nil | refine zj.cons (by exact yu.plain rfl rfl) ?_)) rfl rfl ?_
    (repeat (first | refine FW.seq ?_ | refine FW.region ?_ | refine zc.nil ?_ | refine za rfl rfl rfl ?_ | refine zb rfl rfl rfl ?_ | refine zI rfl rfl rfl rfl rfl ?_))
    refine ye hln (by repeat (first | exact zj.nil | refine zj.cons (by exact yu.plain rfl rfl) ?_)) (List.length_map _) rfl rfl rfl ?_
    (repeat (first | refine FW.block ?_ | refine zc.nil ?_ | refine zb rfl rfl rfl ?_ | refine yf rfl rfl rfl (by decide) rfl rfl ?_))
    rw [hNl]
    refine FW.loop (fun i : Nat => ⟨[(6, .list 1 (I.map zQ)), (19, .own 102 0 0 i), (110, .own 103 0 0 I.length), (111, .int .i64 I.length), (112, .int .i64 i)], [(102, ⟨0, .own, 3, 1, ((N.take i).map fun a => nth I a).map zQ⟩), (103, ⟨0, .own, 3, 1, N.map zQ⟩)]⟩) (fun i => i ≤ I.length) (fun i => I.length - i) 0 (Nat.zero_le _) ?_ ?_
    ·show FLe _ ⟨[(6, .list 1 (I.map zQ)), (19, .own 102 0 0 0), (110, .own 103 0 0 I.length), (111, .int .i64 I.length), (112, .int .i64 0)], [(102, ⟨0, .own, 3, 1, []⟩), (103, ⟨0, .own, 3, 1, N.map zQ⟩)]⟩
     exact (FLe.conv [⟨102, none, 0, ⟨0, .own, 3, 1, []⟩⟩, ⟨103, some 110, 0 + 1, ⟨0, .own, 3, 1, N.map zQ⟩⟩] (by simp) (by simp) rfl (by repeat (first | exact .nil | refine .low rfl ?_ | refine .same rfl ?_ | refine .bump (Nat.lt_succ_self _) ?_)) (by repeat (first | exact .nil | refine .old rfl (by decide) rfl ?_ | refine .new ?_)) (by repeat (first | exact .nil | refine .cons (.plain rfl rfl rfl) ?_ | refine .cons (.nil rfl (.head _) rfl) ?_ | refine .cons (.own rfl (.tail _ (.head _)) rfl rfl) ?_)))
    intro i hi
    have hst := fun h : i < N.length => congrArg (fun z : List Nat => z.map fun a => nth I a) (xu (l := N) (k := i) h)
    simp only [List.map_append, List.map_cons, List.map_nil] at hst
    obtain ⟨O, hO⟩ : ∃ O, (N.take i).map (fun a => nth I a) = O := ⟨_, rfl⟩
    have hOl : O.length = i := by rw [← hO, List.length_map, List.length_take]; omega
    rw [hO] at hst ⊢
    (repeat (first | refine FW.seq ?_ | refine FW.region ?_ | refine zc.nil ?_ | refine zH rfl rfl rfl rfl ?_))
    refine FW.cond rfl (fun h => ?_) (fun h => ?_)
    ·have hlti : i < I.length := by simpa using h
     clear h
     have hst := hst (by omega)
     obtain ⟨j, hj⟩ : ∃ j, nth N i = j := ⟨_, rfl⟩
     have hjn := hNr _ (zn (l := N) (i := i) (by omega))
     rw [hj] at hjn hst
     obtain ⟨x, hx⟩ : ∃ x, nth I j = x := ⟨_, rfl⟩
     rw [hx] at hst
     (repeat (first | refine FW.seq ?_ | refine FW.region ?_ | refine FW.block ?_ | refine FW.skip ?_ | refine zc.nil ?_ | refine za rfl rfl rfl ?_ | refine zb rfl rfl rfl ?_ | refine zD rfl rfl rfl rfl rfl rfl (by first | omega | (simp; omega) | (simp; done)) rfl rfl ?_ | refine zx rfl rfl rfl rfl rfl rfl (by decide) rfl (by first | omega | (simp; omega) | (simp; done)) rfl rfl ?_ | refine zB rfl rfl rfl (by first | omega | (simp; omega) | (simp; done)) (by first | exact zd (by omega) | rfl) rfl rfl rfl rfl ?_ | refine zq rfl rfl rfl rfl rfl (by first | omega | (simp; omega) | (simp; done)) (by first | exact zd (by omega) | rfl) rfl rfl rfl rfl ?_ | refine yz rfl rfl rfl rfl rfl rfl rfl rfl ?_ | refine xc rfl rfl (by first | rfl | (simp; done) | omega | (simp; omega)) rfl rfl rfl (by decide) (by exact XB.own rfl rfl (by decide) (by first | exact List.length_map _ | exact (List.length_map _).symm | exact List.length_replicate | rfl | (simp; done) | omega | (simp; omega))) (by first | omega | (simp; omega) | (simp; done)) (by first | omega | (simp; omega) | (simp; done)) rfl rfl rfl ?_ | refine zu rfl rfl (by omega) rfl rfl ?_))
     rw [hj]
     skip
     rw [hx]
     skip
     refine ⟨i + 1, by omega, by omega, ?_⟩
     rw [hst, List.map_append]
     exact (FLe.conv [⟨102, some 122, 0 + 1, ⟨0, .own, 3, 1, O.map zQ ++ [x].map zQ⟩⟩, ⟨103, some 103, 0, ⟨0, .own, 3, 1, N.map zQ⟩⟩] (by simp) (by simp) rfl (by repeat (first | exact .nil | refine .low rfl ?_ | refine .same rfl ?_ | refine .bump (Nat.lt_succ_self _) ?_)) (by repeat (first | exact .nil | refine .old rfl (by decide) (by first | rfl | (simp; omega)) ?_)) (by repeat (first | exact .nil | refine .cons (.plain rfl rfl (by first | rfl | (simp; omega))) ?_ | refine .cons (.own rfl (.head _) rfl (by first | rfl | (simp; omega))) ?_ | refine .cons (.own rfl (.tail _ (.head _)) rfl (by first | rfl | (simp; omega))) ?_)))
    ·obtain rfl : i = I.length := by simp at h; omega
     rw [List.take_of_length_le (by omega)] at hO
     subst hO
     (repeat (first | refine FW.seq ?_ | refine FW.region ?_ | refine FW.exit ?_ | refine zc.nil ?_ | refine za rfl rfl rfl ?_ | refine zb rfl rfl rfl ?_))
     exact FW.ret ⟨.inl rfl, Zb rfl rfl rfl (by rw [List.length_map]; omega) (by decide) rfl (fun e he => by obtain ⟨b, _, rfl⟩ := List.mem_map.1 he; rfl)⟩
end Go.Proofs.Ytbeebjdnapkhhaa
