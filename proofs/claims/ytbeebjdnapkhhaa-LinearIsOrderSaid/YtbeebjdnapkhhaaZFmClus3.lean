/-
  linear.clusters: the walk.
-/
import Derived.Test.YtbeebjdnapkhhaaZFmClus2
namespace Go.Proofs.Ytbeebjdnapkhhaa
set_option linter.unusedVariables false
open Go.RowKit

theorem zaN {α : Type} [Inhabited α] (l : List α) : (List.range l.length).map (nth l) = l := by
 apply List.ext_getElem
 ·simp
 ·intro i h1 h2
  rw [List.getElem_map, List.getElem_range, zi h2]
theorem zgG (C : List ClV) : (List.map (xj C) (List.range C.length)).length = C.length := by simp
set_option maxHeartbeats 4000000 in
theorem Wh (l : List OpV) (c : Int) (ins : List Bool) (hl : l.length ≤ 300) (hin : ∀ o ∈ l, zci o) (hc : I64 c) (D : yj l) (hil : ins.length = l.length) (hi0 : ∀ i, i < l.length → nth ins i = zR l i) (hthin : ∀ i, i < l.length → (nth l i).key = c → zgi l i = false) :
  zU Try.prog 57 [.list 8 (l.map OpV.fv), .int .i64 c, .list 1 (ins.map bof)] .sh (.list 2 ((Zo l c).map ClV.fv)) := by
 refine zU.of_body (c := (xN Try.prog zE zA 99)) ⟨Try.func57, rfl, Try.ntmps57, by kernel_rfl⟩ (by simp [FV.hand]) (by exact Nat.le_of_ble_eq_true rfl) rfl ?_
 change FW _ _ _ ⟨[(0, .list 8 (l.map OpV.fv)), (1, .int .i64 c), (2, .list 1 (ins.map bof))], []⟩
 (repeat (first | refine FW.seq ?_ | refine FW.region ?_ | refine zc.nil ?_ | refine UW rfl rfl rfl rfl rfl ?_ | refine za rfl rfl rfl ?_ | refine Xu rfl rfl rfl ?_ | refine zb rfl rfl rfl ?_))
 refine zc.le ?_ (FLe.shareP 4 rfl rfl)
 (repeat (first | refine Vd rfl rfl rfl rfl ?_))
 refine zH (zay l 71 [.eptr 1 [[.int .i64 c]] 0 0] (VJ c 0) (by omega) (zax c)) (by repeat (first | exact zh.nil | refine zh.cons (by exact yf.plain rfl rfl) ?_)) rfl rfl ?_
 (repeat (first | refine zc.nil ?_))
 refine FW.join (fun C0 : List ClV => ⟨[(0, .list 8 (l.map OpV.fv)), (2, .list 1 (ins.map bof)), (4, .eptr 1 [[.int .i64 c]] 0 0), (7, .omap 99 0), (8, .own 100 0 0 C0.length)], (100, ⟨0, .hrow, 112, 2, (List.range C0.length).map (xj C0)⟩) :: [(99, ⟨0, .mapo, 67, 0, Zr c (Yt l c 0)⟩)] ++ (ZU 200 ++ Xp 1000 C0.length (xh C0))⟩) (fun C0 => C0 = clT l c 0 (Yt l c 0)) ?_ ?_
 ·refine FW.cond rfl (fun h => ?_) (fun h => ?_)
  ·have hT : Yt l c 0 = [(true, [], 0)] := by unfold Yt zj9; rw [if_pos h]; rfl
   rw [hT]
   (repeat (first | refine FW.seq ?_ | refine FW.region ?_ | refine zb rfl rfl rfl ?_ | refine zt rfl rfl rfl (by simp; done) rfl rfl rfl rfl rfl ?_ | refine yK rfl rfl rfl rfl ?_ | refine yT.nil ?_ | refine yT.one rfl rfl rfl rfl rfl ?_))
   refine Xf Ws (es := []) (fun row hr => by cases hr) (zaK hc ⟨by decide, by decide⟩) (.inr ⟨fun row hr => (by cases hr), rfl⟩) rfl rfl rfl rfl rfl rfl rfl ?_
   (repeat (first | refine FW.region ?_ | refine zc.nil ?_ | refine za rfl rfl rfl ?_ | refine zb rfl rfl rfl ?_ | refine yK rfl rfl rfl rfl ?_ | refine xA rfl rfl rfl rfl rfl rfl rfl rfl rfl rfl ?_ | refine zb2 rfl rfl rfl rfl (by decide) (by exact Wa.own rfl rfl (by decide) (by first | exact List.length_map _ | exact (List.length_map _).symm | exact List.length_replicate | rfl | (simp; done) | omega | (simp; omega))) (by simp; done) (by simp; done) rfl rfl rfl ?_ | refine yT.nil ?_ | refine yT.one rfl rfl rfl rfl rfl ?_))
   refine ⟨rfl, [⟨true, []⟩], rfl, ?_⟩
   exact (FLe.toH (i := 24) rfl).trans (FLe.convN [⟨100, some 24, 0 + 1, ⟨0, .hrow, 112, 2, (List.range 1).map (xj [⟨true, []⟩])⟩⟩, ⟨99, some 14, 0 + 1, ⟨0, .mapo, 67, 0, Zr c [(true, [], 0)]⟩⟩] 1000 1 (xh [⟨true, []⟩]) rfl (by unfold zf; omega) rfl (by simp) (by simp) (by repeat (first | exact Low.nil | exact Low.fam rfl (by unfold zf; omega) | refine Low.cons rfl ?_))
    (fun j hj => ⟨rfl, by obtain rfl : j = 0 := by omega
                          rfl⟩) (.oldK rfl (zdB.of (n := 1) (c := fun _ => [.bool true, .nil]) (fun j _ => rfl) fun j hj => (by
     obtain rfl : j = 0 := by omega
     exact .cons (.plain rfl rfl) (.cons (.nil (List.mem_append_right _ (Yw hj)) rfl) .nil))) (.old rfl rfl rfl .nil)) (by repeat (first | exact .nil | refine .cons (.plain rfl rfl rfl) ?_ | refine .cons (.own rfl (.head _) rfl rfl) ?_ | refine .cons (.omap rfl (.tail _ (.head _)) rfl) ?_)))
  ·have hT : Yt l c 0 = [] := by unfold Yt zj9; rw [if_neg (by rw [h]; decide)]; rfl
   rw [hT]
   (repeat (first | refine FW.skip ?_))
   refine ⟨rfl, [], rfl, ?_⟩
   refine FLe.trans (?_ : FLe _ ⟨[(0, .list 8 (l.map OpV.fv)), (2, .list 1 (ins.map bof)), (4, .eptr 1 [[.int .i64 c]] 0 0), (7, .omap 99 0), (8, .own 98 0 0 0)], [(98, ⟨0, .own, 112, 2, []⟩), (99, ⟨0, .mapo, 67, 0, []⟩)]⟩) ?_
   ·exact (FLe.conv [⟨98, none, 0, ⟨0, .own, 112, 2, []⟩⟩, ⟨99, some 14, 0 + 1, ⟨0, .mapo, 67, 0, []⟩⟩] (by simp) (by simp) rfl (by repeat (first | exact .nil | refine .low rfl ?_ | refine .same rfl ?_ | refine .bump (Nat.lt_succ_self _) ?_)) (by repeat (first | exact .nil | refine .old rfl (by decide) rfl ?_ | refine .new ?_)) (by repeat (first | exact .nil | refine .cons (.plain rfl rfl rfl) ?_ | refine .cons (.nil rfl (.head _) rfl) ?_ | refine .cons (.omap rfl (.tail _ (.head _)) rfl) ?_)))
   exact (FLe.toH (i := 98) rfl).trans (FLe.convN [⟨100, some 98, 0, ⟨0, .hrow, 112, 2, (List.range 0).map (xj [])⟩⟩, ⟨99, some 99, 0, ⟨0, .mapo, 67, 0, Zr c []⟩⟩] 1000 0 (xh []) rfl (by unfold zf; omega) rfl (by simp) (by simp) (by repeat (first | exact Low.nil | exact Low.fam rfl (by unfold zf; omega) | refine Low.cons rfl ?_))
    (fun j hj => by omega) (.oldK rfl zdB.nil (.old rfl rfl rfl .nil)) (by repeat (first | exact .nil | refine .cons (.plain rfl rfl rfl) ?_ | refine .cons (.own rfl (.head _) rfl rfl) ?_ | refine .cons (.omap rfl (.tail _ (.head _)) rfl) ?_)))
 rintro C0 hC0
 (repeat (first | refine FW.seq ?_ | refine FW.region ?_ | refine FW.block ?_ | refine zc.nil ?_ | refine zb rfl rfl rfl ?_ | refine zm rfl rfl (by exact List.length_map _) rfl rfl ?_))
 refine FW.loop (fun p : Nat × List ClV => ⟨[(0, .list 8 (l.map OpV.fv)), (2, .list 1 (ins.map bof)), (4, .eptr 1 [[.int .i64 c]] 0 0), (7, .omap 99 0), (8, .own 100 0 0 p.2.length), (25, .list 8 (l.map OpV.fv)), (26, .int .i64 l.length), (27, .int .i64 p.1)], (100, ⟨0, .hrow, 112, 2, (List.range p.2.length).map (xj p.2)⟩) :: [(99, ⟨0, .mapo, 67, 0, Zr c (Yt l c p.1)⟩)] ++ (ZU 200 ++ Xp 1000 p.2.length (xh p.2))⟩) (fun p => p.1 ≤ l.length ∧ p.2 = clT l c 0 (Yt l c p.1)) (fun p => l.length - p.1) (0, C0) ⟨Nat.zero_le _, hC0⟩ ?_ ?_
 ·have hCl : C0.length ≤ 1000 := by rw [hC0, Zm]; have := VL (l := l) (c := c) (k := 0); omega
  refine FLe.clKeep (C := C0) hCl [⟨99, some 99, 0, ⟨0, .mapo, 67, 0, Zr c (Yt l c 0)⟩⟩] 100 0 (by repeat (first | exact Low.nil | exact Low.fam rfl (by unfold zf; omega) | refine Low.cons rfl ?_)) (by decide) ⟨rfl, rfl, by simp, by simp⟩ rfl (fun j hj => yD (C := [(100, _), (99, _)]) rfl (by decide) hj) (.old rfl rfl rfl .nil) (by repeat (first | exact .nil | refine .cons (.plain rfl rfl rfl) ?_ | refine .cons (.own rfl (.head _) rfl rfl) ?_ | refine .cons (.omap rfl (.tail _ (.head _)) rfl) ?_))
 rintro ⟨i, C⟩ ⟨hi, hC⟩
 dsimp only at hi hC ⊢
 (repeat (first | refine FW.seq ?_ | refine FW.region ?_ | refine zc.nil ?_ | refine zJ rfl rfl rfl rfl ?_))
 refine FW.cond rfl (fun h => ?_) (fun h => ?_)
 ·have hlt : i < l.length := by simpa using h
  clear h
  have hCl : C.length < 1000 := by rw [hC, Zm]; have := VL (l := l) (c := c) (k := i); omega
  have ho := hin _ (zp hlt)
  have hii := hi0 i hlt
  have hno := fun h => zkt (l := l) (c := c) (k := i) h
  have hyes := fun h => zjr (l := l) (c := c) (k := i) h
  have hwr : wrB l c i = (decide ((nth l i).key = c) && (decide ((nth l i).k = 1) && zR l i)) := rfl
  have hvs := Zy (nth l i)
  obtain ⟨o, hoe⟩ : ∃ o, nth l i = o := ⟨_, rfl⟩
  obtain ⟨q, hq⟩ : ∃ q, zR l i = q := ⟨_, rfl⟩
  rw [hoe, hq] at hwr
  rw [hoe] at ho hyes hvs
  rw [hq] at hii
  (repeat (first | refine FW.seq ?_ | refine FW.region ?_ | refine FW.block ?_ | refine FW.skip ?_ | refine zc.nil ?_ | refine za rfl rfl rfl ?_ | refine zb rfl rfl rfl ?_ | refine zt rfl rfl rfl (by first | (simp; omega) | (simp; done)) (by first | exact zd (by omega) | rfl) rfl rfl rfl rfl ?_ | refine zn rfl rfl rfl rfl rfl (by first | (simp; omega) | (simp; done)) (by first | exact zd (by omega) | rfl) rfl rfl rfl rfl ?_ | refine yL rfl rfl rfl (by decide) (by first | (simp; omega) | (simp; done)) (by first | exact zd (by omega) | rfl) rfl rfl rfl ?_ | refine zw rfl rfl rfl rfl rfl rfl (by first | (simp; omega) | (simp; done)) rfl rfl ?_ | refine yb rfl rfl rfl rfl rfl rfl rfl ?_ | refine zG rfl rfl rfl rfl rfl rfl rfl rfl rfl ?_ | refine zq rfl rfl rfl rfl rfl rfl (by decide) rfl rfl ?_ | refine yz rfl rfl rfl rfl ?_))
  rw [hoe]
  skip
  refine yy (fun h1 => ?_) (fun h1 => ?_)
  ·rw [h1, Bool.true_and] at hwr
   (repeat (first | refine zb rfl rfl rfl ?_ | refine zK rfl rfl rfl rfl ?_ | refine zq rfl rfl rfl rfl rfl rfl (by decide) rfl ⟨_, _, rfl, rfl, rfl⟩ ?_ | refine zn rfl rfl rfl rfl rfl (by simp; done) rfl rfl rfl rfl ⟨_, _, rfl, rfl, rfl⟩ ?_ | refine yz rfl rfl rfl ⟨_, _, rfl, rfl, rfl⟩ ?_))
   refine yy (fun h2 => ?_) (fun h2 => ?_)
   ·rw [h2, Bool.true_and] at hwr
    (repeat (first | refine zc.nil ?_ | refine zK rfl rfl rfl rfl ?_ | refine zt rfl rfl rfl (by simp; omega) (by first | exact zd (by omega) | rfl) rfl rfl rfl ⟨_, _, rfl, rfl, rfl⟩ ?_ | refine zb rfl rfl ⟨_, _, rfl, rfl, rfl⟩ ?_ | refine zw rfl rfl rfl rfl rfl rfl (by simp; omega) rfl ⟨_, _, rfl, rfl, rfl⟩ ?_))
    rw [hii]
    cases q with
    | true =>
     have hyes := hyes hwr
     have h1' : o.key = c := by simpa using h1
     have h2' : o.k = 1 := by simpa using h2
     have hcell : ZK o = Vy c o.arg := by unfold ZK; rw [Yo h2', h1']
     rw [hcell] at hvs
     have hnone : ∀ p ∈ Yt l c i, p.2.2 ≠ o.arg := fun p hp => by
      rcases YH.1 hp with ⟨_, rfl⟩ | ⟨w, hw, hwb, rfl⟩
      ·have := D.arg hlt (by rw [hoe]; exact h2')
       rw [hoe] at this
       exact fun e => this e.symm
      ·rw [Xl] at hwb
       intro e
       have := D.uniq (show w < l.length by omega) hlt hwb.2.1 (by rw [hoe]; exact h2') (by rw [hwb.1, hoe, h1']) (by rw [hoe]; exact e)
       omega
     have hCT : C.length = (Yt l c i).length := by rw [hC, Zm]
     have hC2 : clT l c 0 (Yt l c (i + 1)) = C ++ [⟨false, [i]⟩] := by rw [hyes, hC, zeB, zeB, List.map_append]; rfl
     have hma := zhq (c := c) (Yt l c i) (false, [i], o.arg)
     rw [← hCT, ← hyes] at hma
     have hmk := zc6 hc (zh6 hin (c := c) (show i ≤ l.length by omega))
     have hmn := zfQ (c := c) hnone
     clear hno
     (repeat (first | refine FW.seq ?_ | refine FW.region ?_ | refine FW.condT rfl ?_ | refine zb rfl rfl rfl ?_ | refine zW rfl rfl rfl (by decide) rfl rfl (by simp; done) rfl rfl rfl rfl ?_))
     refine zH hvs (by repeat (first | exact zh.nil | refine zh.cons (by exact yf.plain rfl rfl) ?_)) rfl rfl ?_
     (repeat (first | refine zb rfl rfl rfl ?_ | refine yp rfl rfl rfl (by decide) rfl rfl ?_))
     refine Xf Ws hmk (zaK hc ho.2.2.2.1) (.inr ⟨hmn, rfl⟩) rfl rfl rfl rfl rfl rfl rfl ?_
     (repeat (first | refine FW.region ?_ | refine zc.nil ?_ | refine zb rfl rfl rfl ?_ | refine xa rfl rfl rfl rfl rfl rfl rfl rfl ?_))
     refine zhK rfl rfl rfl rfl rfl rfl rfl (.inr (.inl ⟨_, _, _, _, rfl, zV rfl (by decide)⟩)) rfl rfl rfl ?_
     refine zf8 rfl rfl rfl rfl rfl rfl rfl (fun f hf => by
      rcases List.mem_cons.1 hf with rfl | hf
      ·exact .inl rfl
      ·rw [List.mem_singleton.1 hf]; exact .inr (.inl ⟨_, _, _, _, rfl, zV rfl (by decide)⟩)) rfl rfl rfl ?_
     refine zi9 rfl rfl (zgG C).symm rfl rfl rfl rfl rfl rfl rfl (by decide) (fun f hf => by
      rcases List.mem_cons.1 hf with rfl | hf
      ·exact .inl rfl
      ·rw [List.mem_singleton.1 hf]; exact .inr (.inl ⟨_, _, _, _, rfl, zV rfl (by decide)⟩)) (by omega) (by omega) rfl rfl rfl ?_
     (repeat (first | refine FW.region ?_ | refine zc.nil ?_ | refine za rfl rfl rfl ?_ | refine zb rfl rfl rfl ?_ | refine zu rfl rfl (by omega) rfl rfl ?_))
     refine ⟨(i + 1, C ++ [⟨false, [i]⟩]), ⟨by dsimp only; omega, hC2.symm⟩, by dsimp only; omega, ?_⟩
     have hlen : (C ++ [(⟨false, [i]⟩ : ClV)]).length = C.length + 1 := by simp
     dsimp only
     rw [hma, hlen]
     refine FLe.clPut (C.length + 1) hlen (by omega) [⟨99, some 99, 0, ⟨0, .mapo, 67, 0, Zr c (Yt l c i) ++ [[Vy c o.arg, .int .i64 (C.length : Int)]]⟩⟩] 57 (0 + 1) C.length 54 (0 + 1) (fun j => if j = C.length then [.bool false, .own 54 (0 + 1) 0 1] else xj C j) (by repeat (first | exact Low.nil | exact Low.fam rfl (by unfold zf; omega) | refine Low.cons rfl ?_)) (by decide) (by decide) (by decide) ⟨rfl, rfl, by simp, by simp⟩
      (Eq.trans (b := (⟨0 + 1, .hrow, 112, 2, List.map (xj C) (List.range C.length) ++ [[.bool false, .own 54 (0 + 1) 0 1]]⟩ : zx)) rfl (by
       refine congrArg (fun z => (⟨0 + 1, .hrow, 112, 2, z⟩ : zx)) ?_
       rw [List.range_succ, List.map_append]
       rw [show List.map (fun j => if j = C.length then [FV.bool false, .own 54 (0 + 1) 0 1] else xj C j) (List.range C.length) = List.map (xj C) (List.range C.length) from List.map_congr_left fun j hj => by rw [if_neg (by have := List.mem_range.1 hj; omega)]]
       simp))
      (fun j hj hne => by
       have hj' : j < C.length := by omega
       refine ⟨?_, (yD (C := [(57, _), (100, _), (56, _), (54, _), (99, _), (10, _), (10, _), (100, _), (99, _)]) rfl (by decide) hj').trans ?_⟩
       ·rw [if_neg hne]; unfold xj; rw [zbU hj']
       ·unfold xh; rw [zbU hj'])
      (by rw [if_pos rfl, zbV]; rfl) (by rw [zbV]; rfl) (.old rfl rfl rfl .nil) (by repeat (first | exact .nil | refine .cons (.plain rfl rfl rfl) ?_ | refine .cons (.own rfl (.head _) rfl rfl) ?_ | refine .cons (.omap rfl (.tail _ (.head _)) rfl) ?_))
    | false =>
     have hno := hno hwr
     (repeat (first | refine FW.region ?_ | refine FW.skip ?_ | refine FW.condF rfl ?_ | refine zc.nil ?_ | refine zb rfl rfl rfl ?_ | refine zu rfl rfl (by omega) rfl rfl ?_))
     refine ⟨(i + 1, C), ⟨by dsimp only; omega, by dsimp only; rw [hno]; exact hC⟩, by dsimp only; omega, ?_⟩
     dsimp only
     rw [hno]
     exact FLe.clKeep (C := C) (by omega) [⟨99, some 99, 0, ⟨0, .mapo, 67, 0, Zr c (Yt l c i)⟩⟩] 100 0 (by repeat (first | exact Low.nil | exact Low.fam rfl (by unfold zf; omega) | refine Low.cons rfl ?_)) (by decide) ⟨rfl, rfl, by simp, by simp⟩ rfl (fun j hj => yD (C := [(10, _), (10, _), (100, _), (99, _)]) rfl (by decide) hj) (.old rfl rfl rfl .nil) (by repeat (first | exact .nil | refine .cons (.plain rfl rfl rfl) ?_ | refine .cons (.own rfl (.head _) rfl rfl) ?_ | refine .cons (.omap rfl (.tail _ (.head _)) rfl) ?_))
   ·rw [h2, Bool.false_and] at hwr
    have hno := hno hwr
    (repeat (first | refine FW.region ?_ | refine FW.skip ?_ | refine FW.condF rfl ?_ | refine zc.nil ?_ | refine zb rfl rfl rfl ?_ | refine zL rfl rfl rfl rfl ?_ | refine zu rfl rfl (by omega) rfl rfl ?_ | refine ye rfl rfl ⟨_, _, rfl, rfl, rfl⟩ ?_))
    refine ⟨(i + 1, C), ⟨by dsimp only; omega, by dsimp only; rw [hno]; exact hC⟩, by dsimp only; omega, ?_⟩
    dsimp only
    rw [hno]
    exact FLe.clKeep (C := C) (by omega) [⟨99, some 99, 0, ⟨0, .mapo, 67, 0, Zr c (Yt l c i)⟩⟩] 100 0 (by repeat (first | exact Low.nil | exact Low.fam rfl (by unfold zf; omega) | refine Low.cons rfl ?_)) (by decide) ⟨rfl, rfl, by simp, by simp⟩ rfl (fun j hj => yD (C := [(10, _), (10, _), (100, _), (99, _)]) rfl (by decide) hj) (.old rfl rfl rfl .nil) (by repeat (first | exact .nil | refine .cons (.plain rfl rfl rfl) ?_ | refine .cons (.own rfl (.head _) rfl rfl) ?_ | refine .cons (.omap rfl (.tail _ (.head _)) rfl) ?_))
  ·rw [h1, Bool.false_and] at hwr
   have hno := hno hwr
   (repeat (first | refine FW.region ?_ | refine FW.skip ?_ | refine FW.condF rfl ?_ | refine zc.nil ?_ | refine zb rfl rfl rfl ?_ | refine zL rfl rfl rfl rfl ?_ | refine zu rfl rfl (by omega) rfl rfl ?_ | refine ye rfl rfl ⟨_, _, rfl, rfl, rfl⟩ ?_))
   refine ⟨(i + 1, C), ⟨by dsimp only; omega, by dsimp only; rw [hno]; exact hC⟩, by dsimp only; omega, ?_⟩
   dsimp only
   rw [hno]
   exact FLe.clKeep (C := C) (by omega) [⟨99, some 99, 0, ⟨0, .mapo, 67, 0, Zr c (Yt l c i)⟩⟩] 100 0 (by repeat (first | exact Low.nil | exact Low.fam rfl (by unfold zf; omega) | refine Low.cons rfl ?_)) (by decide) ⟨rfl, rfl, by simp, by simp⟩ rfl (fun j hj => yD (C := [(10, _), (10, _), (100, _), (99, _)]) rfl (by decide) hj) (.old rfl rfl rfl .nil) (by repeat (first | exact .nil | refine .cons (.plain rfl rfl rfl) ?_ | refine .cons (.own rfl (.head _) rfl rfl) ?_ | refine .cons (.omap rfl (.tail _ (.head _)) rfl) ?_))
 obtain rfl : i = l.length := by simp at h; omega
 clear h
 (repeat (first | refine FW.seq ?_ | refine FW.region ?_ | refine FW.block ?_ | refine FW.exit ?_ | refine zc.nil ?_ | refine zb rfl rfl rfl ?_ | refine zm rfl rfl (by exact List.length_map _) rfl rfl ?_))
 obtain ⟨T, hT⟩ : ∃ T, Yt l c l.length = T := ⟨_, rfl⟩
 have hTl := VL (l := l) (c := c) (k := l.length)
 have hTn := zdz (c := c) D (Nat.le_refl _)
 have hTi := zc6 hc (zh6 hin (c := c) (Nat.le_refl _))
 have hTr := fun r h1 h2 h3 h4 h5 => zdy (c := c) (r := r) D h1 h2 h3 h4 h5
 have hcl : Zo l c = clT l c l.length T := by unfold Zo; rw [hT]
 rw [hT] at hC hTl hTn hTi hTr ⊢
 rw [hcl]
 refine FW.loop (fun p : Nat × List ClV => ⟨[(0, .list 8 (l.map OpV.fv)), (2, .list 1 (ins.map bof)), (4, .eptr 1 [[.int .i64 c]] 0 0), (7, .omap 99 0), (8, .own 100 0 0 p.2.length), (59, .list 8 (l.map OpV.fv)), (60, .int .i64 l.length), (61, .int .i64 p.1)], (100, ⟨0, .hrow, 112, 2, (List.range p.2.length).map (xj p.2)⟩) :: [(99, ⟨0, .mapo, 67, 0, Zr c T⟩)] ++ (ZU 200 ++ Xp 1000 p.2.length (xh p.2))⟩) (fun p => p.1 ≤ l.length ∧ p.2 = clT l c p.1 T) (fun p => l.length - p.1) (0, C) ⟨Nat.zero_le _, hC⟩ ?_ ?_
 ·have hCl : C.length ≤ 1000 := by rw [hC, Zm]; omega
  refine FLe.clKeep (C := C) hCl [⟨99, some 99, 0, ⟨0, .mapo, 67, 0, Zr c T⟩⟩] 100 0 (by repeat (first | exact Low.nil | exact Low.fam rfl (by unfold zf; omega) | refine Low.cons rfl ?_)) (by decide) ⟨rfl, rfl, by simp, by simp⟩ rfl (fun j hj => yD (C := [(100, _), (99, _)]) rfl (by decide) hj) (.old rfl rfl rfl .nil) (by repeat (first | exact .nil | refine .cons (.plain rfl rfl rfl) ?_ | refine .cons (.own rfl (.head _) rfl rfl) ?_ | refine .cons (.omap rfl (.tail _ (.head _)) rfl) ?_))
 rintro ⟨i, C⟩ ⟨hi, hC⟩
 dsimp only at hi hC ⊢
 (repeat (first | refine FW.seq ?_ | refine FW.region ?_ | refine zc.nil ?_ | refine zJ rfl rfl rfl rfl ?_))
 refine FW.cond rfl (fun h => ?_) (fun h => ?_)
 ·have hlt : i < l.length := by simpa using h
  clear h
  have hCl : C.length = T.length := by rw [hC, Zm]
  have ho := hin _ (zp hlt)
  have hii := hi0 i hlt
  have hsame := fun h => ziu (l := l) (c := c) (T := T) (k := i) h
  have hset := fun j h1 h2 => zj0 (l := l) (c := c) (T := T) (k := i) (j := j) h1 hTn h2
  have hth := hthin i hlt
  have hTr := hTr i hlt
  have hvs := Zy (nth l i)
  have hir := fun h => Zu (l := l) (i := i) h
  have hid := fun h => Yg (l := l) (i := i) h
  rw [← hC] at hsame hset
  obtain ⟨o, hoe⟩ : ∃ o, nth l i = o := ⟨_, rfl⟩
  obtain ⟨q, hq⟩ : ∃ q, zR l i = q := ⟨_, rfl⟩
  rw [hq] at hii hir hid
  rw [hoe] at ho hsame hvs hth hTr hir hid
  simp only [hoe] at hset
  (repeat (first | refine FW.seq ?_ | refine FW.region ?_ | refine FW.block ?_ | refine FW.skip ?_ | refine zc.nil ?_ | refine za rfl rfl rfl ?_ | refine zb rfl rfl rfl ?_ | refine zt rfl rfl rfl (by first | (simp; omega) | (simp; done)) (by first | exact zd (by omega) | rfl) rfl rfl rfl rfl ?_ | refine zn rfl rfl rfl rfl rfl (by first | (simp; omega) | (simp; done)) (by first | exact zd (by omega) | rfl) rfl rfl rfl rfl ?_ | refine yL rfl rfl rfl (by decide) (by first | (simp; omega) | (simp; done)) (by first | exact zd (by omega) | rfl) rfl rfl rfl ?_ | refine zw rfl rfl rfl rfl rfl rfl (by first | (simp; omega) | (simp; done)) rfl rfl ?_ | refine yb rfl rfl rfl rfl rfl rfl rfl ?_ | refine zG rfl rfl rfl rfl rfl rfl rfl rfl rfl ?_ | refine zq rfl rfl rfl rfl rfl rfl (by decide) rfl rfl ?_ | refine yz rfl rfl rfl rfl ?_))
  rw [hoe]
  skip
  refine yy (fun h1 => ?_) (fun h1 => ?_)
  ·have h1' : o.key = c := by simpa using h1
   (repeat (first | refine zb rfl rfl rfl ?_ | refine zK rfl rfl rfl rfl ?_ | refine zq rfl rfl rfl rfl rfl rfl (by decide) rfl ⟨_, _, rfl, rfl, rfl⟩ ?_ | refine zn rfl rfl rfl rfl rfl (by simp; done) rfl rfl rfl rfl ⟨_, _, rfl, rfl, rfl⟩ ?_ | refine yz rfl rfl rfl ⟨_, _, rfl, rfl, rfl⟩ ?_))
   refine yy (fun h2 => ?_) (fun h2 => ?_)
   ·have h2' : o.k = 0 := by simpa using h2
    (repeat (first | refine zc.nil ?_ | refine zK rfl rfl rfl rfl ?_ | refine zt rfl rfl rfl (by simp; omega) (by first | exact zd (by omega) | rfl) rfl rfl rfl ⟨_, _, rfl, rfl, rfl⟩ ?_ | refine zb rfl rfl ⟨_, _, rfl, rfl, rfl⟩ ?_ | refine zw rfl rfl rfl rfl rfl rfl (by simp; omega) rfl ⟨_, _, rfl, rfl, rfl⟩ ?_))
    rw [hii]
    cases q with
    | true =>
     obtain ⟨j, hj, hjv⟩ := hTr h1' h2' (hir h2' rfl) (hth h1')
     have hset := hset j hj (yR.2 ⟨h2', hir h2' rfl, h1', hjv.symm⟩)
     have hcell : ZK o = Vy c o.res := by unfold ZK; rw [Xi h2', h1']
     have hmm := zhr (c := c) hj
     rw [hjv] at hmm
     rw [hcell] at hvs
     have hjC : j < C.length := by omega
     have hCl1 : C.length ≤ 301 := by omega
     obtain ⟨⟨b0, P0⟩, hP⟩ : ∃ P, nth C j = P := ⟨_, rfl⟩
     rw [hP] at hset
     have hPl : P0.length ≤ 1000000 := by
      have h3 := WN (l := l) (c := c) (k := i) hj
      rw [← hC, hP] at h3
      injection h3 with _ h3
      rw [h3, List.length_append]
      have h4 : (YL l c (nth T j).2.2 i).length ≤ i := by unfold YL; exact Nat.le_trans (List.length_filter_le _ _) (by simp)
      have h5 : (nth T j).2.1.length ≤ 1 := by
       rw [← hT] at hj ⊢
       rcases YH.1 (zp hj) with ⟨_, e⟩ | ⟨w, _, _, e⟩ <;> rw [e] <;> simp
      omega
     (repeat (first | refine FW.seq ?_ | refine FW.region ?_ | refine FW.condT rfl ?_ | refine zb rfl rfl rfl ?_ | refine zW rfl rfl rfl (by decide) rfl rfl (by simp; done) rfl rfl rfl rfl ?_))
     refine zH hvs (by repeat (first | exact zh.nil | refine zh.cons (by exact yf.plain rfl rfl) ?_)) rfl rfl ?_
     skip
     refine zdn Ws hTi (zaK hc ho.2.2.2.2.1) (.inl ⟨rfl, hmm⟩) rfl rfl (by decide) rfl rfl rfl rfl rfl rfl ?_
     (repeat (first | refine FW.region ?_ | refine zc.nil ?_ | refine za rfl rfl rfl ?_ | refine zb rfl rfl rfl ?_ | refine zC rfl rfl rfl rfl rfl rfl (by decide) rfl (by first | omega | (simp; omega)) rfl rfl ?_ | refine zq rfl rfl rfl rfl rfl rfl (by decide) rfl rfl ?_))
     refine zc.le (s' := ⟨[(90, .ptr 100 0 j 1), (86, .int .i64 (j : Int)), (85, .own 100 0 0 C.length), (11, .int .i64 (i : Int)), (0, .list 8 (l.map OpV.fv)), (2, .list 1 (ins.map bof)), (4, .eptr 1 [[.int .i64 c]] 0 0), (7, .omap 99 0), (8, .own 100 0 0 C.length), (59, .list 8 (l.map OpV.fv)), (60, .int .i64 l.length), (61, .int .i64 i)], (100, ⟨0, .hrow, 112, 2, (List.range C.length).map fun k => if k = j then [.bool (nth C j).ini, .own 150 0 0 (nth C j).ops.length] else xj C k⟩) :: (150, xh C j) :: [(99, ⟨0, .mapo, 67, 0, Zr c T⟩)] ++ (ZU 200 ++ Xp 1000 C.length fun k => if k = j then ⟨0, .own, 3, 1, []⟩ else xh C k)⟩) ?_ ?_
     ·unfold xh
      rw [hP]
      refine zdm rfl rfl rfl (ZF C.length j _ hjC) (by rw [if_pos rfl]; rfl) rfl rfl ?_
      (repeat (first | refine zb rfl rfl rfl ?_ | refine xa rfl rfl rfl rfl rfl rfl rfl rfl ?_ | refine xW rfl rfl (by first | exact (List.length_map _).symm | rfl | (simp; done) | omega | (simp; omega)) rfl rfl rfl (by decide) (by exact Wa.own rfl rfl (by decide) (by first | exact List.length_map _ | exact (List.length_map _).symm | exact List.length_replicate | rfl | (simp; done) | omega | (simp; omega))) (by first | omega | (simp; omega) | (simp; done)) (by first | omega | (simp; omega) | (simp; done)) rfl rfl rfl ?_ | refine zC rfl rfl rfl rfl rfl rfl (by decide) rfl (by first | omega | (simp; omega) | (simp; done)) rfl rfl ?_ | refine zq rfl rfl rfl rfl rfl rfl (by decide) rfl rfl ?_))
      refine zgb rfl (show _ = FV.own 94 (0 + 1) 0 (List.map yu P0 ++ [[FV.int .i64 (i : Int)]]).length from rfl) (.inr (.inl ⟨_, _, _, _, rfl, zV rfl (by decide)⟩)) rfl rfl rfl (ZF C.length j _ hjC) (by rw [if_pos rfl]; show 1 < 2; omega) rfl ?_
      (repeat (first | refine FW.region ?_ | refine zc.nil ?_ | refine zb rfl rfl rfl ?_ | refine zu rfl rfl (by omega) rfl rfl ?_))
      rw [WB]
      obtain ⟨C2, hC2⟩ : ∃ C2 : List ClV, C.set j ⟨b0, P0 ++ [i]⟩ = C2 := ⟨_, rfl⟩
      have hC2l : C2.length = C.length := by rw [← hC2, List.length_set]
      have hC2n : ∀ k, k < C.length → nth C2 k = if j = k then ⟨b0, P0 ++ [i]⟩ else nth C k := fun k hk => by rw [← hC2]; exact yQ hk
      have hC2j : nth C2 j = ⟨b0, P0 ++ [i]⟩ := by rw [hC2n j hjC, if_pos rfl]
      refine ⟨(i + 1, C2), ⟨by dsimp only; omega, by dsimp only; rw [hset]; exact hC2.symm⟩, by dsimp only; omega, ?_⟩
      dsimp only
      rw [hC2l]
      refine FLe.clPut C.length hC2l (by omega) [⟨99, some 99, 0, ⟨0, .mapo, 67, 0, Zr c T⟩⟩] 100 0 j 94 (0 + 1) (fun k => if k = j then [.bool b0, .own 94 (0 + 1) 0 (P0.length + 1)] else xj C k) (by repeat (first | exact Low.nil | exact Low.fam rfl (by unfold zf; omega) | refine Low.cons rfl ?_)) (by decide) (by decide) (by decide) ⟨rfl, rfl, by simp, by simp⟩ ?_ ?_ ?_ ?_ (.old rfl rfl rfl .nil) (by repeat (first | exact .nil | refine .cons (.plain rfl rfl rfl) ?_ | refine .cons (.own rfl (.head _) rfl rfl) ?_ | refine .cons (.omap rfl (.tail _ (.head _)) rfl) ?_))
      ·refine Eq.trans (b := (⟨0, .hrow, 112, 2, List.map (fun k => if k = j then (if j = j then [FV.bool b0, FV.own 150 0 0 P0.length] else xj C j).set (0 + 1) (.own 94 (0 + 1) 0 (List.map yu P0 ++ [[FV.int .i64 (i : Int)]]).length) else if k = j then [FV.bool b0, FV.own 150 0 0 P0.length] else xj C k) (List.range C.length)⟩ : zx)) rfl ?_
       refine congrArg (fun z => (⟨0, .hrow, 112, 2, z⟩ : zx)) (List.map_congr_left fun k _ => ?_)
       by_cases hk : k = j
       ·rw [if_pos hk, if_pos hk, if_pos rfl, List.length_append, List.length_map]; rfl
       ·rw [if_neg hk, if_neg hk, if_neg hk]
      ·intro k hk hne
       have hne' : ¬ j = k := fun e => hne e.symm
       refine ⟨?_, (yD (C := [(100, _), (94, _), (150, _), (93, _), (100, _), (150, _), (99, _)]) rfl (by decide) hk).trans ?_⟩
       ·rw [if_neg hne]; unfold xj; rw [hC2n k hk, if_neg hne']
       ·rw [if_neg hne]; unfold xh; rw [hC2n k hk, if_neg hne']
      ·rw [if_pos rfl, hC2j]; simp
      ·rw [hC2j]
       show (⟨_, _, _, _, _⟩ : zx) = _
       simp [yu]
     ·exact FLe.clOpen (C := C) (by omega) [⟨99, some 99, 0, ⟨0, .mapo, 67, 0, Zr c T⟩⟩] j hjC (by repeat (first | exact Low.nil | exact Low.fam rfl (by unfold zf; omega) | refine Low.cons rfl ?_)) ⟨rfl, rfl, by simp, by simp⟩ rfl (fun k hk => yD (C := [(12, _), (12, _), (100, _), (99, _)]) rfl (by decide) hk) (.old rfl rfl rfl .nil) (by repeat (first | exact .nil | refine .cons (.plain rfl rfl rfl) ?_ | refine .cons (.own rfl (.head _) rfl rfl) ?_ | refine .cons (.ptr rfl (.head _) rfl) ?_ | refine .cons (.omap rfl (.tail _ (.tail _ (.head _))) rfl) ?_))
    | false =>
     have hsame := hsame (fun v => by
      cases hx : VJ c v o with
      | false => rfl
      | true => have := hid (yR.1 hx).2.1; cases this)
     (repeat (first | refine FW.region ?_ | refine FW.skip ?_ | refine FW.condF rfl ?_ | refine zc.nil ?_ | refine zb rfl rfl rfl ?_ | refine zu rfl rfl (by omega) rfl rfl ?_))
     refine ⟨(i + 1, C), ⟨by dsimp only; omega, hsame.symm⟩, by dsimp only; omega, ?_⟩
     exact FLe.clKeep (C := C) (by omega) [⟨99, some 99, 0, ⟨0, .mapo, 67, 0, Zr c T⟩⟩] 100 0 (by repeat (first | exact Low.nil | exact Low.fam rfl (by unfold zf; omega) | refine Low.cons rfl ?_)) (by decide) ⟨rfl, rfl, by simp, by simp⟩ rfl (fun j hj => yD (C := [(12, _), (12, _), (100, _), (99, _)]) rfl (by decide) hj) (.old rfl rfl rfl .nil) (by repeat (first | exact .nil | refine .cons (.plain rfl rfl rfl) ?_ | refine .cons (.own rfl (.head _) rfl rfl) ?_ | refine .cons (.omap rfl (.tail _ (.head _)) rfl) ?_))
   ·have hsame := hsame (fun v => by
     cases hx : VJ c v o with
     | false => rfl
     | true => have := (yR.1 hx).1; rw [decide_eq_true this] at h2; cases h2)
    (repeat (first | refine FW.region ?_ | refine FW.skip ?_ | refine FW.condF rfl ?_ | refine zc.nil ?_ | refine zb rfl rfl rfl ?_ | refine zL rfl rfl rfl rfl ?_ | refine zu rfl rfl (by omega) rfl rfl ?_ | refine ye rfl rfl ⟨_, _, rfl, rfl, rfl⟩ ?_))
    refine ⟨(i + 1, C), ⟨by dsimp only; omega, hsame.symm⟩, by dsimp only; omega, ?_⟩
    exact FLe.clKeep (C := C) (by omega) [⟨99, some 99, 0, ⟨0, .mapo, 67, 0, Zr c T⟩⟩] 100 0 (by repeat (first | exact Low.nil | exact Low.fam rfl (by unfold zf; omega) | refine Low.cons rfl ?_)) (by decide) ⟨rfl, rfl, by simp, by simp⟩ rfl (fun j hj => yD (C := [(12, _), (12, _), (100, _), (99, _)]) rfl (by decide) hj) (.old rfl rfl rfl .nil) (by repeat (first | exact .nil | refine .cons (.plain rfl rfl rfl) ?_ | refine .cons (.own rfl (.head _) rfl rfl) ?_ | refine .cons (.omap rfl (.tail _ (.head _)) rfl) ?_))
  ·have hsame := hsame (fun v => by
    cases hx : VJ c v o with
    | false => rfl
    | true => have := (yR.1 hx).2.2.1; rw [decide_eq_true this] at h1; cases h1)
   (repeat (first | refine FW.region ?_ | refine FW.skip ?_ | refine FW.condF rfl ?_ | refine zc.nil ?_ | refine zb rfl rfl rfl ?_ | refine zL rfl rfl rfl rfl ?_ | refine zu rfl rfl (by omega) rfl rfl ?_ | refine ye rfl rfl ⟨_, _, rfl, rfl, rfl⟩ ?_))
   refine ⟨(i + 1, C), ⟨by dsimp only; omega, hsame.symm⟩, by dsimp only; omega, ?_⟩
   exact FLe.clKeep (C := C) (by omega) [⟨99, some 99, 0, ⟨0, .mapo, 67, 0, Zr c T⟩⟩] 100 0 (by repeat (first | exact Low.nil | exact Low.fam rfl (by unfold zf; omega) | refine Low.cons rfl ?_)) (by decide) ⟨rfl, rfl, by simp, by simp⟩ rfl (fun j hj => yD (C := [(12, _), (12, _), (100, _), (99, _)]) rfl (by decide) hj) (.old rfl rfl rfl .nil) (by repeat (first | exact .nil | refine .cons (.plain rfl rfl rfl) ?_ | refine .cons (.own rfl (.head _) rfl rfl) ?_ | refine .cons (.omap rfl (.tail _ (.head _)) rfl) ?_))
 obtain rfl : i = l.length := by simp at h; omega
 clear h
 rw [← hC]
 have hCl : C.length ≤ 301 := by rw [hC, Zm]; omega
 (repeat (first | refine FW.seq ?_ | refine FW.region ?_ | refine FW.exit ?_))
 refine zb rfl rfl rfl ?_; refine za rfl rfl rfl ?_
 refine zc.le ?_ ((FLe.deepP 100 1000 C.length 1 (fun j => [.bool (nth C j).ini]) (fun j _ => ⟨rfl, rfl⟩) (w := 0) (E2 := 112) (E := 3) (sz := 1) (fun _ => 0) (fun j => (nth C j).ops.map yu) ?_ (fun j hj => yD (C := [(100, _), (99, _)]) rfl (by decide) hj) (by decide)).trans (FLe.share 6 rfl rfl (by simp)))
 ·(repeat (first | refine zc.nil ?_))
  refine FW.ret ⟨.inl rfl, .sh (.cons (.tmp 6 rfl rfl) .nil) ?_ rfl⟩
  show FV.list 2 _ = FV.list 2 _
  refine congrArg (FV.list 2) ?_
  rw [show C.map ClV.fv = ((List.range C.length).map (nth C)).map ClV.fv by rw [zaN], List.map_map]
  rfl
 ·refine Eq.trans (b := (⟨0, .hrow, 112, 2, (List.range C.length).map (xj C)⟩ : zx)) rfl ?_
  refine congrArg (fun z => (⟨0, .hrow, 112, 2, z⟩ : zx)) (List.map_congr_left fun j _ => ?_)
  rw [List.length_map]; rfl
end Go.Proofs.Ytbeebjdnapkhhaa
