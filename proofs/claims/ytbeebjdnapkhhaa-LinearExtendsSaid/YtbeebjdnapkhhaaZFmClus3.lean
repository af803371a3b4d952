/-
  linear.clusters: the walk.
-/
import Derived.Test.YtbeebjdnapkhhaaZFmClus2
namespace Go.Proofs.Ytbeebjdnapkhhaa
set_option linter.unusedVariables false
open Go.RowKit

theorem zax {α : Type} [Inhabited α] (l : List α) : (List.range l.length).map (nth l) = l := by
 apply List.ext_getElem
 ·simp
 ·intro i h1 h2
  rw [List.getElem_map, List.getElem_range, zi h2]
theorem zgd (C : List ClV) : (List.map (xg C) (List.range C.length)).length = C.length := by simp
set_option maxHeartbeats 4000000 in
theorem XU (l : List OpV) (c : Int) (ins : List Bool) (hl : l.length ≤ 300) (hin : ∀ o ∈ l, zdm o) (hc : I64 c) (D : yq l) (hil : ins.length = l.length) (hi0 : ∀ i, i < l.length → nth ins i = zW l i) (hthin : ∀ i, i < l.length → (nth l i).key = c → zfP l i = false) :
  yg Try.prog 57 [.list 8 (l.map OpV.fv), .int .i64 c, .list 1 (ins.map bof)] .sh (.list 2 ((Zf l c).map ClV.fv)) := by
 refine yg.of_body (c := (Zy Try.prog zG zA 99)) ⟨Try.func57, rfl, Try.ntmps57, by kernel_rfl⟩ (by simp [FV.hand]) (by exact Nat.le_of_ble_eq_true rfl) rfl ?_
 change FW _ _ _ ⟨[(0, .list 8 (l.map OpV.fv)), (1, .int .i64 c), (2, .list 1 (ins.map bof))], []⟩
 (repeat (first | refine FW.seq ?_ | refine FW.region ?_ | refine zc.nil ?_ | refine zbK rfl rfl rfl rfl rfl ?_ | refine za rfl rfl rfl ?_ | refine WR rfl rfl rfl ?_ | refine zb rfl rfl rfl ?_))
 refine zc.le ?_ (FLe.shareP 4 rfl rfl)
 (repeat (first | refine WQ rfl rfl rfl rfl ?_))
 refine zJ (zaj l 71 [.eptr 1 [[.int .i64 c]] 0 0] (Vt c 0) (by omega) (zai c)) (by repeat (first | exact zj.nil | refine zj.cons (by exact yu.plain rfl rfl) ?_)) rfl rfl ?_
 (repeat (first | refine zc.nil ?_))
 refine FW.join (fun C0 : List ClV => ⟨[(0, .list 8 (l.map OpV.fv)), (2, .list 1 (ins.map bof)), (4, .eptr 1 [[.int .i64 c]] 0 0), (7, .omap 99 0), (8, .own 100 0 0 C0.length)], (100, ⟨0, .hrow, 112, 2, (List.range C0.length).map (xg C0)⟩) :: [(99, ⟨0, .mapo, 67, 0, Zi c (Yg l c 0)⟩)] ++ (ZH 200 ++ Xd 1000 C0.length (xf C0))⟩) (fun C0 => C0 = clT l c 0 (Yg l c 0)) ?_ ?_
 ·refine FW.cond rfl (fun h => ?_) (fun h => ?_)
  ·have hT : Yg l c 0 = [(true, [], 0)] := by unfold Yg zjy; rw [if_pos h]; rfl
   rw [hT]
   (repeat (first | refine FW.seq ?_ | refine FW.region ?_ | refine zb rfl rfl rfl ?_ | refine zB rfl rfl rfl (by simp; done) rfl rfl rfl rfl rfl ?_ | refine yI rfl rfl rfl rfl ?_ | refine yP.nil ?_ | refine yP.one rfl rfl rfl rfl rfl ?_))
   refine Wp We (es := []) (fun row hr => by cases hr) (zau hc ⟨by decide, by decide⟩) (.inr ⟨fun row hr => (by cases hr), rfl⟩) rfl rfl rfl rfl rfl rfl rfl ?_
   (repeat (first | refine FW.region ?_ | refine zc.nil ?_ | refine za rfl rfl rfl ?_ | refine zb rfl rfl rfl ?_ | refine yI rfl rfl rfl rfl ?_ | refine yT rfl rfl rfl rfl rfl rfl rfl rfl rfl rfl ?_ | refine zdX rfl rfl rfl rfl (by decide) (by exact XB.own rfl rfl (by decide) (by first | exact List.length_map _ | exact (List.length_map _).symm | exact List.length_replicate | rfl | (simp; done) | omega | (simp; omega))) (by simp; done) (by simp; done) rfl rfl rfl ?_ | refine yP.nil ?_ | refine yP.one rfl rfl rfl rfl rfl ?_))
   refine ⟨rfl, [⟨true, []⟩], rfl, ?_⟩
   exact (FLe.toH (i := 24) rfl).trans (FLe.convN [⟨100, some 24, 0 + 1, ⟨0, .hrow, 112, 2, (List.range 1).map (xg [⟨true, []⟩])⟩⟩, ⟨99, some 14, 0 + 1, ⟨0, .mapo, 67, 0, Zi c [(true, [], 0)]⟩⟩] 1000 1 (xf [⟨true, []⟩]) rfl (by unfold zf; omega) rfl (by simp) (by simp) (by repeat (first | exact Low.nil | exact Low.fam rfl (by unfold zf; omega) | refine Low.cons rfl ?_))
    (fun j hj => ⟨rfl, by obtain rfl : j = 0 := by omega
                          rfl⟩) (.oldK rfl (zdi.of (n := 1) (c := fun _ => [.bool true, .nil]) (fun j _ => rfl) fun j hj => (by
     obtain rfl : j = 0 := by omega
     exact .cons (.plain rfl rfl) (.cons (.nil (List.mem_append_right _ (Yl hj)) rfl) .nil))) (.old rfl rfl rfl .nil)) (by repeat (first | exact .nil | refine .cons (.plain rfl rfl rfl) ?_ | refine .cons (.own rfl (.head _) rfl rfl) ?_ | refine .cons (.omap rfl (.tail _ (.head _)) rfl) ?_)))
  ·have hT : Yg l c 0 = [] := by unfold Yg zjy; rw [if_neg (by rw [h]; decide)]; rfl
   rw [hT]
   (repeat (first | refine FW.skip ?_))
   refine ⟨rfl, [], rfl, ?_⟩
   refine FLe.trans (?_ : FLe _ ⟨[(0, .list 8 (l.map OpV.fv)), (2, .list 1 (ins.map bof)), (4, .eptr 1 [[.int .i64 c]] 0 0), (7, .omap 99 0), (8, .own 98 0 0 0)], [(98, ⟨0, .own, 112, 2, []⟩), (99, ⟨0, .mapo, 67, 0, []⟩)]⟩) ?_
   ·exact (FLe.conv [⟨98, none, 0, ⟨0, .own, 112, 2, []⟩⟩, ⟨99, some 14, 0 + 1, ⟨0, .mapo, 67, 0, []⟩⟩] (by simp) (by simp) rfl (by repeat (first | exact .nil | refine .low rfl ?_ | refine .same rfl ?_ | refine .bump (Nat.lt_succ_self _) ?_)) (by repeat (first | exact .nil | refine .old rfl (by decide) rfl ?_ | refine .new ?_)) (by repeat (first | exact .nil | refine .cons (.plain rfl rfl rfl) ?_ | refine .cons (.nil rfl (.head _) rfl) ?_ | refine .cons (.omap rfl (.tail _ (.head _)) rfl) ?_)))
   exact (FLe.toH (i := 98) rfl).trans (FLe.convN [⟨100, some 98, 0, ⟨0, .hrow, 112, 2, (List.range 0).map (xg [])⟩⟩, ⟨99, some 99, 0, ⟨0, .mapo, 67, 0, Zi c []⟩⟩] 1000 0 (xf []) rfl (by unfold zf; omega) rfl (by simp) (by simp) (by repeat (first | exact Low.nil | exact Low.fam rfl (by unfold zf; omega) | refine Low.cons rfl ?_))
    (fun j hj => by omega) (.oldK rfl zdi.nil (.old rfl rfl rfl .nil)) (by repeat (first | exact .nil | refine .cons (.plain rfl rfl rfl) ?_ | refine .cons (.own rfl (.head _) rfl rfl) ?_ | refine .cons (.omap rfl (.tail _ (.head _)) rfl) ?_)))
 rintro C0 hC0
 (repeat (first | refine FW.seq ?_ | refine FW.region ?_ | refine FW.block ?_ | refine zc.nil ?_ | refine zb rfl rfl rfl ?_ | refine zm rfl rfl (by exact List.length_map _) rfl rfl ?_))
 refine FW.loop (fun p : Nat × List ClV => ⟨[(0, .list 8 (l.map OpV.fv)), (2, .list 1 (ins.map bof)), (4, .eptr 1 [[.int .i64 c]] 0 0), (7, .omap 99 0), (8, .own 100 0 0 p.2.length), (25, .list 8 (l.map OpV.fv)), (26, .int .i64 l.length), (27, .int .i64 p.1)], (100, ⟨0, .hrow, 112, 2, (List.range p.2.length).map (xg p.2)⟩) :: [(99, ⟨0, .mapo, 67, 0, Zi c (Yg l c p.1)⟩)] ++ (ZH 200 ++ Xd 1000 p.2.length (xf p.2))⟩) (fun p => p.1 ≤ l.length ∧ p.2 = clT l c 0 (Yg l c p.1)) (fun p => l.length - p.1) (0, C0) ⟨Nat.zero_le _, hC0⟩ ?_ ?_
 ·have hCl : C0.length ≤ 1000 := by rw [hC0, Zd]; have := Vu (l := l) (c := c) (k := 0); omega
  refine FLe.clKeep (C := C0) hCl [⟨99, some 99, 0, ⟨0, .mapo, 67, 0, Zi c (Yg l c 0)⟩⟩] 100 0 (by repeat (first | exact Low.nil | exact Low.fam rfl (by unfold zf; omega) | refine Low.cons rfl ?_)) (by decide) ⟨rfl, rfl, by simp, by simp⟩ rfl (fun j hj => yy (C := [(100, _), (99, _)]) rfl (by decide) hj) (.old rfl rfl rfl .nil) (by repeat (first | exact .nil | refine .cons (.plain rfl rfl rfl) ?_ | refine .cons (.own rfl (.head _) rfl rfl) ?_ | refine .cons (.omap rfl (.tail _ (.head _)) rfl) ?_))
 rintro ⟨i, C⟩ ⟨hi, hC⟩
 dsimp only at hi hC ⊢
 (repeat (first | refine FW.seq ?_ | refine FW.region ?_ | refine zc.nil ?_ | refine zH rfl rfl rfl rfl ?_))
 refine FW.cond rfl (fun h => ?_) (fun h => ?_)
 ·have hlt : i < l.length := by simpa using h
  clear h
  have hCl : C.length < 1000 := by rw [hC, Zd]; have := Vu (l := l) (c := c) (k := i); omega
  have ho := hin _ (zn hlt)
  have hii := hi0 i hlt
  have hno := fun h => zjT (l := l) (c := c) (k := i) h
  have hyes := fun h => ziT (l := l) (c := c) (k := i) h
  have hwr : wrB l c i = (decide ((nth l i).key = c) && (decide ((nth l i).k = 1) && zW l i)) := rfl
  have hvs := Zn (nth l i)
  obtain ⟨o, hoe⟩ : ∃ o, nth l i = o := ⟨_, rfl⟩
  obtain ⟨q, hq⟩ : ∃ q, zW l i = q := ⟨_, rfl⟩
  rw [hoe, hq] at hwr
  rw [hoe] at ho hyes hvs
  rw [hq] at hii
  (repeat (first | refine FW.seq ?_ | refine FW.region ?_ | refine FW.block ?_ | refine FW.skip ?_ | refine zc.nil ?_ | refine za rfl rfl rfl ?_ | refine zb rfl rfl rfl ?_ | refine zB rfl rfl rfl (by first | (simp; omega) | (simp; done)) (by first | exact zd (by omega) | rfl) rfl rfl rfl rfl ?_ | refine zq rfl rfl rfl rfl rfl (by first | (simp; omega) | (simp; done)) (by first | exact zd (by omega) | rfl) rfl rfl rfl rfl ?_ | refine yV rfl rfl rfl (by decide) (by first | (simp; omega) | (simp; done)) (by first | exact zd (by omega) | rfl) rfl rfl rfl ?_ | refine zD rfl rfl rfl rfl rfl rfl (by first | (simp; omega) | (simp; done)) rfl rfl ?_ | refine zY rfl rfl rfl rfl rfl rfl rfl ?_ | refine zC rfl rfl rfl rfl rfl rfl rfl rfl rfl ?_ | refine zt rfl rfl rfl rfl rfl rfl (by decide) rfl rfl ?_ | refine yU rfl rfl rfl rfl ?_))
  rw [hoe]
  skip
  refine xd (fun h1 => ?_) (fun h1 => ?_)
  ·rw [h1, Bool.true_and] at hwr
   (repeat (first | refine zb rfl rfl rfl ?_ | refine zM rfl rfl rfl rfl ?_ | refine zt rfl rfl rfl rfl rfl rfl (by decide) rfl ⟨_, _, rfl, rfl, rfl⟩ ?_ | refine zq rfl rfl rfl rfl rfl (by simp; done) rfl rfl rfl rfl ⟨_, _, rfl, rfl, rfl⟩ ?_ | refine yU rfl rfl rfl ⟨_, _, rfl, rfl, rfl⟩ ?_))
   refine xd (fun h2 => ?_) (fun h2 => ?_)
   ·rw [h2, Bool.true_and] at hwr
    (repeat (first | refine zc.nil ?_ | refine zM rfl rfl rfl rfl ?_ | refine zB rfl rfl rfl (by simp; omega) (by first | exact zd (by omega) | rfl) rfl rfl rfl ⟨_, _, rfl, rfl, rfl⟩ ?_ | refine zb rfl rfl ⟨_, _, rfl, rfl, rfl⟩ ?_ | refine zD rfl rfl rfl rfl rfl rfl (by simp; omega) rfl ⟨_, _, rfl, rfl, rfl⟩ ?_))
    rw [hii]
    cases q with
    | true =>
     have hyes := hyes hwr
     have h1' : o.key = c := by simpa using h1
     have h2' : o.k = 1 := by simpa using h2
     have hcell : Zx o = Vk c o.arg := by unfold Zx; rw [Yc h2', h1']
     rw [hcell] at hvs
     have hnone : ∀ p ∈ Yg l c i, p.2.2 ≠ o.arg := fun p hp => by
      rcases Yv.1 hp with ⟨_, rfl⟩ | ⟨w, hw, hwb, rfl⟩
      ·have := D.arg hlt (by rw [hoe]; exact h2')
       rw [hoe] at this
       exact fun e => this e.symm
      ·rw [YZ] at hwb
       intro e
       have := D.uniq (show w < l.length by omega) hlt hwb.2.1 (by rw [hoe]; exact h2') (by rw [hwb.1, hoe, h1']) (by rw [hoe]; exact e)
       omega
     have hCT : C.length = (Yg l c i).length := by rw [hC, Zd]
     have hC2 : clT l c 0 (Yg l c (i + 1)) = C ++ [⟨false, [i]⟩] := by rw [hyes, hC, zee, zee, List.map_append]; rfl
     have hma := zgX (c := c) (Yg l c i) (false, [i], o.arg)
     rw [← hCT, ← hyes] at hma
     have hmk := zcO hc (zhE hin (c := c) (show i ≤ l.length by omega))
     have hmn := zfn (c := c) hnone
     clear hno
     (repeat (first | refine FW.seq ?_ | refine FW.region ?_ | refine FW.condT rfl ?_ | refine zb rfl rfl rfl ?_ | refine zS rfl rfl rfl (by decide) rfl rfl (by simp; done) rfl rfl rfl rfl ?_))
     refine zJ hvs (by repeat (first | exact zj.nil | refine zj.cons (by exact yu.plain rfl rfl) ?_)) rfl rfl ?_
     (repeat (first | refine zb rfl rfl rfl ?_ | refine yf rfl rfl rfl (by decide) rfl rfl ?_))
     refine Wp We hmk (zau hc ho.2.2.2.1) (.inr ⟨hmn, rfl⟩) rfl rfl rfl rfl rfl rfl rfl ?_
     (repeat (first | refine FW.region ?_ | refine zc.nil ?_ | refine zb rfl rfl rfl ?_ | refine yz rfl rfl rfl rfl rfl rfl rfl rfl ?_))
     refine zhi rfl rfl rfl rfl rfl rfl rfl (.inr (.inl ⟨_, _, _, _, rfl, zR rfl (by decide)⟩)) rfl rfl rfl ?_
     refine zfG rfl rfl rfl rfl rfl rfl rfl (fun f hf => by
      rcases List.mem_cons.1 hf with rfl | hf
      ·exact .inl rfl
      ·rw [List.mem_singleton.1 hf]; exact .inr (.inl ⟨_, _, _, _, rfl, zR rfl (by decide)⟩)) rfl rfl rfl ?_
     refine ziC rfl rfl (zgd C).symm rfl rfl rfl rfl rfl rfl rfl (by decide) (fun f hf => by
      rcases List.mem_cons.1 hf with rfl | hf
      ·exact .inl rfl
      ·rw [List.mem_singleton.1 hf]; exact .inr (.inl ⟨_, _, _, _, rfl, zR rfl (by decide)⟩)) (by omega) (by omega) rfl rfl rfl ?_
     (repeat (first | refine FW.region ?_ | refine zc.nil ?_ | refine za rfl rfl rfl ?_ | refine zb rfl rfl rfl ?_ | refine zu rfl rfl (by omega) rfl rfl ?_))
     refine ⟨(i + 1, C ++ [⟨false, [i]⟩]), ⟨by dsimp only; omega, hC2.symm⟩, by dsimp only; omega, ?_⟩
     have hlen : (C ++ [(⟨false, [i]⟩ : ClV)]).length = C.length + 1 := by simp
     dsimp only
     rw [hma, hlen]
     refine FLe.clPut (C.length + 1) hlen (by omega) [⟨99, some 99, 0, ⟨0, .mapo, 67, 0, Zi c (Yg l c i) ++ [[Vk c o.arg, .int .i64 (C.length : Int)]]⟩⟩] 57 (0 + 1) C.length 54 (0 + 1) (fun j => if j = C.length then [.bool false, .own 54 (0 + 1) 0 1] else xg C j) (by repeat (first | exact Low.nil | exact Low.fam rfl (by unfold zf; omega) | refine Low.cons rfl ?_)) (by decide) (by decide) (by decide) ⟨rfl, rfl, by simp, by simp⟩
      (Eq.trans (b := (⟨0 + 1, .hrow, 112, 2, List.map (xg C) (List.range C.length) ++ [[.bool false, .own 54 (0 + 1) 0 1]]⟩ : zp)) rfl (by
       refine congrArg (fun z => (⟨0 + 1, .hrow, 112, 2, z⟩ : zp)) ?_
       rw [List.range_succ, List.map_append]
       rw [show List.map (fun j => if j = C.length then [FV.bool false, .own 54 (0 + 1) 0 1] else xg C j) (List.range C.length) = List.map (xg C) (List.range C.length) from List.map_congr_left fun j hj => by rw [if_neg (by have := List.mem_range.1 hj; omega)]]
       simp))
      (fun j hj hne => by
       have hj' : j < C.length := by omega
       refine ⟨?_, (yy (C := [(57, _), (100, _), (56, _), (54, _), (99, _), (10, _), (10, _), (100, _), (99, _)]) rfl (by decide) hj').trans ?_⟩
       ·rw [if_neg hne]; unfold xg; rw [zbB hj']
       ·unfold xf; rw [zbB hj'])
      (by rw [if_pos rfl, zbC]; rfl) (by rw [zbC]; rfl) (.old rfl rfl rfl .nil) (by repeat (first | exact .nil | refine .cons (.plain rfl rfl rfl) ?_ | refine .cons (.own rfl (.head _) rfl rfl) ?_ | refine .cons (.omap rfl (.tail _ (.head _)) rfl) ?_))
    | false =>
     have hno := hno hwr
     (repeat (first | refine FW.region ?_ | refine FW.skip ?_ | refine FW.condF rfl ?_ | refine zc.nil ?_ | refine zb rfl rfl rfl ?_ | refine zu rfl rfl (by omega) rfl rfl ?_))
     refine ⟨(i + 1, C), ⟨by dsimp only; omega, by dsimp only; rw [hno]; exact hC⟩, by dsimp only; omega, ?_⟩
     dsimp only
     rw [hno]
     exact FLe.clKeep (C := C) (by omega) [⟨99, some 99, 0, ⟨0, .mapo, 67, 0, Zi c (Yg l c i)⟩⟩] 100 0 (by repeat (first | exact Low.nil | exact Low.fam rfl (by unfold zf; omega) | refine Low.cons rfl ?_)) (by decide) ⟨rfl, rfl, by simp, by simp⟩ rfl (fun j hj => yy (C := [(10, _), (10, _), (100, _), (99, _)]) rfl (by decide) hj) (.old rfl rfl rfl .nil) (by repeat (first | exact .nil | refine .cons (.plain rfl rfl rfl) ?_ | refine .cons (.own rfl (.head _) rfl rfl) ?_ | refine .cons (.omap rfl (.tail _ (.head _)) rfl) ?_))
   ·rw [h2, Bool.false_and] at hwr
    have hno := hno hwr
    (repeat (first | refine FW.region ?_ | refine FW.skip ?_ | refine FW.condF rfl ?_ | refine zc.nil ?_ | refine zb rfl rfl rfl ?_ | refine zP rfl rfl rfl rfl ?_ | refine zu rfl rfl (by omega) rfl rfl ?_ | refine yA rfl rfl ⟨_, _, rfl, rfl, rfl⟩ ?_))
    refine ⟨(i + 1, C), ⟨by dsimp only; omega, by dsimp only; rw [hno]; exact hC⟩, by dsimp only; omega, ?_⟩
    dsimp only
    rw [hno]
    exact FLe.clKeep (C := C) (by omega) [⟨99, some 99, 0, ⟨0, .mapo, 67, 0, Zi c (Yg l c i)⟩⟩] 100 0 (by repeat (first | exact Low.nil | exact Low.fam rfl (by unfold zf; omega) | refine Low.cons rfl ?_)) (by decide) ⟨rfl, rfl, by simp, by simp⟩ rfl (fun j hj => yy (C := [(10, _), (10, _), (100, _), (99, _)]) rfl (by decide) hj) (.old rfl rfl rfl .nil) (by repeat (first | exact .nil | refine .cons (.plain rfl rfl rfl) ?_ | refine .cons (.own rfl (.head _) rfl rfl) ?_ | refine .cons (.omap rfl (.tail _ (.head _)) rfl) ?_))
  ·rw [h1, Bool.false_and] at hwr
   have hno := hno hwr
   (repeat (first | refine FW.region ?_ | refine FW.skip ?_ | refine FW.condF rfl ?_ | refine zc.nil ?_ | refine zb rfl rfl rfl ?_ | refine zP rfl rfl rfl rfl ?_ | refine zu rfl rfl (by omega) rfl rfl ?_ | refine yA rfl rfl ⟨_, _, rfl, rfl, rfl⟩ ?_))
   refine ⟨(i + 1, C), ⟨by dsimp only; omega, by dsimp only; rw [hno]; exact hC⟩, by dsimp only; omega, ?_⟩
   dsimp only
   rw [hno]
   exact FLe.clKeep (C := C) (by omega) [⟨99, some 99, 0, ⟨0, .mapo, 67, 0, Zi c (Yg l c i)⟩⟩] 100 0 (by repeat (first | exact Low.nil | exact Low.fam rfl (by unfold zf; omega) | refine Low.cons rfl ?_)) (by decide) ⟨rfl, rfl, by simp, by simp⟩ rfl (fun j hj => yy (C := [(10, _), (10, _), (100, _), (99, _)]) rfl (by decide) hj) (.old rfl rfl rfl .nil) (by repeat (first | exact .nil | refine .cons (.plain rfl rfl rfl) ?_ | refine .cons (.own rfl (.head _) rfl rfl) ?_ | refine .cons (.omap rfl (.tail _ (.head _)) rfl) ?_))
 obtain rfl : i = l.length := by simp at h; omega
 clear h
 (repeat (first | refine FW.seq ?_ | refine FW.region ?_ | refine FW.block ?_ | refine FW.exit ?_ | refine zc.nil ?_ | refine zb rfl rfl rfl ?_ | refine zm rfl rfl (by exact List.length_map _) rfl rfl ?_))
 obtain ⟨T, hT⟩ : ∃ T, Yg l c l.length = T := ⟨_, rfl⟩
 have hTl := Vu (l := l) (c := c) (k := l.length)
 have hTn := zde (c := c) D (Nat.le_refl _)
 have hTi := zcO hc (zhE hin (c := c) (Nat.le_refl _))
 have hTr := fun r h1 h2 h3 h4 h5 => zdd (c := c) (r := r) D h1 h2 h3 h4 h5
 have hcl : Zf l c = clT l c l.length T := by unfold Zf; rw [hT]
 rw [hT] at hC hTl hTn hTi hTr ⊢
 rw [hcl]
 refine FW.loop (fun p : Nat × List ClV => ⟨[(0, .list 8 (l.map OpV.fv)), (2, .list 1 (ins.map bof)), (4, .eptr 1 [[.int .i64 c]] 0 0), (7, .omap 99 0), (8, .own 100 0 0 p.2.length), (59, .list 8 (l.map OpV.fv)), (60, .int .i64 l.length), (61, .int .i64 p.1)], (100, ⟨0, .hrow, 112, 2, (List.range p.2.length).map (xg p.2)⟩) :: [(99, ⟨0, .mapo, 67, 0, Zi c T⟩)] ++ (ZH 200 ++ Xd 1000 p.2.length (xf p.2))⟩) (fun p => p.1 ≤ l.length ∧ p.2 = clT l c p.1 T) (fun p => l.length - p.1) (0, C) ⟨Nat.zero_le _, hC⟩ ?_ ?_
 ·have hCl : C.length ≤ 1000 := by rw [hC, Zd]; omega
  refine FLe.clKeep (C := C) hCl [⟨99, some 99, 0, ⟨0, .mapo, 67, 0, Zi c T⟩⟩] 100 0 (by repeat (first | exact Low.nil | exact Low.fam rfl (by unfold zf; omega) | refine Low.cons rfl ?_)) (by decide) ⟨rfl, rfl, by simp, by simp⟩ rfl (fun j hj => yy (C := [(100, _), (99, _)]) rfl (by decide) hj) (.old rfl rfl rfl .nil) (by repeat (first | exact .nil | refine .cons (.plain rfl rfl rfl) ?_ | refine .cons (.own rfl (.head _) rfl rfl) ?_ | refine .cons (.omap rfl (.tail _ (.head _)) rfl) ?_))
 rintro ⟨i, C⟩ ⟨hi, hC⟩
 dsimp only at hi hC ⊢
 (repeat (first | refine FW.seq ?_ | refine FW.region ?_ | refine zc.nil ?_ | refine zH rfl rfl rfl rfl ?_))
 refine FW.cond rfl (fun h => ?_) (fun h => ?_)
 ·have hlt : i < l.length := by simpa using h
  clear h
  have hCl : C.length = T.length := by rw [hC, Zd]
  have ho := hin _ (zn hlt)
  have hii := hi0 i hlt
  have hsame := fun h => zhW (l := l) (c := c) (T := T) (k := i) h
  have hset := fun j h1 h2 => zjo (l := l) (c := c) (T := T) (k := i) (j := j) h1 hTn h2
  have hth := hthin i hlt
  have hTr := hTr i hlt
  have hvs := Zn (nth l i)
  have hir := fun h => ZS (l := l) (i := i) h
  have hid := fun h => ZR (l := l) (i := i) h
  rw [← hC] at hsame hset
  obtain ⟨o, hoe⟩ : ∃ o, nth l i = o := ⟨_, rfl⟩
  obtain ⟨q, hq⟩ : ∃ q, zW l i = q := ⟨_, rfl⟩
  rw [hq] at hii hir hid
  rw [hoe] at ho hsame hvs hth hTr hir hid
  simp only [hoe] at hset
  (repeat (first | refine FW.seq ?_ | refine FW.region ?_ | refine FW.block ?_ | refine FW.skip ?_ | refine zc.nil ?_ | refine za rfl rfl rfl ?_ | refine zb rfl rfl rfl ?_ | refine zB rfl rfl rfl (by first | (simp; omega) | (simp; done)) (by first | exact zd (by omega) | rfl) rfl rfl rfl rfl ?_ | refine zq rfl rfl rfl rfl rfl (by first | (simp; omega) | (simp; done)) (by first | exact zd (by omega) | rfl) rfl rfl rfl rfl ?_ | refine yV rfl rfl rfl (by decide) (by first | (simp; omega) | (simp; done)) (by first | exact zd (by omega) | rfl) rfl rfl rfl ?_ | refine zD rfl rfl rfl rfl rfl rfl (by first | (simp; omega) | (simp; done)) rfl rfl ?_ | refine zY rfl rfl rfl rfl rfl rfl rfl ?_ | refine zC rfl rfl rfl rfl rfl rfl rfl rfl rfl ?_ | refine zt rfl rfl rfl rfl rfl rfl (by decide) rfl rfl ?_ | refine yU rfl rfl rfl rfl ?_))
  rw [hoe]
  skip
  refine xd (fun h1 => ?_) (fun h1 => ?_)
  ·have h1' : o.key = c := by simpa using h1
   (repeat (first | refine zb rfl rfl rfl ?_ | refine zM rfl rfl rfl rfl ?_ | refine zt rfl rfl rfl rfl rfl rfl (by decide) rfl ⟨_, _, rfl, rfl, rfl⟩ ?_ | refine zq rfl rfl rfl rfl rfl (by simp; done) rfl rfl rfl rfl ⟨_, _, rfl, rfl, rfl⟩ ?_ | refine yU rfl rfl rfl ⟨_, _, rfl, rfl, rfl⟩ ?_))
   refine xd (fun h2 => ?_) (fun h2 => ?_)
   ·have h2' : o.k = 0 := by simpa using h2
    (repeat (first | refine zc.nil ?_ | refine zM rfl rfl rfl rfl ?_ | refine zB rfl rfl rfl (by simp; omega) (by first | exact zd (by omega) | rfl) rfl rfl rfl ⟨_, _, rfl, rfl, rfl⟩ ?_ | refine zb rfl rfl ⟨_, _, rfl, rfl, rfl⟩ ?_ | refine zD rfl rfl rfl rfl rfl rfl (by simp; omega) rfl ⟨_, _, rfl, rfl, rfl⟩ ?_))
    rw [hii]
    cases q with
    | true =>
     obtain ⟨j, hj, hjv⟩ := hTr h1' h2' (hir h2' rfl) (hth h1')
     have hset := hset j hj (yO.2 ⟨h2', hir h2' rfl, h1', hjv.symm⟩)
     have hcell : Zx o = Vk c o.res := by unfold Zx; rw [YV h2', h1']
     have hmm := zgY (c := c) hj
     rw [hjv] at hmm
     rw [hcell] at hvs
     have hjC : j < C.length := by omega
     have hCl1 : C.length ≤ 301 := by omega
     obtain ⟨⟨b0, P0⟩, hP⟩ : ∃ P, nth C j = P := ⟨_, rfl⟩
     rw [hP] at hset
     have hPl : P0.length ≤ 1000000 := by
      have h3 := WA (l := l) (c := c) (k := i) hj
      rw [← hC, hP] at h3
      injection h3 with _ h3
      rw [h3, List.length_append]
      have h4 : (YA l c (nth T j).2.2 i).length ≤ i := by unfold YA; exact Nat.le_trans (List.length_filter_le _ _) (by simp)
      have h5 : (nth T j).2.1.length ≤ 1 := by
       rw [← hT] at hj ⊢
       rcases Yv.1 (zn hj) with ⟨_, e⟩ | ⟨w, _, _, e⟩ <;> rw [e] <;> simp
      omega
     (repeat (first | refine FW.seq ?_ | refine FW.region ?_ | refine FW.condT rfl ?_ | refine zb rfl rfl rfl ?_ | refine zS rfl rfl rfl (by decide) rfl rfl (by simp; done) rfl rfl rfl rfl ?_))
     refine zJ hvs (by repeat (first | exact zj.nil | refine zj.cons (by exact yu.plain rfl rfl) ?_)) rfl rfl ?_
     skip
     refine zho We hTi (zau hc ho.2.2.2.2.1) (.inl ⟨rfl, hmm⟩) rfl rfl (by decide) rfl rfl rfl rfl rfl rfl ?_
     (repeat (first | refine FW.region ?_ | refine zc.nil ?_ | refine za rfl rfl rfl ?_ | refine zb rfl rfl rfl ?_ | refine zx rfl rfl rfl rfl rfl rfl (by decide) rfl (by first | omega | (simp; omega)) rfl rfl ?_ | refine zt rfl rfl rfl rfl rfl rfl (by decide) rfl rfl ?_))
     refine zc.le (s' := ⟨[(90, .ptr 100 0 j 1), (86, .int .i64 (j : Int)), (85, .own 100 0 0 C.length), (11, .int .i64 (i : Int)), (0, .list 8 (l.map OpV.fv)), (2, .list 1 (ins.map bof)), (4, .eptr 1 [[.int .i64 c]] 0 0), (7, .omap 99 0), (8, .own 100 0 0 C.length), (59, .list 8 (l.map OpV.fv)), (60, .int .i64 l.length), (61, .int .i64 i)], (100, ⟨0, .hrow, 112, 2, (List.range C.length).map fun k => if k = j then [.bool (nth C j).ini, .own 150 0 0 (nth C j).ops.length] else xg C k⟩) :: (150, xf C j) :: [(99, ⟨0, .mapo, 67, 0, Zi c T⟩)] ++ (ZH 200 ++ Xd 1000 C.length fun k => if k = j then ⟨0, .own, 3, 1, []⟩ else xf C k)⟩) ?_ ?_
     ·unfold xf
      rw [hP]
      refine zc2 rfl rfl rfl (Zs C.length j _ hjC) (by rw [if_pos rfl]; rfl) rfl rfl ?_
      (repeat (first | refine zb rfl rfl rfl ?_ | refine yz rfl rfl rfl rfl rfl rfl rfl rfl ?_ | refine xc rfl rfl (by first | exact (List.length_map _).symm | rfl | (simp; done) | omega | (simp; omega)) rfl rfl rfl (by decide) (by exact XB.own rfl rfl (by decide) (by first | exact List.length_map _ | exact (List.length_map _).symm | exact List.length_replicate | rfl | (simp; done) | omega | (simp; omega))) (by first | omega | (simp; omega) | (simp; done)) (by first | omega | (simp; omega) | (simp; done)) rfl rfl rfl ?_ | refine zx rfl rfl rfl rfl rfl rfl (by decide) rfl (by first | omega | (simp; omega) | (simp; done)) rfl rfl ?_ | refine zt rfl rfl rfl rfl rfl rfl (by decide) rfl rfl ?_))
      refine zfI rfl (show _ = FV.own 94 (0 + 1) 0 (List.map zQ P0 ++ [[FV.int .i64 (i : Int)]]).length from rfl) (.inr (.inl ⟨_, _, _, _, rfl, zR rfl (by decide)⟩)) rfl rfl rfl (Zs C.length j _ hjC) (by rw [if_pos rfl]; show 1 < 2; omega) rfl ?_
      (repeat (first | refine FW.region ?_ | refine zc.nil ?_ | refine zb rfl rfl rfl ?_ | refine zu rfl rfl (by omega) rfl rfl ?_))
      rw [Wn]
      obtain ⟨C2, hC2⟩ : ∃ C2 : List ClV, C.set j ⟨b0, P0 ++ [i]⟩ = C2 := ⟨_, rfl⟩
      have hC2l : C2.length = C.length := by rw [← hC2, List.length_set]
      have hC2n : ∀ k, k < C.length → nth C2 k = if j = k then ⟨b0, P0 ++ [i]⟩ else nth C k := fun k hk => by rw [← hC2]; exact yX hk
      have hC2j : nth C2 j = ⟨b0, P0 ++ [i]⟩ := by rw [hC2n j hjC, if_pos rfl]
      refine ⟨(i + 1, C2), ⟨by dsimp only; omega, by dsimp only; rw [hset]; exact hC2.symm⟩, by dsimp only; omega, ?_⟩
      dsimp only
      rw [hC2l]
      refine FLe.clPut C.length hC2l (by omega) [⟨99, some 99, 0, ⟨0, .mapo, 67, 0, Zi c T⟩⟩] 100 0 j 94 (0 + 1) (fun k => if k = j then [.bool b0, .own 94 (0 + 1) 0 (P0.length + 1)] else xg C k) (by repeat (first | exact Low.nil | exact Low.fam rfl (by unfold zf; omega) | refine Low.cons rfl ?_)) (by decide) (by decide) (by decide) ⟨rfl, rfl, by simp, by simp⟩ ?_ ?_ ?_ ?_ (.old rfl rfl rfl .nil) (by repeat (first | exact .nil | refine .cons (.plain rfl rfl rfl) ?_ | refine .cons (.own rfl (.head _) rfl rfl) ?_ | refine .cons (.omap rfl (.tail _ (.head _)) rfl) ?_))
      ·refine Eq.trans (b := (⟨0, .hrow, 112, 2, List.map (fun k => if k = j then (if j = j then [FV.bool b0, FV.own 150 0 0 P0.length] else xg C j).set (0 + 1) (.own 94 (0 + 1) 0 (List.map zQ P0 ++ [[FV.int .i64 (i : Int)]]).length) else if k = j then [FV.bool b0, FV.own 150 0 0 P0.length] else xg C k) (List.range C.length)⟩ : zp)) rfl ?_
       refine congrArg (fun z => (⟨0, .hrow, 112, 2, z⟩ : zp)) (List.map_congr_left fun k _ => ?_)
       by_cases hk : k = j
       ·rw [if_pos hk, if_pos hk, if_pos rfl, List.length_append, List.length_map]; rfl
       ·rw [if_neg hk, if_neg hk, if_neg hk]
      ·intro k hk hne
       have hne' : ¬ j = k := fun e => hne e.symm
       refine ⟨?_, (yy (C := [(100, _), (94, _), (150, _), (93, _), (100, _), (150, _), (99, _)]) rfl (by decide) hk).trans ?_⟩
       ·rw [if_neg hne]; unfold xg; rw [hC2n k hk, if_neg hne']
       ·rw [if_neg hne]; unfold xf; rw [hC2n k hk, if_neg hne']
      ·rw [if_pos rfl, hC2j]; simp
      ·rw [hC2j]
       show (⟨_, _, _, _, _⟩ : zp) = _
       simp [zQ]
     ·exact FLe.clOpen (C := C) (by omega) [⟨99, some 99, 0, ⟨0, .mapo, 67, 0, Zi c T⟩⟩] j hjC (by repeat (first | exact Low.nil | exact Low.fam rfl (by unfold zf; omega) | refine Low.cons rfl ?_)) ⟨rfl, rfl, by simp, by simp⟩ rfl (fun k hk => yy (C := [(12, _), (12, _), (100, _), (99, _)]) rfl (by decide) hk) (.old rfl rfl rfl .nil) (by repeat (first | exact .nil | refine .cons (.plain rfl rfl rfl) ?_ | refine .cons (.own rfl (.head _) rfl rfl) ?_ | refine .cons (.ptr rfl (.head _) rfl) ?_ | refine .cons (.omap rfl (.tail _ (.tail _ (.head _))) rfl) ?_))
    | false =>
     have hsame := hsame (fun v => by
      cases hx : Vt c v o with
      | false => rfl
      | true => have := hid (yO.1 hx).2.1; cases this)
     (repeat (first | refine FW.region ?_ | refine FW.skip ?_ | refine FW.condF rfl ?_ | refine zc.nil ?_ | refine zb rfl rfl rfl ?_ | refine zu rfl rfl (by omega) rfl rfl ?_))
     refine ⟨(i + 1, C), ⟨by dsimp only; omega, hsame.symm⟩, by dsimp only; omega, ?_⟩
     exact FLe.clKeep (C := C) (by omega) [⟨99, some 99, 0, ⟨0, .mapo, 67, 0, Zi c T⟩⟩] 100 0 (by repeat (first | exact Low.nil | exact Low.fam rfl (by unfold zf; omega) | refine Low.cons rfl ?_)) (by decide) ⟨rfl, rfl, by simp, by simp⟩ rfl (fun j hj => yy (C := [(12, _), (12, _), (100, _), (99, _)]) rfl (by decide) hj) (.old rfl rfl rfl .nil) (by repeat (first | exact .nil | refine .cons (.plain rfl rfl rfl) ?_ | refine .cons (.own rfl (.head _) rfl rfl) ?_ | refine .cons (.omap rfl (.tail _ (.head _)) rfl) ?_))
   ·have hsame := hsame (fun v => by
     cases hx : Vt c v o with
     | false => rfl
     | true => have := (yO.1 hx).1; rw [decide_eq_true this] at h2; cases h2)
    (repeat (first | refine FW.region ?_ | refine FW.skip ?_ | refine FW.condF rfl ?_ | refine zc.nil ?_ | refine zb rfl rfl rfl ?_ | refine zP rfl rfl rfl rfl ?_ | refine zu rfl rfl (by omega) rfl rfl ?_ | refine yA rfl rfl ⟨_, _, rfl, rfl, rfl⟩ ?_))
    refine ⟨(i + 1, C), ⟨by dsimp only; omega, hsame.symm⟩, by dsimp only; omega, ?_⟩
    exact FLe.clKeep (C := C) (by omega) [⟨99, some 99, 0, ⟨0, .mapo, 67, 0, Zi c T⟩⟩] 100 0 (by repeat (first | exact Low.nil | exact Low.fam rfl (by unfold zf; omega) | refine Low.cons rfl ?_)) (by decide) ⟨rfl, rfl, by simp, by simp⟩ rfl (fun j hj => yy (C := [(12, _), (12, _), (100, _), (99, _)]) rfl (by decide) hj) (.old rfl rfl rfl .nil) (by repeat (first | exact .nil | refine .cons (.plain rfl rfl rfl) ?_ | refine .cons (.own rfl (.head _) rfl rfl) ?_ | refine .cons (.omap rfl (.tail _ (.head _)) rfl) ?_))
  ·have hsame := hsame (fun v => by
    cases hx : Vt c v o with
    | false => rfl
    | true => have := (yO.1 hx).2.2.1; rw [decide_eq_true this] at h1; cases h1)
   (repeat (first | refine FW.region ?_ | refine FW.skip ?_ | refine FW.condF rfl ?_ | refine zc.nil ?_ | refine zb rfl rfl rfl ?_ | refine zP rfl rfl rfl rfl ?_ | refine zu rfl rfl (by omega) rfl rfl ?_ | refine yA rfl rfl ⟨_, _, rfl, rfl, rfl⟩ ?_))
   refine ⟨(i + 1, C), ⟨by dsimp only; omega, hsame.symm⟩, by dsimp only; omega, ?_⟩
   exact FLe.clKeep (C := C) (by omega) [⟨99, some 99, 0, ⟨0, .mapo, 67, 0, Zi c T⟩⟩] 100 0 (by repeat (first | exact Low.nil | exact Low.fam rfl (by unfold zf; omega) | refine Low.cons rfl ?_)) (by decide) ⟨rfl, rfl, by simp, by simp⟩ rfl (fun j hj => yy (C := [(12, _), (12, _), (100, _), (99, _)]) rfl (by decide) hj) (.old rfl rfl rfl .nil) (by repeat (first | exact .nil | refine .cons (.plain rfl rfl rfl) ?_ | refine .cons (.own rfl (.head _) rfl rfl) ?_ | refine .cons (.omap rfl (.tail _ (.head _)) rfl) ?_))
 obtain rfl : i = l.length := by simp at h; omega
 clear h
 rw [← hC]
 have hCl : C.length ≤ 301 := by rw [hC, Zd]; omega
 (repeat (first | refine FW.seq ?_ | refine FW.region ?_ | refine FW.exit ?_))
 refine zb rfl rfl rfl ?_; refine za rfl rfl rfl ?_
 refine zc.le ?_ ((FLe.deepP 100 1000 C.length 1 (fun j => [.bool (nth C j).ini]) (fun j _ => ⟨rfl, rfl⟩) (w := 0) (E2 := 112) (E := 3) (sz := 1) (fun _ => 0) (fun j => (nth C j).ops.map zQ) ?_ (fun j hj => yy (C := [(100, _), (99, _)]) rfl (by decide) hj) (by decide)).trans (FLe.share 6 rfl rfl (by simp)))
 ·(repeat (first | refine zc.nil ?_))
  refine FW.ret ⟨.inl rfl, .sh (.cons (.tmp 6 rfl rfl) .nil) ?_ rfl⟩
  show FV.list 2 _ = FV.list 2 _
  refine congrArg (FV.list 2) ?_
  rw [show C.map ClV.fv = ((List.range C.length).map (nth C)).map ClV.fv by rw [zax], List.map_map]
  rfl
 ·refine Eq.trans (b := (⟨0, .hrow, 112, 2, (List.range C.length).map (xg C)⟩ : zp)) rfl ?_
  refine congrArg (fun z => (⟨0, .hrow, 112, 2, z⟩ : zp)) (List.map_congr_left fun j _ => ?_)
  rw [List.length_map]; rfl
end Go.Proofs.Ytbeebjdnapkhhaa
