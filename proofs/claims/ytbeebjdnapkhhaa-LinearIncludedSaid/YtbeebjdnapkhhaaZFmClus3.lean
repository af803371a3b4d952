/-
  linear.clusters: the walk.
-/
import Derived.Test.YtbeebjdnapkhhaaZFmClus2
namespace Go.Proofs.Ytbeebjdnapkhhaa
set_option linter.unusedVariables false
open Go.RowKit

theorem Xy {α : Type} [Inhabited α] (l : List α) : (List.range l.length).map (nth l) = l := by
 apply List.ext_getElem
 ·simp
 ·intro i h1 h2
  rw [List.getElem_map, List.getElem_range, zg h2]
theorem zf4 (C : List ClV) : (List.map (xd C) (List.range C.length)).length = C.length := by simp
set_option maxHeartbeats 4000000 in
theorem XW (l : List OpV) (c : Int) (ins : List Bool) (hl : l.length ≤ 300) (hin : ∀ o ∈ l, zaf o) (hc : I64 c) (D : zX l) (hil : ins.length = l.length) (hi0 : ∀ i, i < l.length → nth ins i = zR l i) (hthin : ∀ i, i < l.length → (nth l i).key = c → zc3 l i = false) :
  yd Try.prog 57 [.list 8 (l.map OpV.fv), .int .i64 c, .list 1 (ins.map bof)] .sh (.list 2 ((yu l c).map ClV.fv)) := by
 refine yd.of_body (c := (ZD Try.prog zF zy 99)) ⟨Try.func57, rfl, Try.ntmps57, by kernel_rfl⟩ (by simp [FV.hand]) (by exact Nat.le_of_ble_eq_true rfl) rfl ?_
 change FW _ _ _ ⟨[(0, .list 8 (l.map OpV.fv)), (1, .int .i64 c), (2, .list 1 (ins.map bof))], []⟩
 (repeat (first | refine FW.seq ?_ | refine FW.region ?_ | refine zc.nil ?_ | refine zbH rfl rfl rfl rfl rfl ?_ | refine za rfl rfl rfl ?_ | refine WW rfl rfl rfl ?_ | refine zb rfl rfl rfl ?_))
 refine zc.le ?_ (FLe.shareP 4 rfl rfl)
 (repeat (first | refine WV rfl rfl rfl rfl ?_))
 refine zM (zao l 71 [.eptr 1 [[.int .i64 c]] 0 0] (VC c 0) (by omega) (zan c)) (by repeat (first | exact zi.nil | refine zi.cons (by exact ym.plain rfl rfl) ?_)) rfl rfl ?_
 (repeat (first | refine zc.nil ?_))
 refine FW.join (fun C0 : List ClV => ⟨[(0, .list 8 (l.map OpV.fv)), (2, .list 1 (ins.map bof)), (4, .eptr 1 [[.int .i64 c]] 0 0), (7, .omap 99 0), (8, .own 100 0 0 C0.length)], (100, ⟨0, .hrow, 112, 2, (List.range C0.length).map (xd C0)⟩) :: [(99, ⟨0, .mapo, 67, 0, Ze c (ZQ l c 0)⟩)] ++ (ZO 200 ++ Xd 1000 C0.length (xc C0))⟩) (fun C0 => C0 = clT l c 0 (ZQ l c 0)) ?_ ?_
 ·refine FW.cond rfl (fun h => ?_) (fun h => ?_)
  ·have hT : ZQ l c 0 = [(true, [], 0)] := by unfold ZQ zi1; rw [if_pos h]; rfl
   rw [hT]
   (repeat (first | refine FW.seq ?_ | refine FW.region ?_ | refine zb rfl rfl rfl ?_ | refine zD rfl rfl rfl (by simp; done) rfl rfl rfl rfl rfl ?_ | refine yG rfl rfl rfl rfl ?_ | refine yR.nil ?_ | refine yR.one rfl rfl rfl rfl rfl ?_))
   refine Wv Wj (es := []) (fun row hr => by cases hr) (zaz hc ⟨by decide, by decide⟩) (.inr ⟨fun row hr => (by cases hr), rfl⟩) rfl rfl rfl rfl rfl rfl rfl ?_
   (repeat (first | refine FW.region ?_ | refine zc.nil ?_ | refine za rfl rfl rfl ?_ | refine zb rfl rfl rfl ?_ | refine yG rfl rfl rfl rfl ?_ | refine yT rfl rfl rfl rfl rfl rfl rfl rfl rfl rfl ?_ | refine zdK rfl rfl rfl rfl (by decide) (by exact XR.own rfl rfl (by decide) (by first | exact List.length_map _ | exact (List.length_map _).symm | exact List.length_replicate | rfl | (simp; done) | omega | (simp; omega))) (by simp; done) (by simp; done) rfl rfl rfl ?_ | refine yR.nil ?_ | refine yR.one rfl rfl rfl rfl rfl ?_))
   refine ⟨rfl, [⟨true, []⟩], rfl, ?_⟩
   exact (FLe.toH (i := 24) rfl).trans (FLe.convN [⟨100, some 24, 0 + 1, ⟨0, .hrow, 112, 2, (List.range 1).map (xd [⟨true, []⟩])⟩⟩, ⟨99, some 14, 0 + 1, ⟨0, .mapo, 67, 0, Ze c [(true, [], 0)]⟩⟩] 1000 1 (xc [⟨true, []⟩]) rfl (by unfold zf; omega) rfl (by simp) (by simp) (by repeat (first | exact Low.nil | exact Low.fam rfl (by unfold zf; omega) | refine Low.cons rfl ?_))
    (fun j hj => ⟨rfl, by obtain rfl : j = 0 := by omega
                          rfl⟩) (.oldK rfl (zc9.of (n := 1) (c := fun _ => [.bool true, .nil]) (fun j _ => rfl) fun j hj => (by
     obtain rfl : j = 0 := by omega
     exact .cons (.plain rfl rfl) (.cons (.nil (List.mem_append_right _ (Yo hj)) rfl) .nil))) (.old rfl rfl rfl .nil)) (by repeat (first | exact .nil | refine .cons (.plain rfl rfl rfl) ?_ | refine .cons (.own rfl (.head _) rfl rfl) ?_ | refine .cons (.omap rfl (.tail _ (.head _)) rfl) ?_)))
  ·have hT : ZQ l c 0 = [] := by unfold ZQ zi1; rw [if_neg (by rw [h]; decide)]; rfl
   rw [hT]
   (repeat (first | refine FW.skip ?_))
   refine ⟨rfl, [], rfl, ?_⟩
   refine FLe.trans (?_ : FLe _ ⟨[(0, .list 8 (l.map OpV.fv)), (2, .list 1 (ins.map bof)), (4, .eptr 1 [[.int .i64 c]] 0 0), (7, .omap 99 0), (8, .own 98 0 0 0)], [(98, ⟨0, .own, 112, 2, []⟩), (99, ⟨0, .mapo, 67, 0, []⟩)]⟩) ?_
   ·exact (FLe.conv [⟨98, none, 0, ⟨0, .own, 112, 2, []⟩⟩, ⟨99, some 14, 0 + 1, ⟨0, .mapo, 67, 0, []⟩⟩] (by simp) (by simp) rfl (by repeat (first | exact .nil | refine .low rfl ?_ | refine .same rfl ?_ | refine .bump (Nat.lt_succ_self _) ?_)) (by repeat (first | exact .nil | refine .old rfl (by decide) rfl ?_ | refine .new ?_)) (by repeat (first | exact .nil | refine .cons (.plain rfl rfl rfl) ?_ | refine .cons (.nil rfl (.head _) rfl) ?_ | refine .cons (.omap rfl (.tail _ (.head _)) rfl) ?_)))
   exact (FLe.toH (i := 98) rfl).trans (FLe.convN [⟨100, some 98, 0, ⟨0, .hrow, 112, 2, (List.range 0).map (xd [])⟩⟩, ⟨99, some 99, 0, ⟨0, .mapo, 67, 0, Ze c []⟩⟩] 1000 0 (xc []) rfl (by unfold zf; omega) rfl (by simp) (by simp) (by repeat (first | exact Low.nil | exact Low.fam rfl (by unfold zf; omega) | refine Low.cons rfl ?_))
    (fun j hj => by omega) (.oldK rfl zc9.nil (.old rfl rfl rfl .nil)) (by repeat (first | exact .nil | refine .cons (.plain rfl rfl rfl) ?_ | refine .cons (.own rfl (.head _) rfl rfl) ?_ | refine .cons (.omap rfl (.tail _ (.head _)) rfl) ?_)))
 rintro C0 hC0
 (repeat (first | refine FW.seq ?_ | refine FW.region ?_ | refine FW.block ?_ | refine zc.nil ?_ | refine zb rfl rfl rfl ?_ | refine zw rfl rfl (by exact List.length_map _) rfl rfl ?_))
 refine FW.loop (fun p : Nat × List ClV => ⟨[(0, .list 8 (l.map OpV.fv)), (2, .list 1 (ins.map bof)), (4, .eptr 1 [[.int .i64 c]] 0 0), (7, .omap 99 0), (8, .own 100 0 0 p.2.length), (25, .list 8 (l.map OpV.fv)), (26, .int .i64 l.length), (27, .int .i64 p.1)], (100, ⟨0, .hrow, 112, 2, (List.range p.2.length).map (xd p.2)⟩) :: [(99, ⟨0, .mapo, 67, 0, Ze c (ZQ l c p.1)⟩)] ++ (ZO 200 ++ Xd 1000 p.2.length (xc p.2))⟩) (fun p => p.1 ≤ l.length ∧ p.2 = clT l c 0 (ZQ l c p.1)) (fun p => l.length - p.1) (0, C0) ⟨Nat.zero_le _, hC0⟩ ?_ ?_
 ·have hCl : C0.length ≤ 1000 := by rw [hC0, Za]; have := VE (l := l) (c := c) (k := 0); omega
  refine FLe.clKeep (C := C0) hCl [⟨99, some 99, 0, ⟨0, .mapo, 67, 0, Ze c (ZQ l c 0)⟩⟩] 100 0 (by repeat (first | exact Low.nil | exact Low.fam rfl (by unfold zf; omega) | refine Low.cons rfl ?_)) (by decide) ⟨rfl, rfl, by simp, by simp⟩ rfl (fun j hj => yt (C := [(100, _), (99, _)]) rfl (by decide) hj) (.old rfl rfl rfl .nil) (by repeat (first | exact .nil | refine .cons (.plain rfl rfl rfl) ?_ | refine .cons (.own rfl (.head _) rfl rfl) ?_ | refine .cons (.omap rfl (.tail _ (.head _)) rfl) ?_))
 rintro ⟨i, C⟩ ⟨hi, hC⟩
 dsimp only at hi hC ⊢
 (repeat (first | refine FW.seq ?_ | refine FW.region ?_ | refine zc.nil ?_ | refine zH rfl rfl rfl rfl ?_))
 refine FW.cond rfl (fun h => ?_) (fun h => ?_)
 ·have hlt : i < l.length := by simpa using h
  clear h
  have hCl : C.length < 1000 := by rw [hC, Za]; have := VE (l := l) (c := c) (k := i); omega
  have ho := hin _ (zA hlt)
  have hii := hi0 i hlt
  have hno := fun h => zjJ (l := l) (c := c) (k := i) h
  have hyes := fun h => ziO (l := l) (c := c) (k := i) h
  have hwr : wrB l c i = (decide ((nth l i).key = c) && (decide ((nth l i).k = 1) && zR l i)) := rfl
  have hvs := Zl (nth l i)
  obtain ⟨o, hoe⟩ : ∃ o, nth l i = o := ⟨_, rfl⟩
  obtain ⟨q, hq⟩ : ∃ q, zR l i = q := ⟨_, rfl⟩
  rw [hoe, hq] at hwr
  rw [hoe] at ho hyes hvs
  rw [hq] at hii
  (repeat (first | refine FW.seq ?_ | refine FW.region ?_ | refine FW.block ?_ | refine FW.skip ?_ | refine zc.nil ?_ | refine za rfl rfl rfl ?_ | refine zb rfl rfl rfl ?_ | refine zD rfl rfl rfl (by first | (simp; omega) | (simp; done)) (by first | exact zd (by omega) | rfl) rfl rfl rfl rfl ?_ | refine zn rfl rfl rfl rfl rfl (by first | (simp; omega) | (simp; done)) (by first | exact zd (by omega) | rfl) rfl rfl rfl rfl ?_ | refine yJ rfl rfl rfl (by decide) (by first | (simp; omega) | (simp; done)) (by first | exact zd (by omega) | rfl) rfl rfl rfl ?_ | refine zC rfl rfl rfl rfl rfl rfl (by first | (simp; omega) | (simp; done)) rfl rfl ?_ | refine zT rfl rfl rfl rfl rfl rfl rfl ?_ | refine zB rfl rfl rfl rfl rfl rfl rfl rfl rfl ?_ | refine zm rfl rfl rfl rfl rfl rfl (by decide) rfl rfl ?_ | refine yH rfl rfl rfl rfl ?_))
  rw [hoe]
  skip
  refine yZ (fun h1 => ?_) (fun h1 => ?_)
  ·rw [h1, Bool.true_and] at hwr
   (repeat (first | refine zb rfl rfl rfl ?_ | refine zK rfl rfl rfl rfl ?_ | refine zm rfl rfl rfl rfl rfl rfl (by decide) rfl ⟨_, _, rfl, rfl, rfl⟩ ?_ | refine zn rfl rfl rfl rfl rfl (by simp; done) rfl rfl rfl rfl ⟨_, _, rfl, rfl, rfl⟩ ?_ | refine yH rfl rfl rfl ⟨_, _, rfl, rfl, rfl⟩ ?_))
   refine yZ (fun h2 => ?_) (fun h2 => ?_)
   ·rw [h2, Bool.true_and] at hwr
    (repeat (first | refine zc.nil ?_ | refine zK rfl rfl rfl rfl ?_ | refine zD rfl rfl rfl (by simp; omega) (by first | exact zd (by omega) | rfl) rfl rfl rfl ⟨_, _, rfl, rfl, rfl⟩ ?_ | refine zb rfl rfl ⟨_, _, rfl, rfl, rfl⟩ ?_ | refine zC rfl rfl rfl rfl rfl rfl (by simp; omega) rfl ⟨_, _, rfl, rfl, rfl⟩ ?_))
    rw [hii]
    cases q with
    | true =>
     have hyes := hyes hwr
     have h1' : o.key = c := by simpa using h1
     have h2' : o.k = 1 := by simpa using h2
     have hcell : ZC o = Vq c o.arg := by unfold ZC; rw [ZH h2', h1']
     rw [hcell] at hvs
     have hnone : ∀ p ∈ ZQ l c i, p.2.2 ≠ o.arg := fun p hp => by
      rcases Zh.1 hp with ⟨_, rfl⟩ | ⟨w, hw, hwb, rfl⟩
      ·have := D.arg hlt (by rw [hoe]; exact h2')
       rw [hoe] at this
       exact fun e => this e.symm
      ·rw [Zy] at hwb
       intro e
       have := D.uniq (show w < l.length by omega) hlt hwb.2.1 (by rw [hoe]; exact h2') (by rw [hwb.1, hoe, h1']) (by rw [hoe]; exact e)
       omega
     have hCT : C.length = (ZQ l c i).length := by rw [hC, Za]
     have hC2 : clT l c 0 (ZQ l c (i + 1)) = C ++ [⟨false, [i]⟩] := by rw [hyes, hC, zd2, zd2, List.map_append]; rfl
     have hma := zgP (c := c) (ZQ l c i) (false, [i], o.arg)
     rw [← hCT, ← hyes] at hma
     have hmk := zcG hc (zhz hin (c := c) (show i ≤ l.length by omega))
     have hmn := zfk (c := c) hnone
     clear hno
     (repeat (first | refine FW.seq ?_ | refine FW.region ?_ | refine FW.condT rfl ?_ | refine zb rfl rfl rfl ?_ | refine zL rfl rfl rfl (by decide) rfl rfl (by simp; done) rfl rfl rfl rfl ?_))
     refine zM hvs (by repeat (first | exact zi.nil | refine zi.cons (by exact ym.plain rfl rfl) ?_)) rfl rfl ?_
     (repeat (first | refine zb rfl rfl rfl ?_ | refine yc rfl rfl rfl (by decide) rfl rfl ?_))
     refine Wv Wj hmk (zaz hc ho.2.2.2.1) (.inr ⟨hmn, rfl⟩) rfl rfl rfl rfl rfl rfl rfl ?_
     (repeat (first | refine FW.region ?_ | refine zc.nil ?_ | refine zb rfl rfl rfl ?_ | refine yU rfl rfl rfl rfl rfl rfl rfl rfl ?_))
     refine zhb rfl rfl rfl rfl rfl rfl rfl (.inr (.inl ⟨_, _, _, _, rfl, zO rfl (by decide)⟩)) rfl rfl rfl ?_
     refine zfB rfl rfl rfl rfl rfl rfl rfl (fun f hf => by
      rcases List.mem_cons.1 hf with rfl | hf
      ·exact .inl rfl
      ·rw [List.mem_singleton.1 hf]; exact .inr (.inl ⟨_, _, _, _, rfl, zO rfl (by decide)⟩)) rfl rfl rfl ?_
     refine ziz rfl rfl (zf4 C).symm rfl rfl rfl rfl rfl rfl rfl (by decide) (fun f hf => by
      rcases List.mem_cons.1 hf with rfl | hf
      ·exact .inl rfl
      ·rw [List.mem_singleton.1 hf]; exact .inr (.inl ⟨_, _, _, _, rfl, zO rfl (by decide)⟩)) (by omega) (by omega) rfl rfl rfl ?_
     (repeat (first | refine FW.region ?_ | refine zc.nil ?_ | refine za rfl rfl rfl ?_ | refine zb rfl rfl rfl ?_ | refine zt rfl rfl (by omega) rfl rfl ?_))
     refine ⟨(i + 1, C ++ [⟨false, [i]⟩]), ⟨by dsimp only; omega, hC2.symm⟩, by dsimp only; omega, ?_⟩
     have hlen : (C ++ [(⟨false, [i]⟩ : ClV)]).length = C.length + 1 := by simp
     dsimp only
     rw [hma, hlen]
     refine FLe.clPut (C.length + 1) hlen (by omega) [⟨99, some 99, 0, ⟨0, .mapo, 67, 0, Ze c (ZQ l c i) ++ [[Vq c o.arg, .int .i64 (C.length : Int)]]⟩⟩] 57 (0 + 1) C.length 54 (0 + 1) (fun j => if j = C.length then [.bool false, .own 54 (0 + 1) 0 1] else xd C j) (by repeat (first | exact Low.nil | exact Low.fam rfl (by unfold zf; omega) | refine Low.cons rfl ?_)) (by decide) (by decide) (by decide) ⟨rfl, rfl, by simp, by simp⟩
      (Eq.trans (b := (⟨0 + 1, .hrow, 112, 2, List.map (xd C) (List.range C.length) ++ [[.bool false, .own 54 (0 + 1) 0 1]]⟩ : zj)) rfl (by
       refine congrArg (fun z => (⟨0 + 1, .hrow, 112, 2, z⟩ : zj)) ?_
       rw [List.range_succ, List.map_append]
       rw [show List.map (fun j => if j = C.length then [FV.bool false, .own 54 (0 + 1) 0 1] else xd C j) (List.range C.length) = List.map (xd C) (List.range C.length) from List.map_congr_left fun j hj => by rw [if_neg (by have := List.mem_range.1 hj; omega)]]
       simp))
      (fun j hj hne => by
       have hj' : j < C.length := by omega
       refine ⟨?_, (yt (C := [(57, _), (100, _), (56, _), (54, _), (99, _), (10, _), (10, _), (100, _), (99, _)]) rfl (by decide) hj').trans ?_⟩
       ·rw [if_neg hne]; unfold xd; rw [zbA hj']
       ·unfold xc; rw [zbA hj'])
      (by rw [if_pos rfl, zbB]; rfl) (by rw [zbB]; rfl) (.old rfl rfl rfl .nil) (by repeat (first | exact .nil | refine .cons (.plain rfl rfl rfl) ?_ | refine .cons (.own rfl (.head _) rfl rfl) ?_ | refine .cons (.omap rfl (.tail _ (.head _)) rfl) ?_))
    | false =>
     have hno := hno hwr
     (repeat (first | refine FW.region ?_ | refine FW.skip ?_ | refine FW.condF rfl ?_ | refine zc.nil ?_ | refine zb rfl rfl rfl ?_ | refine zt rfl rfl (by omega) rfl rfl ?_))
     refine ⟨(i + 1, C), ⟨by dsimp only; omega, by dsimp only; rw [hno]; exact hC⟩, by dsimp only; omega, ?_⟩
     dsimp only
     rw [hno]
     exact FLe.clKeep (C := C) (by omega) [⟨99, some 99, 0, ⟨0, .mapo, 67, 0, Ze c (ZQ l c i)⟩⟩] 100 0 (by repeat (first | exact Low.nil | exact Low.fam rfl (by unfold zf; omega) | refine Low.cons rfl ?_)) (by decide) ⟨rfl, rfl, by simp, by simp⟩ rfl (fun j hj => yt (C := [(10, _), (10, _), (100, _), (99, _)]) rfl (by decide) hj) (.old rfl rfl rfl .nil) (by repeat (first | exact .nil | refine .cons (.plain rfl rfl rfl) ?_ | refine .cons (.own rfl (.head _) rfl rfl) ?_ | refine .cons (.omap rfl (.tail _ (.head _)) rfl) ?_))
   ·rw [h2, Bool.false_and] at hwr
    have hno := hno hwr
    (repeat (first | refine FW.region ?_ | refine FW.skip ?_ | refine FW.condF rfl ?_ | refine zc.nil ?_ | refine zb rfl rfl rfl ?_ | refine zZ rfl rfl rfl rfl ?_ | refine zt rfl rfl (by omega) rfl rfl ?_ | refine yE rfl rfl ⟨_, _, rfl, rfl, rfl⟩ ?_))
    refine ⟨(i + 1, C), ⟨by dsimp only; omega, by dsimp only; rw [hno]; exact hC⟩, by dsimp only; omega, ?_⟩
    dsimp only
    rw [hno]
    exact FLe.clKeep (C := C) (by omega) [⟨99, some 99, 0, ⟨0, .mapo, 67, 0, Ze c (ZQ l c i)⟩⟩] 100 0 (by repeat (first | exact Low.nil | exact Low.fam rfl (by unfold zf; omega) | refine Low.cons rfl ?_)) (by decide) ⟨rfl, rfl, by simp, by simp⟩ rfl (fun j hj => yt (C := [(10, _), (10, _), (100, _), (99, _)]) rfl (by decide) hj) (.old rfl rfl rfl .nil) (by repeat (first | exact .nil | refine .cons (.plain rfl rfl rfl) ?_ | refine .cons (.own rfl (.head _) rfl rfl) ?_ | refine .cons (.omap rfl (.tail _ (.head _)) rfl) ?_))
  ·rw [h1, Bool.false_and] at hwr
   have hno := hno hwr
   (repeat (first | refine FW.region ?_ | refine FW.skip ?_ | refine FW.condF rfl ?_ | refine zc.nil ?_ | refine zb rfl rfl rfl ?_ | refine zZ rfl rfl rfl rfl ?_ | refine zt rfl rfl (by omega) rfl rfl ?_ | refine yE rfl rfl ⟨_, _, rfl, rfl, rfl⟩ ?_))
   refine ⟨(i + 1, C), ⟨by dsimp only; omega, by dsimp only; rw [hno]; exact hC⟩, by dsimp only; omega, ?_⟩
   dsimp only
   rw [hno]
   exact FLe.clKeep (C := C) (by omega) [⟨99, some 99, 0, ⟨0, .mapo, 67, 0, Ze c (ZQ l c i)⟩⟩] 100 0 (by repeat (first | exact Low.nil | exact Low.fam rfl (by unfold zf; omega) | refine Low.cons rfl ?_)) (by decide) ⟨rfl, rfl, by simp, by simp⟩ rfl (fun j hj => yt (C := [(10, _), (10, _), (100, _), (99, _)]) rfl (by decide) hj) (.old rfl rfl rfl .nil) (by repeat (first | exact .nil | refine .cons (.plain rfl rfl rfl) ?_ | refine .cons (.own rfl (.head _) rfl rfl) ?_ | refine .cons (.omap rfl (.tail _ (.head _)) rfl) ?_))
 obtain rfl : i = l.length := by simp at h; omega
 clear h
 (repeat (first | refine FW.seq ?_ | refine FW.region ?_ | refine FW.block ?_ | refine FW.exit ?_ | refine zc.nil ?_ | refine zb rfl rfl rfl ?_ | refine zw rfl rfl (by exact List.length_map _) rfl rfl ?_))
 obtain ⟨T, hT⟩ : ∃ T, ZQ l c l.length = T := ⟨_, rfl⟩
 have hTl := VE (l := l) (c := c) (k := l.length)
 have hTn := zc5 (c := c) D (Nat.le_refl _)
 have hTi := zcG hc (zhz hin (c := c) (Nat.le_refl _))
 have hTr := fun r h1 h2 h3 h4 h5 => zc4 (c := c) (r := r) D h1 h2 h3 h4 h5
 have hcl : yu l c = clT l c l.length T := by unfold yu; rw [hT]
 rw [hT] at hC hTl hTn hTi hTr ⊢
 rw [hcl]
 refine FW.loop (fun p : Nat × List ClV => ⟨[(0, .list 8 (l.map OpV.fv)), (2, .list 1 (ins.map bof)), (4, .eptr 1 [[.int .i64 c]] 0 0), (7, .omap 99 0), (8, .own 100 0 0 p.2.length), (59, .list 8 (l.map OpV.fv)), (60, .int .i64 l.length), (61, .int .i64 p.1)], (100, ⟨0, .hrow, 112, 2, (List.range p.2.length).map (xd p.2)⟩) :: [(99, ⟨0, .mapo, 67, 0, Ze c T⟩)] ++ (ZO 200 ++ Xd 1000 p.2.length (xc p.2))⟩) (fun p => p.1 ≤ l.length ∧ p.2 = clT l c p.1 T) (fun p => l.length - p.1) (0, C) ⟨Nat.zero_le _, hC⟩ ?_ ?_
 ·have hCl : C.length ≤ 1000 := by rw [hC, Za]; omega
  refine FLe.clKeep (C := C) hCl [⟨99, some 99, 0, ⟨0, .mapo, 67, 0, Ze c T⟩⟩] 100 0 (by repeat (first | exact Low.nil | exact Low.fam rfl (by unfold zf; omega) | refine Low.cons rfl ?_)) (by decide) ⟨rfl, rfl, by simp, by simp⟩ rfl (fun j hj => yt (C := [(100, _), (99, _)]) rfl (by decide) hj) (.old rfl rfl rfl .nil) (by repeat (first | exact .nil | refine .cons (.plain rfl rfl rfl) ?_ | refine .cons (.own rfl (.head _) rfl rfl) ?_ | refine .cons (.omap rfl (.tail _ (.head _)) rfl) ?_))
 rintro ⟨i, C⟩ ⟨hi, hC⟩
 dsimp only at hi hC ⊢
 (repeat (first | refine FW.seq ?_ | refine FW.region ?_ | refine zc.nil ?_ | refine zH rfl rfl rfl rfl ?_))
 refine FW.cond rfl (fun h => ?_) (fun h => ?_)
 ·have hlt : i < l.length := by simpa using h
  clear h
  have hCl : C.length = T.length := by rw [hC, Za]
  have ho := hin _ (zA hlt)
  have hii := hi0 i hlt
  have hsame := fun h => zhS (l := l) (c := c) (T := T) (k := i) h
  have hset := fun j h1 h2 => zjk (l := l) (c := c) (T := T) (k := i) (j := j) h1 hTn h2
  have hth := hthin i hlt
  have hTr := hTr i hlt
  have hvs := Zl (nth l i)
  have hir := fun h => ZZ (l := l) (i := i) h
  have hid := fun h => xN (l := l) (i := i) h
  rw [← hC] at hsame hset
  obtain ⟨o, hoe⟩ : ∃ o, nth l i = o := ⟨_, rfl⟩
  obtain ⟨q, hq⟩ : ∃ q, zR l i = q := ⟨_, rfl⟩
  rw [hq] at hii hir hid
  rw [hoe] at ho hsame hvs hth hTr hir hid
  simp only [hoe] at hset
  (repeat (first | refine FW.seq ?_ | refine FW.region ?_ | refine FW.block ?_ | refine FW.skip ?_ | refine zc.nil ?_ | refine za rfl rfl rfl ?_ | refine zb rfl rfl rfl ?_ | refine zD rfl rfl rfl (by first | (simp; omega) | (simp; done)) (by first | exact zd (by omega) | rfl) rfl rfl rfl rfl ?_ | refine zn rfl rfl rfl rfl rfl (by first | (simp; omega) | (simp; done)) (by first | exact zd (by omega) | rfl) rfl rfl rfl rfl ?_ | refine yJ rfl rfl rfl (by decide) (by first | (simp; omega) | (simp; done)) (by first | exact zd (by omega) | rfl) rfl rfl rfl ?_ | refine zC rfl rfl rfl rfl rfl rfl (by first | (simp; omega) | (simp; done)) rfl rfl ?_ | refine zT rfl rfl rfl rfl rfl rfl rfl ?_ | refine zB rfl rfl rfl rfl rfl rfl rfl rfl rfl ?_ | refine zm rfl rfl rfl rfl rfl rfl (by decide) rfl rfl ?_ | refine yH rfl rfl rfl rfl ?_))
  rw [hoe]
  skip
  refine yZ (fun h1 => ?_) (fun h1 => ?_)
  ·have h1' : o.key = c := by simpa using h1
   (repeat (first | refine zb rfl rfl rfl ?_ | refine zK rfl rfl rfl rfl ?_ | refine zm rfl rfl rfl rfl rfl rfl (by decide) rfl ⟨_, _, rfl, rfl, rfl⟩ ?_ | refine zn rfl rfl rfl rfl rfl (by simp; done) rfl rfl rfl rfl ⟨_, _, rfl, rfl, rfl⟩ ?_ | refine yH rfl rfl rfl ⟨_, _, rfl, rfl, rfl⟩ ?_))
   refine yZ (fun h2 => ?_) (fun h2 => ?_)
   ·have h2' : o.k = 0 := by simpa using h2
    (repeat (first | refine zc.nil ?_ | refine zK rfl rfl rfl rfl ?_ | refine zD rfl rfl rfl (by simp; omega) (by first | exact zd (by omega) | rfl) rfl rfl rfl ⟨_, _, rfl, rfl, rfl⟩ ?_ | refine zb rfl rfl ⟨_, _, rfl, rfl, rfl⟩ ?_ | refine zC rfl rfl rfl rfl rfl rfl (by simp; omega) rfl ⟨_, _, rfl, rfl, rfl⟩ ?_))
    rw [hii]
    cases q with
    | true =>
     obtain ⟨j, hj, hjv⟩ := hTr h1' h2' (hir h2' rfl) (hth h1')
     have hset := hset j hj (yD.2 ⟨h2', hir h2' rfl, h1', hjv.symm⟩)
     have hcell : ZC o = Vq c o.res := by unfold ZC; rw [YB h2', h1']
     have hmm := zgQ (c := c) hj
     rw [hjv] at hmm
     rw [hcell] at hvs
     have hjC : j < C.length := by omega
     have hCl1 : C.length ≤ 301 := by omega
     obtain ⟨⟨b0, P0⟩, hP⟩ : ∃ P, nth C j = P := ⟨_, rfl⟩
     rw [hP] at hset
     have hPl : P0.length ≤ 1000000 := by
      have h3 := XC (l := l) (c := c) (k := i) hj
      rw [← hC, hP] at h3
      injection h3 with _ h3
      rw [h3, List.length_append]
      have h4 : (YC l c (nth T j).2.2 i).length ≤ i := by unfold YC; exact Nat.le_trans (List.length_filter_le _ _) (by simp)
      have h5 : (nth T j).2.1.length ≤ 1 := by
       rw [← hT] at hj ⊢
       rcases Zh.1 (zA hj) with ⟨_, e⟩ | ⟨w, _, _, e⟩ <;> rw [e] <;> simp
      omega
     (repeat (first | refine FW.seq ?_ | refine FW.region ?_ | refine FW.condT rfl ?_ | refine zb rfl rfl rfl ?_ | refine zL rfl rfl rfl (by decide) rfl rfl (by simp; done) rfl rfl rfl rfl ?_))
     refine zM hvs (by repeat (first | exact zi.nil | refine zi.cons (by exact ym.plain rfl rfl) ?_)) rfl rfl ?_
     skip
     refine zhg Wj hTi (zaz hc ho.2.2.2.2.1) (.inl ⟨rfl, hmm⟩) rfl rfl (by decide) rfl rfl rfl rfl rfl rfl ?_
     (repeat (first | refine FW.region ?_ | refine zc.nil ?_ | refine za rfl rfl rfl ?_ | refine zb rfl rfl rfl ?_ | refine zu rfl rfl rfl rfl rfl rfl (by decide) rfl (by first | omega | (simp; omega)) rfl rfl ?_ | refine zm rfl rfl rfl rfl rfl rfl (by decide) rfl rfl ?_))
     refine zc.le (s' := ⟨[(90, .ptr 100 0 j 1), (86, .int .i64 (j : Int)), (85, .own 100 0 0 C.length), (11, .int .i64 (i : Int)), (0, .list 8 (l.map OpV.fv)), (2, .list 1 (ins.map bof)), (4, .eptr 1 [[.int .i64 c]] 0 0), (7, .omap 99 0), (8, .own 100 0 0 C.length), (59, .list 8 (l.map OpV.fv)), (60, .int .i64 l.length), (61, .int .i64 i)], (100, ⟨0, .hrow, 112, 2, (List.range C.length).map fun k => if k = j then [.bool (nth C j).ini, .own 150 0 0 (nth C j).ops.length] else xd C k⟩) :: (150, xc C j) :: [(99, ⟨0, .mapo, 67, 0, Ze c T⟩)] ++ (ZO 200 ++ Xd 1000 C.length fun k => if k = j then ⟨0, .own, 3, 1, []⟩ else xc C k)⟩) ?_ ?_
     ·unfold xc
      rw [hP]
      refine zcU rfl rfl rfl (Zw C.length j _ hjC) (by rw [if_pos rfl]; rfl) rfl rfl ?_
      (repeat (first | refine zb rfl rfl rfl ?_ | refine yU rfl rfl rfl rfl rfl rfl rfl rfl ?_ | refine xF rfl rfl (by first | exact (List.length_map _).symm | rfl | (simp; done) | omega | (simp; omega)) rfl rfl rfl (by decide) (by exact XR.own rfl rfl (by decide) (by first | exact List.length_map _ | exact (List.length_map _).symm | exact List.length_replicate | rfl | (simp; done) | omega | (simp; omega))) (by first | omega | (simp; omega) | (simp; done)) (by first | omega | (simp; omega) | (simp; done)) rfl rfl rfl ?_ | refine zu rfl rfl rfl rfl rfl rfl (by decide) rfl (by first | omega | (simp; omega) | (simp; done)) rfl rfl ?_ | refine zm rfl rfl rfl rfl rfl rfl (by decide) rfl rfl ?_))
      refine zfD rfl (show _ = FV.own 94 (0 + 1) 0 (List.map yg P0 ++ [[FV.int .i64 (i : Int)]]).length from rfl) (.inr (.inl ⟨_, _, _, _, rfl, zO rfl (by decide)⟩)) rfl rfl rfl (Zw C.length j _ hjC) (by rw [if_pos rfl]; show 1 < 2; omega) rfl ?_
      (repeat (first | refine FW.region ?_ | refine zc.nil ?_ | refine zb rfl rfl rfl ?_ | refine zt rfl rfl (by omega) rfl rfl ?_))
      rw [Wt]
      obtain ⟨C2, hC2⟩ : ∃ C2 : List ClV, C.set j ⟨b0, P0 ++ [i]⟩ = C2 := ⟨_, rfl⟩
      have hC2l : C2.length = C.length := by rw [← hC2, List.length_set]
      have hC2n : ∀ k, k < C.length → nth C2 k = if j = k then ⟨b0, P0 ++ [i]⟩ else nth C k := fun k hk => by rw [← hC2]; exact yO hk
      have hC2j : nth C2 j = ⟨b0, P0 ++ [i]⟩ := by rw [hC2n j hjC, if_pos rfl]
      refine ⟨(i + 1, C2), ⟨by dsimp only; omega, by dsimp only; rw [hset]; exact hC2.symm⟩, by dsimp only; omega, ?_⟩
      dsimp only
      rw [hC2l]
      refine FLe.clPut C.length hC2l (by omega) [⟨99, some 99, 0, ⟨0, .mapo, 67, 0, Ze c T⟩⟩] 100 0 j 94 (0 + 1) (fun k => if k = j then [.bool b0, .own 94 (0 + 1) 0 (P0.length + 1)] else xd C k) (by repeat (first | exact Low.nil | exact Low.fam rfl (by unfold zf; omega) | refine Low.cons rfl ?_)) (by decide) (by decide) (by decide) ⟨rfl, rfl, by simp, by simp⟩ ?_ ?_ ?_ ?_ (.old rfl rfl rfl .nil) (by repeat (first | exact .nil | refine .cons (.plain rfl rfl rfl) ?_ | refine .cons (.own rfl (.head _) rfl rfl) ?_ | refine .cons (.omap rfl (.tail _ (.head _)) rfl) ?_))
      ·refine Eq.trans (b := (⟨0, .hrow, 112, 2, List.map (fun k => if k = j then (if j = j then [FV.bool b0, FV.own 150 0 0 P0.length] else xd C j).set (0 + 1) (.own 94 (0 + 1) 0 (List.map yg P0 ++ [[FV.int .i64 (i : Int)]]).length) else if k = j then [FV.bool b0, FV.own 150 0 0 P0.length] else xd C k) (List.range C.length)⟩ : zj)) rfl ?_
       refine congrArg (fun z => (⟨0, .hrow, 112, 2, z⟩ : zj)) (List.map_congr_left fun k _ => ?_)
       by_cases hk : k = j
       ·rw [if_pos hk, if_pos hk, if_pos rfl, List.length_append, List.length_map]; rfl
       ·rw [if_neg hk, if_neg hk, if_neg hk]
      ·intro k hk hne
       have hne' : ¬ j = k := fun e => hne e.symm
       refine ⟨?_, (yt (C := [(100, _), (94, _), (150, _), (93, _), (100, _), (150, _), (99, _)]) rfl (by decide) hk).trans ?_⟩
       ·rw [if_neg hne]; unfold xd; rw [hC2n k hk, if_neg hne']
       ·rw [if_neg hne]; unfold xc; rw [hC2n k hk, if_neg hne']
      ·rw [if_pos rfl, hC2j]; simp
      ·rw [hC2j]
       show (⟨_, _, _, _, _⟩ : zj) = _
       simp [yg]
     ·exact FLe.clOpen (C := C) (by omega) [⟨99, some 99, 0, ⟨0, .mapo, 67, 0, Ze c T⟩⟩] j hjC (by repeat (first | exact Low.nil | exact Low.fam rfl (by unfold zf; omega) | refine Low.cons rfl ?_)) ⟨rfl, rfl, by simp, by simp⟩ rfl (fun k hk => yt (C := [(12, _), (12, _), (100, _), (99, _)]) rfl (by decide) hk) (.old rfl rfl rfl .nil) (by repeat (first | exact .nil | refine .cons (.plain rfl rfl rfl) ?_ | refine .cons (.own rfl (.head _) rfl rfl) ?_ | refine .cons (.ptr rfl (.head _) rfl) ?_ | refine .cons (.omap rfl (.tail _ (.tail _ (.head _))) rfl) ?_))
    | false =>
     have hsame := hsame (fun v => by
      cases hx : VC c v o with
      | false => rfl
      | true => have := hid (yD.1 hx).2.1; cases this)
     (repeat (first | refine FW.region ?_ | refine FW.skip ?_ | refine FW.condF rfl ?_ | refine zc.nil ?_ | refine zb rfl rfl rfl ?_ | refine zt rfl rfl (by omega) rfl rfl ?_))
     refine ⟨(i + 1, C), ⟨by dsimp only; omega, hsame.symm⟩, by dsimp only; omega, ?_⟩
     exact FLe.clKeep (C := C) (by omega) [⟨99, some 99, 0, ⟨0, .mapo, 67, 0, Ze c T⟩⟩] 100 0 (by repeat (first | exact Low.nil | exact Low.fam rfl (by unfold zf; omega) | refine Low.cons rfl ?_)) (by decide) ⟨rfl, rfl, by simp, by simp⟩ rfl (fun j hj => yt (C := [(12, _), (12, _), (100, _), (99, _)]) rfl (by decide) hj) (.old rfl rfl rfl .nil) (by repeat (first | exact .nil | refine .cons (.plain rfl rfl rfl) ?_ | refine .cons (.own rfl (.head _) rfl rfl) ?_ | refine .cons (.omap rfl (.tail _ (.head _)) rfl) ?_))
   ·have hsame := hsame (fun v => by
     cases hx : VC c v o with
     | false => rfl
     | true => have := (yD.1 hx).1; rw [decide_eq_true this] at h2; cases h2)
    (repeat (first | refine FW.region ?_ | refine FW.skip ?_ | refine FW.condF rfl ?_ | refine zc.nil ?_ | refine zb rfl rfl rfl ?_ | refine zZ rfl rfl rfl rfl ?_ | refine zt rfl rfl (by omega) rfl rfl ?_ | refine yE rfl rfl ⟨_, _, rfl, rfl, rfl⟩ ?_))
    refine ⟨(i + 1, C), ⟨by dsimp only; omega, hsame.symm⟩, by dsimp only; omega, ?_⟩
    exact FLe.clKeep (C := C) (by omega) [⟨99, some 99, 0, ⟨0, .mapo, 67, 0, Ze c T⟩⟩] 100 0 (by repeat (first | exact Low.nil | exact Low.fam rfl (by unfold zf; omega) | refine Low.cons rfl ?_)) (by decide) ⟨rfl, rfl, by simp, by simp⟩ rfl (fun j hj => yt (C := [(12, _), (12, _), (100, _), (99, _)]) rfl (by decide) hj) (.old rfl rfl rfl .nil) (by repeat (first | exact .nil | refine .cons (.plain rfl rfl rfl) ?_ | refine .cons (.own rfl (.head _) rfl rfl) ?_ | refine .cons (.omap rfl (.tail _ (.head _)) rfl) ?_))
  ·have hsame := hsame (fun v => by
    cases hx : VC c v o with
    | false => rfl
    | true => have := (yD.1 hx).2.2.1; rw [decide_eq_true this] at h1; cases h1)
   (repeat (first | refine FW.region ?_ | refine FW.skip ?_ | refine FW.condF rfl ?_ | refine zc.nil ?_ | refine zb rfl rfl rfl ?_ | refine zZ rfl rfl rfl rfl ?_ | refine zt rfl rfl (by omega) rfl rfl ?_ | refine yE rfl rfl ⟨_, _, rfl, rfl, rfl⟩ ?_))
   refine ⟨(i + 1, C), ⟨by dsimp only; omega, hsame.symm⟩, by dsimp only; omega, ?_⟩
   exact FLe.clKeep (C := C) (by omega) [⟨99, some 99, 0, ⟨0, .mapo, 67, 0, Ze c T⟩⟩] 100 0 (by repeat (first | exact Low.nil | exact Low.fam rfl (by unfold zf; omega) | refine Low.cons rfl ?_)) (by decide) ⟨rfl, rfl, by simp, by simp⟩ rfl (fun j hj => yt (C := [(12, _), (12, _), (100, _), (99, _)]) rfl (by decide) hj) (.old rfl rfl rfl .nil) (by repeat (first | exact .nil | refine .cons (.plain rfl rfl rfl) ?_ | refine .cons (.own rfl (.head _) rfl rfl) ?_ | refine .cons (.omap rfl (.tail _ (.head _)) rfl) ?_))
 obtain rfl : i = l.length := by simp at h; omega
 clear h
 rw [← hC]
 have hCl : C.length ≤ 301 := by rw [hC, Za]; omega
 (repeat (first | refine FW.seq ?_ | refine FW.region ?_ | refine FW.exit ?_))
 refine zb rfl rfl rfl ?_; refine za rfl rfl rfl ?_
 refine zc.le ?_ ((FLe.deepP 100 1000 C.length 1 (fun j => [.bool (nth C j).ini]) (fun j _ => ⟨rfl, rfl⟩) (w := 0) (E2 := 112) (E := 3) (sz := 1) (fun _ => 0) (fun j => (nth C j).ops.map yg) ?_ (fun j hj => yt (C := [(100, _), (99, _)]) rfl (by decide) hj) (by decide)).trans (FLe.share 6 rfl rfl (by simp)))
 ·(repeat (first | refine zc.nil ?_))
  refine FW.ret ⟨.inl rfl, .sh (.cons (.tmp 6 rfl rfl) .nil) ?_ rfl⟩
  show FV.list 2 _ = FV.list 2 _
  refine congrArg (FV.list 2) ?_
  rw [show C.map ClV.fv = ((List.range C.length).map (nth C)).map ClV.fv by rw [Xy], List.map_map]
  rfl
 ·refine Eq.trans (b := (⟨0, .hrow, 112, 2, (List.range C.length).map (xd C)⟩ : zj)) rfl ?_
  refine congrArg (fun z => (⟨0, .hrow, 112, 2, z⟩ : zj)) (List.map_congr_left fun j _ => ?_)
  rw [List.length_map]; rfl
end Go.Proofs.Ytbeebjdnapkhhaa
