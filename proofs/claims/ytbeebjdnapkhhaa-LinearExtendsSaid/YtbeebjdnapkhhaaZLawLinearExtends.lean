/-
  simprooflaw21.LinearExtends answers true for every input (walked on plain values).
-/
import Derived.Test.YtbeebjdnapkhhaaZLawLinearChecks
import Derived.Test.YtbeebjdnapkhhaaZFmLv21
import Derived.Test.YtbeebjdnapkhhaaZFmLBent
import Derived.Test.YtbeebjdnapkhhaaZGenLin
import Derived.Test.YtbeebjdnapkhhaaZFmA3
import Derived.Test.YtbeebjdnapkhhaaZFmIsLin
import Derived.Test.YtbeebjdnapkhhaaZFmNilP
import Derived.Test.YtbeebjdnapkhhaaZFmLinz
import Derived.Test.YtbeebjdnapkhhaaZS
namespace Go.Proofs.Ytbeebjdnapkhhaa
set_option linter.unusedVariables false
open Go.RowKit

theorem zjE {h : List OpV} (H : H21 h) (hc : (zfk h).cls = 0) : ∃ (L : List Nat) (tau : Nat → Nat), zfk h = ⟨0, 0, L, []⟩ ∧ L.length = (yF h).length ∧ (∀ x ∈ L, x ∈ yF h) ∧ L.Nodup ∧
  (∀ i k, i < h.length → k < h.length → zW h i = true → zW h k = true → bef h i k = true → tau i < tau k) ∧ ∀ p, p < L.length → tau (nth L p) = p := by
 have V := zfl.1 hc
 have hK := zcy h
 refine ⟨Uo h (yK h), zbU h (yK h), ?_, zbw H V hK, fun x hx => zX.2 ((zik H V hK).1 hx), zjC H V hK, (zex H V hK).rt, fun p hp => zjS H V hK hp⟩
 unfold zfk; rw [Wv.2 V]
def rwT (h : List OpV) (L : List Nat) (n : Nat) : List Nat := (L.take n).map (XL h)
def rwI (h : List OpV) (x i : Nat) : List Nat := if XL h x < i then [XL h x] else []
theorem ziM {h : List OpV} {x i : Nat} (hx : x ∈ yF h) (hi : i < (yF h).length) : rwI h x (i + 1) = rwI h x i ++ if nth (yF h) i = x then [i] else [] := by
 unfold rwI
 by_cases e : nth (yF h) i = x
 ·have := zbD (l := h) hi
  rw [e] at this
  rw [if_pos e, this, if_pos (by omega), if_neg (by omega)]; rfl
 ·have : XL h x ≠ i := fun e2 => e (by rw [← e2]; exact xS hx)
  rw [if_neg e, List.append_nil]
  by_cases h2 : XL h x < i
  ·rw [if_pos (by omega), if_pos h2]
  ·rw [if_neg (by omega), if_neg h2]
theorem Uy {f : Nat → Nat} : ∀ {L : List Nat}, L.Nodup → (∀ x y, x ∈ L → y ∈ L → f x = f y → x = y) → (L.map f).Nodup
 | [], _, _ => List.nodup_nil
 | a :: L, h, hf => by
  rw [List.nodup_cons] at h
  rw [List.map_cons, List.nodup_cons]
  refine ⟨fun hm => ?_, Uy h.2 fun x y hx hy => hf x y (List.mem_cons_of_mem _ hx) (List.mem_cons_of_mem _ hy)⟩
  obtain ⟨b, hb, e⟩ := List.mem_map.1 hm
  exact h.1 (hf b a (List.mem_cons_of_mem _ hb) List.mem_cons_self e ▸ hb)
theorem zio {f : Nat → Nat} {L : List Nat} {p : Nat} (hp : p < L.length) : nth (L.map f) p = f (nth L p) := by
 rw [zi (by simpa using hp), zi hp, List.getElem_map]
theorem ziN {h : List OpV} {L : List Nat} {n : Nat} (hn : n < L.length) (hm : nth L n ∈ yF h) : rwT h L (n + 1) = rwT h L n ++ rwI h (nth L n) (yF h).length := by
 unfold rwT rwI
 rw [xu hn, List.map_append, if_pos (xw hm)]; rfl
set_option maxHeartbeats 8000000 in
theorem Wh (l : List Int) (a0 a1 a2 : Int) (hl : ∀ x ∈ l, I64 x) (hlen : l.length ≤ 9223372036854775807) (i0 : I64 a0) (i1 : I64 a1) (i2 : I64 a2) : yg Try.prog 10 [.list 1 (l.map zF), .agg [.int .i64 a0, .int .i64 a1, .int .i64 a2]] .fr (.bool true) := by
 obtain ⟨z, hz⟩ : ∃ z : Int, (-1 : Int) = z := ⟨_, rfl⟩
 have hB := zeU l a0 a1 a2 z 0 0 hl hlen i0 i1 i2 (by rw [← hz]; exact ⟨by decide, by decide⟩) ⟨by decide, by decide⟩ ⟨by decide, by decide⟩
 have hf := zeT l a0 a1 a2 z 0 0
 obtain ⟨h, hh⟩ : ∃ h, zdr l a0 a1 a2 z 0 0 = h := ⟨_, rfl⟩
 rw [hh] at hf hB
 have hlen60 := hf.len
 have hin := hf.inn
 have hC := Yq h (by omega) hin
 have hE := zcJ hf
 refine yg.of_body (c := (Zy Try.prog zG zA 133)) ⟨Try.func10, rfl, Try.ntmps10, by kernel_rfl⟩ (by simp [FV.hand]) (by exact Nat.le_of_ble_eq_true rfl) rfl ?_
 change FW _ _ _ ⟨[(0, .list 1 (l.map zF)), (1, .agg [.int .i64 a0, .int .i64 a1, .int .i64 a2])], []⟩
 (repeat (first | refine FW.seq ?_ | refine FW.region ?_ | refine zc.nil ?_ | refine WO rfl rfl rfl rfl rfl rfl rfl ?_ | refine za rfl rfl rfl ?_ | refine zb rfl rfl rfl ?_ | refine zS rfl rfl rfl (by decide) rfl rfl (by simp; done) rfl rfl rfl rfl ?_))
 refine zfE rfl rfl rfl rfl rfl rfl rfl rfl rfl rfl rfl ?_
 rw [show (FV.int IntKind.i64 (-1)) = FV.int .i64 z by rw [← hz]]
 refine ye hB (by repeat (first | exact zj.nil | refine zj.cons (by exact yu.plain rfl rfl) ?_)) (List.length_map _) rfl rfl rfl ?_
 (repeat (first | refine FW.seq ?_ | refine FW.region ?_ | refine zc.nil ?_ | refine za rfl rfl rfl ?_ | refine zb rfl rfl rfl ?_))
 refine zc.le ?_ (FLe.share 5 rfl rfl (List.length_map _).symm)
 by_cases D : yq h
 ·rw [if_pos D] at hE
  rw [hE, zij hf D] at hC
  by_cases hc : (zfk h).cls = 0
  ·obtain ⟨L, tau, e, hLl, hLi, hLn, hrt, htau⟩ := zjE (VJ hf.wf.check D) hc
   rw [e] at hC
   dsimp only [zkb.fv] at hC
   refine yZ hC (by repeat (first | exact zj.nil | refine zj.cons (by exact yu.own rfl rfl (by decide) (by first | exact (fun _ => rfl) | (intro h; cases h)) (by first | rfl | (simp; done) | (congr 1; omega) | (simp; omega) | (simp [List.take_of_length_le]; done) | (refine congrArg (FV.int .i64) ?_; omega))) ?_)) rfl rfl ?_
   (repeat (first | refine FW.seq ?_ | refine FW.region ?_ | refine FW.block ?_ | refine FW.skip ?_ | refine FW.condF rfl ?_ | refine zc.nil ?_ | refine za rfl rfl rfl ?_ | refine zb rfl rfl rfl ?_ | refine zI rfl rfl rfl rfl rfl ?_ | refine zY rfl rfl rfl rfl rfl rfl rfl ?_ | refine zC rfl rfl rfl rfl rfl rfl rfl rfl rfl ?_ | refine Zc rfl rfl rfl rfl ?_ | refine zP rfl rfl rfl rfl ?_ | refine zt rfl rfl rfl rfl rfl rfl (by decide) rfl ⟨_, _, rfl, rfl, rfl⟩ ?_ | refine zq rfl rfl rfl rfl rfl (by simp; done) rfl rfl rfl rfl ⟨_, _, rfl, rfl, rfl⟩ ?_ | refine Zc rfl rfl rfl ⟨_, _, rfl, rfl, rfl⟩ ?_))
   refine FW.le ?_ (FLe.shareP 6 rfl rfl)
   refine FW.loop (fun k : Nat => ⟨[(5, .list 8 (h.map OpV.fv)), (6, .eptr 5 [[.int .i64 2, .int .i64 0, .int .i64 0, .list 1 (L.map zQ), .list 3 []]] 0 0), (8, .own 100 0 0 (zdO h k).length), (9, .int .i64 k)], [(100, ⟨0, .own, 3, 1, (zdO h k).map zQ⟩)]⟩) (fun k => k ≤ h.length) (fun k => h.length - k) 0 (Nat.zero_le _) ?_ ?_
   ·show FLe _ ⟨[(5, .list 8 (h.map OpV.fv)), (6, .eptr 5 [[.int .i64 2, .int .i64 0, .int .i64 0, .list 1 (L.map zQ), .list 3 []]] 0 0), (8, .own 100 0 0 0), (9, .int .i64 0)], [(100, ⟨0, .own, 3, 1, []⟩)]⟩
    exact (FLe.conv [⟨100, none, 0, ⟨0, .own, 3, 1, []⟩⟩] (by simp) (by simp) rfl (by repeat (first | exact .nil | refine .low rfl ?_)) (by repeat (first | exact .nil | refine .new ?_)) (by repeat (first | exact .nil | refine .cons (.plain rfl rfl rfl) ?_ | refine .cons (.nil rfl (.head _) rfl) ?_)))
   intro k hk
   have his := zcG h k
   have hitl := zet h k
   have hiL : k = h.length → zdO h k = yF h := fun e => by rw [e]; rfl
   generalize zdO h k = I at his hitl hiL
   (repeat (first | refine FW.seq ?_ | refine FW.region ?_ | refine zc.nil ?_ | refine zb rfl rfl rfl ?_ | refine zm rfl rfl (by exact List.length_map _) rfl rfl ?_ | refine zH rfl rfl rfl rfl ?_))
   refine FW.cond rfl (fun hc1 => ?_) (fun hc1 => ?_)
   ·have hlt : k < h.length := by simpa using hc1
    clear hc1 hiL
    (repeat (first | refine FW.seq ?_ | refine FW.region ?_ | refine FW.block ?_ | refine FW.skip ?_ | refine zb rfl rfl rfl ?_))
    refine zJ (zaw h k (by omega) hlt) (by repeat (first | exact zj.nil | refine zj.cons (by exact yu.plain rfl rfl) ?_)) rfl rfl ?_
    (repeat (first | refine zc.nil ?_))
    refine FW.cond rfl (fun hi => ?_) (fun hi => ?_)
    ·rw [if_pos hi] at his
     (repeat (first | refine FW.region ?_ | refine zc.nil ?_ | refine za rfl rfl rfl ?_ | refine zb rfl rfl rfl ?_ | refine yz rfl rfl rfl rfl rfl rfl rfl rfl ?_ | refine xc rfl rfl (by first | exact (List.length_map _).symm | (simp; done) | (simp; omega)) rfl rfl rfl (by decide) (by exact XB.own rfl rfl (by decide) (by first | exact List.length_map _ | exact (List.length_map _).symm | exact List.length_replicate | rfl | (simp; done) | omega | (simp; omega))) (by first | (simp; omega) | (simp; done)) (by first | (simp; omega) | (simp; done)) rfl rfl rfl ?_ | refine zu rfl rfl (by omega) rfl rfl ?_))
     refine ⟨k + 1, by omega, by omega, ?_⟩
     rw [his, List.map_append]
     exact (FLe.conv [⟨100, some 47, 0 + 1, ⟨0, .own, 3, 1, I.map zQ ++ [k].map zQ⟩⟩] (by simp) (by simp) rfl (by repeat (first | exact .nil | refine .low rfl ?_)) (by repeat (first | exact .nil | refine .old rfl (by decide) (by first | rfl | (simp; done)) ?_)) (by repeat (first | exact .nil | refine .cons (.plain rfl rfl (by first | rfl | (simp; done))) ?_ | refine .cons (.own rfl (.head _) rfl (by first | rfl | (simp; done))) ?_)))
    ·rw [if_neg (by rw [hi]; decide), List.append_nil] at his
     (repeat (first | refine FW.region ?_ | refine FW.skip ?_ | refine zc.nil ?_ | refine za rfl rfl rfl ?_ | refine zb rfl rfl rfl ?_ | refine zu rfl rfl (by omega) rfl rfl ?_))
     refine ⟨k + 1, by omega, by omega, ?_⟩
     rw [his]
     exact (FLe.conv [⟨100, some 100, 0, ⟨0, .own, 3, 1, I.map zQ⟩⟩] (by simp) (by simp) rfl (by repeat (first | exact .nil | refine .low rfl ?_)) (by repeat (first | exact .nil | refine .old rfl (by decide) rfl ?_)) (by repeat (first | exact .nil | refine .cons (.plain rfl rfl rfl) ?_ | refine .cons (.own rfl (.head _) rfl rfl) ?_)))
   ·have hke : k = h.length := by simp at hc1; omega
    have hiL := hiL hke
    clear hc1 his
    have hrtS := fun a => zbO h a
    have hrtR := fun a k => zeK h a k
    have hrtTl := fun a => zd0 h a
    have hrtRl := fun a k => zdZ h a k
    have hrt0 : rtT h 0 = [] := rfl
    have hrt1 : ∀ a, rtR h a 0 = [] := fun a => rfl
    have hImem : ∀ i ∈ yF h, i < h.length := fun i hi => (zX.1 hi).1
    have hpi : ∀ e ∈ rtT h (yF h).length, e.1 < (yF h).length ∧ e.2 < (yF h).length := fun e he => ⟨(WS.1 he).1, (WS.1 he).2.1⟩
    have hpt : ∀ e ∈ rtT h (yF h).length, tau (nth (yF h) e.1) < tau (nth (yF h) e.2) := fun e he => by
     obtain ⟨p1, p2, p3⟩ := WS.1 he
     have m1 := zX.1 (zn p1)
     have m2 := zX.1 (zn p2)
     exact hrt _ _ m1.1 m2.1 m1.2 m2.2 p3
    have hri := fun x i (hx : x ∈ yF h) (hi : i < (yF h).length) => ziM hx hi
    have hrwS := fun n (hn : n < L.length) => ziN (h := h) hn (hLi _ (zn hn))
    have hri0 : ∀ x, rwI h x 0 = [] := fun x => rfl
    have hrw0 : rwT h L 0 = [] := rfl
    have hrwl : ∀ n, (rwT h L n).length ≤ n := fun n => by unfold rwT; rw [List.length_map, List.length_take]; omega
    have hril : ∀ x i, (rwI h x i).length ≤ 1 := fun x i => by unfold rwI; split <;> simp
    have hrwA : rwT h L L.length = L.map (XL h) := by unfold rwT; rw [List.take_length]
    have hnl : ∀ x ∈ L.map (XL h), x < (yF h).length := fun x hx => by
     obtain ⟨y, hy, rfl⟩ := List.mem_map.1 hx
     exact xw (hLi y hy)
    have hnn : (L.map (XL h)).Nodup := Uy hLn fun x y hx hy e => by
     have := xS (hLi x hx)
     rw [← this, e, xS (hLi y hy)]
    have hno : ∀ i j, i < (yF h).length → j < i → yH (rtT h (yF h).length) (nth (L.map (XL h)) i) (nth (L.map (XL h)) j) = false := fun i j hi hj => by
     rw [Bool.eq_false_iff]
     intro hr
     have hn : ∀ p, p < L.length → tau (nth (yF h) (nth (L.map (XL h)) p)) = p := fun p hp => by
      rw [zio hp, xS (hLi _ (zn hp))]; exact htau p hp
     have := zhJ.rel (R := fun a b => tau (nth (yF h) a) < tau (nth (yF h) b)) hpt (fun _ _ _ => Nat.lt_trans) (xA.1 hr)
     rw [hn i (by omega), hn j (by omega)] at this
     omega
    have hil2 := zgH h
    subst hiL
    refine FW.le ?_ (FLe.share 8 rfl rfl (by simp))
    obtain ⟨I, hI⟩ : ∃ I, yF h = I := ⟨_, rfl⟩
    simp only [hI] at hLl hLi hrtS hrtR hrtTl hImem hpi hpt hri hrwS hnl hno hil2 ⊢
    (repeat (first | refine FW.seq ?_ | refine FW.region ?_ | refine FW.block ?_ | refine FW.exit ?_ | refine zc.nil ?_ | refine za rfl rfl rfl ?_))
    refine FW.loop (fun a : Nat => ⟨[(5, .list 8 (h.map OpV.fv)), (6, .eptr 5 [[.int .i64 2, .int .i64 0, .int .i64 0, .list 1 (L.map zQ), .list 3 []]] 0 0), (8, .list 1 (I.map zQ)), (10, .own 102 0 0 (rtT h a).length), (11, .int .i64 a)], [(102, ⟨0, .own, 59, 2, (rtT h a).map edf⟩)]⟩) (fun a => a ≤ I.length) (fun a => I.length - a) 0 (Nat.zero_le _) ?_ ?_
    ·show FLe _ ⟨[(5, .list 8 (h.map OpV.fv)), (6, .eptr 5 [[.int .i64 2, .int .i64 0, .int .i64 0, .list 1 (L.map zQ), .list 3 []]] 0 0), (8, .list 1 (I.map zQ)), (10, .own 102 0 0 0), (11, .int .i64 0)], [(102, ⟨0, .own, 59, 2, []⟩)]⟩
     exact (FLe.conv [⟨102, none, 0, ⟨0, .own, 59, 2, []⟩⟩] (by simp) (by simp) rfl (by repeat (first | exact .nil | refine .low rfl ?_)) (by repeat (first | exact .nil | refine .new ?_)) (by repeat (first | exact .nil | refine .cons (.plain rfl rfl rfl) ?_ | refine .cons (.nil rfl (.head _) rfl) ?_)))
    intro a ha
    have hrtS := hrtS a
    have hrtl := hrtTl a
    have hrtl2 := Nat.mul_le_mul (show a ≤ 60 by omega) (show I.length ≤ 60 by omega)
    have hrtR := hrtR a
    have hrtRl := hrtRl a
    have hrt1 := hrt1 a
    have hrte : a = I.length → rtT h I.length = rtT h a := fun e => by rw [e]
    generalize rtR h a = RR at hrtS hrtR hrtRl hrt1
    generalize rtT h a = PP at hrtS hrtl hrte ⊢
    (repeat (first | refine FW.seq ?_ | refine FW.region ?_ | refine zc.nil ?_ | refine zb rfl rfl rfl ?_ | refine zm rfl rfl (by exact List.length_map _) rfl rfl ?_ | refine zH rfl rfl rfl rfl ?_))
    refine FW.cond rfl (fun hc1 => ?_) (fun hc1 => ?_)
    ·have hlta : a < I.length := by simpa using hc1
     clear hc1 hrte
     obtain ⟨x, hx⟩ : ∃ x, nth I a = x := ⟨_, rfl⟩
     have hxl : x < h.length := by rw [← hx]; exact hImem _ (zn hlta)
     simp only [hx] at hrtR
     (repeat (first | refine FW.seq ?_ | refine FW.region ?_ | refine FW.block ?_ | refine FW.skip ?_ | refine zc.nil ?_ | refine za rfl rfl rfl ?_))
     refine FW.loop (fun b : Nat => ⟨[(5, .list 8 (h.map OpV.fv)), (6, .eptr 5 [[.int .i64 2, .int .i64 0, .int .i64 0, .list 1 (L.map zQ), .list 3 []]] 0 0), (8, .list 1 (I.map zQ)), (10, .own 102 0 0 (PP ++ RR b).length), (11, .int .i64 a), (12, .int .i64 b)], [(102, ⟨0, .own, 59, 2, (PP ++ RR b).map edf⟩)]⟩) (fun b => b ≤ I.length) (fun b => I.length - b) 0 (Nat.zero_le _) ?_ ?_
     ·rw [hrt1, List.append_nil]
      exact (FLe.conv [⟨102, some 102, 0, ⟨0, .own, 59, 2, PP.map edf⟩⟩] (by simp) (by simp) rfl (by repeat (first | exact .nil | refine .low rfl ?_)) (by repeat (first | exact .nil | refine .old rfl (by decide) rfl ?_)) (by repeat (first | exact .nil | refine .cons (.plain rfl rfl rfl) ?_ | refine .cons (.own rfl (.head _) rfl rfl) ?_)))
     intro b hb
     (repeat (first | refine FW.seq ?_ | refine FW.region ?_ | refine zc.nil ?_ | refine zb rfl rfl rfl ?_ | refine zm rfl rfl (by exact List.length_map _) rfl rfl ?_ | refine zH rfl rfl rfl rfl ?_))
     refine FW.cond rfl (fun hc2 => ?_) (fun hc2 => ?_)
     ·have hltb : b < I.length := by simpa using hc2
      clear hc2
      obtain ⟨y, hy⟩ : ∃ y, nth I b = y := ⟨_, rfl⟩
      have hyl : y < h.length := by rw [← hy]; exact hImem _ (zn hltb)
      have hrtR := hrtR b
      have hrtRl := hrtRl b
      rw [hy] at hrtR
      have hbs := YL h x y hxl hyl
      generalize RR b = RB at hrtR hrtRl ⊢
      (repeat (first | refine FW.seq ?_ | refine FW.block ?_ | refine FW.skip ?_ | refine FW.draw ?_ | refine zV rfl rfl rfl ?_ | refine yh rfl rfl rfl (by simp; omega) (by first | exact zd (by omega) | rfl) rfl rfl rfl rfl ?_ | refine yj rfl rfl rfl rfl rfl rfl (by simp; omega) rfl rfl ?_))
      rw [hx]
      skip
      rw [hy]
      refine zg8 hbs (by repeat (first | exact zj.nil | refine zj.cons (by exact yu.plain rfl rfl) ?_)) rfl rfl ?_
      (repeat (first | refine zE.nil ?_))
      refine ⟨by kernel_rfl, ?_⟩
      skip
      refine FW.cond rfl (fun h => ?_) (fun h => ?_)
      ·rw [if_pos h] at hrtR
       (repeat (first | refine FW.region ?_ | refine zc.nil ?_ | refine za rfl rfl rfl ?_ | refine zb rfl rfl rfl ?_ | refine Xj rfl rfl rfl rfl rfl rfl rfl rfl rfl ?_ | refine yT rfl rfl rfl rfl rfl rfl rfl rfl rfl rfl ?_ | refine xc rfl rfl (by first | exact (List.length_map _).symm | (simp; done) | (simp; omega)) rfl rfl rfl (by decide) (by exact XB.own rfl rfl (by decide) (by first | exact List.length_map _ | exact (List.length_map _).symm | exact List.length_replicate | rfl | (simp; done) | omega | (simp; omega))) (by first | (simp; omega) | (simp; done)) (by first | (simp; omega) | (simp; done)) rfl rfl rfl ?_ | refine zu rfl rfl (by omega) rfl rfl ?_))
       refine ⟨b + 1, by omega, by omega, ?_⟩
       rw [hrtR, show (PP ++ (RB ++ [(a, b)])).map edf = (PP ++ RB).map edf ++ [edf (a, b)] by rw [← List.append_assoc, List.map_append]; rfl]
       exact (FLe.conv [⟨102, some 75, 0 + 1, ⟨0, .own, 59, 2, (PP ++ RB).map edf ++ [edf (a, b)]⟩⟩] (by simp) (by simp) rfl (by repeat (first | exact .nil | refine .low rfl ?_)) (by repeat (first | exact .nil | refine .old rfl (by decide) (by first | rfl | (simp; done)) ?_)) (by repeat (first | exact .nil | refine .cons (.plain rfl rfl (by first | rfl | (simp; done))) ?_ | refine .cons (.own rfl (.head _) rfl (by first | rfl | (simp; done))) ?_)))
      ·rw [if_neg (by rw [h]; decide), List.append_nil] at hrtR
       (repeat (first | refine FW.region ?_ | refine FW.skip ?_ | refine zc.nil ?_ | refine za rfl rfl rfl ?_ | refine zb rfl rfl rfl ?_ | refine zu rfl rfl (by omega) rfl rfl ?_))
       refine ⟨b + 1, by omega, by omega, ?_⟩
       rw [hrtR]
       exact (FLe.conv [⟨102, some 102, 0, ⟨0, .own, 59, 2, (PP ++ RB).map edf⟩⟩] (by simp) (by simp) rfl (by repeat (first | exact .nil | refine .low rfl ?_)) (by repeat (first | exact .nil | refine .old rfl (by decide) rfl ?_)) (by repeat (first | exact .nil | refine .cons (.plain rfl rfl rfl) ?_ | refine .cons (.own rfl (.head _) rfl rfl) ?_)))
     ·obtain rfl : b = I.length := by simp at hc2; omega
      (repeat (first | refine FW.region ?_ | refine FW.exit ?_ | refine zc.nil ?_ | refine za rfl rfl rfl ?_ | refine zb rfl rfl rfl ?_ | refine zu rfl rfl (by omega) rfl rfl ?_))
      refine ⟨a + 1, by omega, by omega, ?_⟩
      rw [hrtS]
      exact (FLe.conv [⟨102, some 102, 0, ⟨0, .own, 59, 2, (PP ++ RR I.length).map edf⟩⟩] (by simp) (by simp) rfl (by repeat (first | exact .nil | refine .low rfl ?_)) (by repeat (first | exact .nil | refine .old rfl (by decide) rfl ?_)) (by repeat (first | exact .nil | refine .cons (.plain rfl rfl rfl) ?_ | refine .cons (.own rfl (.head _) rfl rfl) ?_)))
    ·have hae : a = I.length := by simp at hc1; omega
     have hrte := hrte hae
     rw [hrte] at hpi hpt hno
     have hnw := zbz I.length PP (by omega) (by omega) hpi (fun j => tau (nth I j)) hpt
     have hil := zbt I.length (yH PP) (L.map (XL h)) (by omega) (by rw [List.length_map]; omega) hnl hnn hno
     refine FW.le ?_ (FLe.share 10 rfl rfl (by simp))
     unfold zft at hnw hil
     (repeat (first | refine FW.seq ?_ | refine FW.region ?_ | refine FW.exit ?_ | refine zb rfl rfl rfl ?_ | refine zm rfl rfl (by exact List.length_map _) rfl rfl ?_))
     refine yZ hnw (by repeat (first | exact zj.nil | refine zj.cons (by exact yu.plain rfl rfl) ?_)) rfl rfl ?_
     (repeat (first | refine FW.seq ?_ | refine FW.region ?_ | refine zc.nil ?_ | refine za rfl rfl rfl ?_ | refine zb rfl rfl rfl ?_ | refine zI rfl rfl rfl rfl rfl ?_))
     refine zhm rfl (by kernel_rfl) rfl rfl ?_
     (repeat (first | refine FW.seq ?_ | refine FW.region ?_ | refine FW.block ?_ | refine FW.skip ?_ | refine FW.condF rfl ?_ | refine zc.nil ?_ | refine za rfl rfl rfl ?_ | refine zb rfl rfl rfl ?_ | refine zP rfl rfl rfl rfl ?_ | refine Zc rfl rfl rfl ⟨_, _, rfl, rfl, rfl⟩ ?_ | refine zb rfl rfl ⟨_, _, rfl, rfl, rfl⟩ ?_))
     generalize yH PP = RB at hil ⊢
     clear hpi hpt hno hnw hrtS hrtR hrtRl hrt1 hrte hrtl hrtl2
     refine FW.loop (fun n : Nat => ⟨[(6, .eptr 5 [[.int .i64 2, .int .i64 0, .int .i64 0, .list 1 (L.map zQ), .list 3 []]] 0 0), (8, .list 1 (I.map zQ)), (13, .eptr 2 [zir I.length RB] 0 0), (15, .own 103 0 0 (rwT h L n).length), (16, .int .i64 n)], [(103, ⟨0, .own, 3, 1, (rwT h L n).map zQ⟩)]⟩) (fun n => n ≤ L.length) (fun n => L.length - n) 0 (Nat.zero_le _) ?_ ?_
     ·rw [hrw0]
      exact (FLe.conv [⟨103, none, 0, ⟨0, .own, 3, 1, []⟩⟩] (by simp) (by simp) rfl (by repeat (first | exact .nil | refine .low rfl ?_)) (by repeat (first | exact .nil | refine .new ?_)) (by repeat (first | exact .nil | refine .cons (.plain rfl rfl rfl) ?_ | refine .cons (.nil rfl (.head _) rfl) ?_)))
     intro n hn
     have hrwS := hrwS n
     have hrwl := hrwl n
     have hrwe : n = L.length → rwT h L n = L.map (XL h) := fun e => by rw [e]; exact hrwA
     generalize rwT h L n = W at hrwS hrwl hrwe ⊢
     (repeat (first | refine FW.seq ?_ | refine FW.region ?_ | refine zc.nil ?_ | refine zb rfl rfl rfl ?_ | refine zB rfl rfl rfl (by simp; done) rfl rfl rfl rfl rfl ?_ | refine ym rfl rfl rfl rfl rfl rfl rfl ?_ | refine zm rfl rfl (by first | exact List.length_map _ | rfl | (simp; done)) rfl rfl ?_ | refine zH rfl rfl rfl rfl ?_))
     refine FW.cond rfl (fun hc1 => ?_) (fun hc1 => ?_)
     ·have hltn : n < L.length := by simpa using hc1
      clear hc1 hrwe
      have hrwS := hrwS hltn
      have hxI := hLi _ (zn hltn)
      obtain ⟨x, hx⟩ : ∃ x, nth L n = x := ⟨_, rfl⟩
      rw [hx] at hrwS hxI
      have hri := fun i hi => hri x i hxI hi
      have hri0 := hri0 x
      have hril := hril x
      generalize rwI h x = RI at hri hri0 hril hrwS
      (repeat (first | refine FW.seq ?_ | refine FW.region ?_ | refine FW.block ?_ | refine FW.skip ?_ | refine zc.nil ?_ | refine za rfl rfl rfl ?_))
      refine FW.loop (fun i : Nat => ⟨[(6, .eptr 5 [[.int .i64 2, .int .i64 0, .int .i64 0, .list 1 (L.map zQ), .list 3 []]] 0 0), (8, .list 1 (I.map zQ)), (13, .eptr 2 [zir I.length RB] 0 0), (15, .own 103 0 0 (W ++ RI i).length), (16, .int .i64 n), (17, .int .i64 i)], [(103, ⟨0, .own, 3, 1, (W ++ RI i).map zQ⟩)]⟩) (fun i => i ≤ I.length) (fun i => I.length - i) 0 (Nat.zero_le _) ?_ ?_
      ·rw [hri0, List.append_nil]
       exact (FLe.conv [⟨103, some 103, 0, ⟨0, .own, 3, 1, W.map zQ⟩⟩] (by simp) (by simp) rfl (by repeat (first | exact .nil | refine .low rfl ?_)) (by repeat (first | exact .nil | refine .old rfl (by decide) rfl ?_)) (by repeat (first | exact .nil | refine .cons (.plain rfl rfl rfl) ?_ | refine .cons (.own rfl (.head _) rfl rfl) ?_)))
      intro i hi
      have hri := hri i
      have hril := hril i
      have hrie : i = I.length → RI I.length = RI i := fun e => by rw [e]
      generalize RI i = Z at hri hril hrie ⊢
      (repeat (first | refine FW.seq ?_ | refine FW.region ?_ | refine zc.nil ?_ | refine zb rfl rfl rfl ?_ | refine zm rfl rfl (by exact List.length_map _) rfl rfl ?_ | refine zH rfl rfl rfl rfl ?_))
      refine FW.cond rfl (fun hc2 => ?_) (fun hc2 => ?_)
      ·have hlti : i < I.length := by simpa using hc2
       clear hc2 hrie
       have hri := hri hlti
       obtain ⟨y, hy⟩ : ∃ y, nth I i = y := ⟨_, rfl⟩
       rw [hy] at hri
       (repeat (first | refine FW.seq ?_ | refine FW.block ?_ | refine FW.skip ?_ | refine FW.draw ?_ | refine zE.nil ?_ | refine zV rfl rfl rfl ?_ | refine yh rfl rfl rfl (by first | (simp; omega) | (simp; done)) (by first | exact zd (by omega) | rfl) rfl rfl rfl rfl ?_ | refine xI rfl rfl rfl rfl rfl rfl rfl ?_ | refine yj rfl rfl rfl rfl rfl rfl (by first | (simp; omega) | (simp; done)) rfl rfl ?_ | refine zcV rfl rfl rfl rfl ?_))
       rw [hy]
       skip
       rw [hx]
       skip
       refine ⟨by kernel_rfl, ?_⟩
       skip
       refine FW.cond rfl (fun hc3 => ?_) (fun hc3 => ?_)
       ·have e3 : y = x := by
         have := of_decide_eq_true hc3
         omega
        rw [if_pos e3] at hri
        (repeat (first | refine FW.region ?_ | refine zc.nil ?_ | refine za rfl rfl rfl ?_ | refine zb rfl rfl rfl ?_ | refine yz rfl rfl rfl rfl rfl rfl rfl rfl ?_ | refine xc rfl rfl (by first | exact (List.length_map _).symm | (simp; done) | (simp; omega)) rfl rfl rfl (by decide) (by exact XB.own rfl rfl (by decide) (by first | exact List.length_map _ | exact (List.length_map _).symm | exact List.length_replicate | rfl | (simp; done) | omega | (simp; omega))) (by first | (simp; omega) | (simp; done)) (by first | (simp; omega) | (simp; done)) rfl rfl rfl ?_ | refine zu rfl rfl (by omega) rfl rfl ?_))
        refine ⟨i + 1, by omega, by omega, ?_⟩
        rw [hri, show (W ++ (Z ++ [i])).map zQ = (W ++ Z).map zQ ++ [i].map zQ by rw [← List.append_assoc, List.map_append]]
        exact (FLe.conv [⟨103, some 117, 0 + 1, ⟨0, .own, 3, 1, (W ++ Z).map zQ ++ [i].map zQ⟩⟩] (by simp) (by simp) rfl (by repeat (first | exact .nil | refine .low rfl ?_)) (by repeat (first | exact .nil | refine .old rfl (by decide) (by first | rfl | (simp; done)) ?_)) (by repeat (first | exact .nil | refine .cons (.plain rfl rfl (by first | rfl | (simp; done))) ?_ | refine .cons (.own rfl (.head _) rfl (by first | rfl | (simp; done))) ?_)))
       ·have e3 : ¬ y = x := by
         have := of_decide_eq_false hc3
         omega
        rw [if_neg e3, List.append_nil] at hri
        (repeat (first | refine FW.region ?_ | refine FW.skip ?_ | refine zc.nil ?_ | refine za rfl rfl rfl ?_ | refine zb rfl rfl rfl ?_ | refine zu rfl rfl (by omega) rfl rfl ?_))
        refine ⟨i + 1, by omega, by omega, ?_⟩
        rw [hri]
        exact (FLe.conv [⟨103, some 103, 0, ⟨0, .own, 3, 1, (W ++ Z).map zQ⟩⟩] (by simp) (by simp) rfl (by repeat (first | exact .nil | refine .low rfl ?_)) (by repeat (first | exact .nil | refine .old rfl (by decide) rfl ?_)) (by repeat (first | exact .nil | refine .cons (.plain rfl rfl rfl) ?_ | refine .cons (.own rfl (.head _) rfl rfl) ?_)))
      ·have hie : i = I.length := by simp at hc2; omega
       (repeat (first | refine FW.region ?_ | refine FW.exit ?_ | refine zc.nil ?_ | refine za rfl rfl rfl ?_ | refine zb rfl rfl rfl ?_ | refine zu rfl rfl (by omega) rfl rfl ?_))
       refine ⟨n + 1, by omega, by omega, ?_⟩
       rw [hrwS, hrie hie]
       exact (FLe.conv [⟨103, some 103, 0, ⟨0, .own, 3, 1, (W ++ Z).map zQ⟩⟩] (by simp) (by simp) rfl (by repeat (first | exact .nil | refine .low rfl ?_)) (by repeat (first | exact .nil | refine .old rfl (by decide) rfl ?_)) (by repeat (first | exact .nil | refine .cons (.plain rfl rfl rfl) ?_ | refine .cons (.own rfl (.head _) rfl rfl) ?_)))
     ·have hne : n = L.length := by simp at hc1; omega
      rw [hrwe hne]
      refine FW.le ?_ (FLe.share 15 rfl rfl (by simp))
      (repeat (first | refine FW.seq ?_ | refine FW.region ?_ | refine FW.exit ?_ | refine zb rfl rfl rfl ?_ | refine zB rfl rfl rfl (by simp; done) rfl rfl rfl rfl rfl ?_ | refine ym rfl rfl rfl rfl rfl rfl rfl ?_ | refine zm rfl rfl (by first | exact List.length_map _ | rfl | (simp; done)) rfl rfl ?_ | refine yU rfl rfl rfl rfl ?_))
      rw [show (decide (((List.map (XL h) L).length : Int) = (L.length : Int))) = true from decide_eq_true (by rw [List.length_map])]
      (repeat (first | refine zb rfl rfl ⟨_, _, rfl, rfl, rfl⟩ ?_))
      refine zJ hil (by repeat (first | exact zj.nil | refine zj.cons (by exact yu.plain rfl rfl) ?_)) rfl ⟨_, _, rfl, rfl, rfl⟩ ?_
      (repeat (first | refine zb rfl rfl rfl ?_ | refine zM rfl rfl rfl rfl ?_))
      refine zJ YQ (by repeat (first | exact zj.nil)) rfl ⟨_, _, rfl, rfl, rfl⟩ ?_
      (repeat (first | refine zc.nil ?_ | refine za rfl rfl rfl ?_ | refine zM rfl rfl rfl rfl ?_))
      refine FW.ret ⟨.inl rfl, zO rfl rfl rfl rfl⟩
  ·obtain ⟨V, hV⟩ : ∃ V, zfk h = V := ⟨_, rfl⟩
   rw [hV] at hC hc
   obtain ⟨k, a, o, ed⟩ := V
   dsimp only [zkb.fv] at hC hc
   refine yZ hC (by repeat (first | exact zj.nil | refine zj.cons (by exact yu.own rfl rfl (by decide) (by first | exact (fun _ => rfl) | (intro h; cases h)) (by first | rfl | (simp; done) | (congr 1; omega) | (simp; omega) | (simp [List.take_of_length_le]; done) | (refine congrArg (FV.int .i64) ?_; omega))) ?_)) rfl rfl ?_
   (repeat (first | refine FW.seq ?_ | refine FW.region ?_ | refine zc.nil ?_ | refine za rfl rfl rfl ?_ | refine zb rfl rfl rfl ?_ | refine zI rfl rfl rfl rfl rfl ?_ | refine zY rfl rfl rfl rfl rfl rfl rfl ?_ | refine zC rfl rfl rfl rfl rfl rfl rfl rfl rfl ?_ | refine Zc rfl rfl rfl rfl ?_ | refine zP rfl rfl rfl rfl ?_ | refine zt rfl rfl rfl rfl rfl rfl (by decide) rfl ⟨_, _, rfl, rfl, rfl⟩ ?_ | refine zq rfl rfl rfl rfl rfl (by simp; done) rfl rfl rfl rfl ⟨_, _, rfl, rfl, rfl⟩ ?_ | refine Zc rfl rfl rfl ⟨_, _, rfl, rfl, rfl⟩ ?_))
   refine FW.condT (congrArg FV.bool (decide_eq_true hc)) ?_
   (repeat (first | refine FW.seq ?_ | refine FW.region ?_))
   refine zJ YQ (by repeat (first | exact zj.nil)) rfl rfl ?_
   (repeat (first | refine zc.nil ?_ | refine za rfl rfl rfl ?_))
   refine FW.ret ⟨.inl rfl, zO rfl rfl rfl rfl⟩
 ·rw [if_neg D] at hE
  rw [hE, show zhK h = noV by unfold zhK; rw [hE, if_pos (by decide)]] at hC
  unfold noV at hC
  refine yZ hC (by repeat (first | exact zj.nil | refine zj.cons (by exact yu.own rfl rfl (by decide) (by first | exact (fun _ => rfl) | (intro h; cases h)) (by first | rfl | (simp; done) | (congr 1; omega) | (simp; omega) | (simp [List.take_of_length_le]; done) | (refine congrArg (FV.int .i64) ?_; omega))) ?_)) rfl rfl ?_
  (repeat (first | refine FW.seq ?_ | refine FW.region ?_ | refine FW.condT rfl ?_ | refine zc.nil ?_ | refine za rfl rfl rfl ?_ | refine zb rfl rfl rfl ?_ | refine zI rfl rfl rfl rfl rfl ?_ | refine zY rfl rfl rfl rfl rfl rfl rfl ?_ | refine zC rfl rfl rfl rfl rfl rfl rfl rfl rfl ?_ | refine Zc rfl rfl rfl rfl ?_ | refine zM rfl rfl rfl rfl ?_ | refine yA rfl rfl ⟨_, _, rfl, rfl, rfl⟩ ?_))
  refine zJ YQ (by repeat (first | exact zj.nil)) rfl rfl ?_
  (repeat (first | refine zc.nil ?_ | refine za rfl rfl rfl ?_))
  refine FW.ret ⟨.inl rfl, zO rfl rfl rfl rfl⟩
end Go.Proofs.Ytbeebjdnapkhhaa
