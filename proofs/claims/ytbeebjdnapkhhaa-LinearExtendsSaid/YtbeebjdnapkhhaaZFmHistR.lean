/-
  simproofref21.History, at plain values.
-/
import Derived.Test.YtbeebjdnapkhhaaZH
import Derived.Test.YtbeebjdnapkhhaaZG
namespace Go.Proofs.Ytbeebjdnapkhhaa
set_option linter.unusedVariables false
open Go.RowKit

def zeV (b : Bool) : List FV := [.bool b]
theorem Wl (l : List Bool) (i : Nat) (b : Bool) : (l.set i b).map zeV = (l.map zeV).set i [.bool b] := List.map_set
theorem zcN (l : List OpV) (o : OpV) : (l ++ [o]).map OpV.fv = l.map OpV.fv ++ [OpV.fv o] := by rw [List.map_append]; rfl
theorem Uu (l : List OpV) (i : Nat) (o : OpV) : (l.set i o).map OpV.fv = (l.map OpV.fv).set i (OpV.fv o) := List.map_set
theorem xZ (l : List Int) (i v : Int) (hl : l.length ≤ 1000000000) (h0 : 0 ≤ i) (hi : i.toNat < l.length) : yg Try.prog 44 [.list 1 (l.map zF), .int .i64 i, .int .i64 v] (.ow 3 1) (.list 1 ((l.set i.toNat v).map zF)) := by
 have := ziw l i.toNat v hl hi
 rwa [Int.toNat_of_nonneg h0] at this
def Vp (t : Nat) (l : List OpV) (k : Nat) : List OpV := (l.take k).map (Zu t) ++ l.drop k
theorem Vq (t : Nat) (l : List OpV) (k : Nat) : (Vp t l k).length = l.length := by unfold Vp; simp; omega
theorem zci (t : Nat) (l : List OpV) : Vp t l 0 = l := by unfold Vp; simp
theorem zen (t : Nat) (l : List OpV) : Vp t l l.length = l.map (Zu t) := by unfold Vp; simp
theorem zdC (t : Nat) {l : List OpV} {k : Nat} (hk : k < l.length) : nth (Vp t l k) k = nth l k := by
 rw [zi (by rw [Vq]; exact hk), zi hk]
 unfold Vp
 rw [List.getElem_append_right (by simp; omega)]
 simp [Nat.min_eq_left (Nat.le_of_lt hk)]
theorem VU (t : Nat) {l : List OpV} {k : Nat} (hk : k < l.length) : Vp t l (k + 1) = (Vp t l k).set k (Zu t (nth l k)) := by
 unfold Vp
 rw [List.set_append_right _ _ (by simp; omega)]
 rw [List.take_succ_eq_append_getElem hk, List.map_append, List.append_assoc, zi hk]
 congr 1
 rw [show k - (List.map (Zu t) (List.take k l)).length = 0 by simp; omega, List.drop_eq_getElem_cons hk]
 rfl
theorem zch (t : Nat) {l : List OpV} {k : Nat} (hk : k < l.length) (hd : (nth l k).done = true) : Vp t l (k + 1) = Vp t l k := by
 rw [VU t hk]
 have : Zu t (nth l k) = nth (Vp t l k) k := by rw [zdC t hk]; unfold Zu; rw [if_pos hd]
 rw [this, zi (by rw [Vq]; exact hk), List.set_getElem_self]
set_option maxHeartbeats 20000000 in
theorem zfh (l : List Int) (hl : ∀ x ∈ l, I64 x) (hlen : l.length ≤ 9223372036854775807) : yg Try.prog 26 [.list 1 (l.map zF), .bool false] (.ow 41 8) (.list 8 ((XF false l).map OpV.fv)) := by
 refine yg.of_body (c := (Zy Try.prog zG zA 228)) ⟨Try.func26, rfl, Try.ntmps26, by kernel_rfl⟩ (by simp [FV.hand]) (by exact Nat.le_of_ble_eq_true rfl) rfl ?_
 change FW _ _ _ ⟨[(0, .list 1 (l.map zF)), (1, .bool false)], []⟩
 (repeat (first | refine FW.seq ?_ | refine FW.region ?_ | refine zc.nil ?_ | refine za rfl rfl rfl ?_))
 refine Zm rfl rfl rfl rfl rfl rfl rfl rfl rfl ?_
 (repeat (first | refine FW.seq ?_ | refine FW.region ?_ | refine zc.nil ?_ | refine za rfl rfl rfl ?_ | refine zad.nil ?_ | refine zad.one rfl rfl rfl ?_))
 refine Zm rfl rfl rfl rfl rfl rfl rfl rfl rfl ?_
 (repeat (first | refine FW.seq ?_ | refine FW.region ?_ | refine zc.nil ?_ | refine za rfl rfl rfl ?_ | refine zad.nil ?_ | refine zad.one rfl rfl rfl ?_))
 refine Zm rfl rfl rfl rfl rfl rfl rfl rfl rfl ?_
 (repeat (first | refine FW.seq ?_ | refine FW.region ?_ | refine zc.nil ?_ | refine za rfl rfl rfl ?_ | refine zad.nil ?_ | refine zad.one rfl rfl rfl ?_))
 refine Zm rfl rfl rfl rfl rfl rfl rfl rfl rfl ?_
 (repeat (first | refine FW.seq ?_ | refine FW.region ?_ | refine zc.nil ?_ | refine za rfl rfl rfl ?_ | refine zad.nil ?_ | refine zad.one rfl rfl rfl ?_))
 refine Zm rfl rfl rfl rfl rfl rfl rfl rfl rfl ?_
 (repeat (first | refine FW.seq ?_ | refine FW.region ?_ | refine zc.nil ?_ | refine za rfl rfl rfl ?_ | refine zad.nil ?_ | refine zad.one rfl rfl rfl ?_))
 refine Zm rfl rfl rfl rfl rfl rfl rfl rfl rfl ?_
 (repeat (first | refine FW.seq ?_ | refine FW.region ?_ | refine FW.block ?_ | refine zc.nil ?_ | refine za rfl rfl rfl ?_ | refine zad.nil ?_ | refine zad.one rfl rfl rfl ?_))
 refine FW.loop (fun z : Nat => ⟨[(0, .list 1 (l.map zF)), (1, .bool false), (5, .own 100 0 0 (WF false l z).out.length), (6, .own 101 0 0 (WF false l z).pr.length), (7, .own 102 0 0 (WF false l z).op.length), (8, .own 103 0 0 (WF false l z).ef.length), (9, .own 104 0 0 (WF false l z).rs.length), (10, .own 105 0 0 (WF false l z).now.length), (12, .int .i64 (WF false l z).time), (13, .int .i64 (WF false l z).fresh), (14, .int .i64 z)], [(100, ⟨0, .own, 41, 8, (WF false l z).out.map OpV.fv⟩), (101, ⟨0, .own, 3, 1, (WF false l z).pr.map zF⟩), (102, ⟨0, .own, 3, 1, (WF false l z).op.map zF⟩), (103, ⟨0, .own, 4, 1, (WF false l z).ef.map zeV⟩), (104, ⟨0, .own, 3, 1, (WF false l z).rs.map zF⟩), (105, ⟨0, .own, 3, 1, (WF false l z).now.map zF⟩)]⟩) (fun z => z ≤ min l.length 60) (fun z => min l.length 60 - z) 0 (Nat.zero_le _)
  ((FLe.conv [⟨100, none, 0, ⟨0, .own, 41, 8, ([] : List (List FV))⟩⟩, ⟨101, some 21, 1, ⟨0, .own, 3, 1, ([0, 1, 2] : List Int).map zF⟩⟩, ⟨102, some 22, 1, ⟨0, .own, 3, 1, ([-1, -1, -1] : List Int).map zF⟩⟩, ⟨103, some 23, 1, ⟨0, .own, 4, 1, [false, false, false].map zeV⟩⟩, ⟨104, some 24, 1, ⟨0, .own, 3, 1, ([0, 0, 0] : List Int).map zF⟩⟩, ⟨105, some 25, 1, ⟨0, .own, 3, 1, ([0, 0] : List Int).map zF⟩⟩] (by simp) (by simp) rfl (by repeat (first | exact .nil | refine .low rfl ?_)) (by repeat (first | exact .nil | refine .old rfl (by decide) rfl ?_ | refine .new ?_)) (by repeat (first | exact .nil | refine .cons (.plain rfl rfl rfl) ?_ | refine .cons (.nil rfl (.head _) rfl) ?_ | refine .cons (.own rfl (.tail _ (.head _)) rfl rfl) ?_ | refine .cons (.own rfl (.tail _ (.tail _ (.head _))) rfl rfl) ?_ | refine .cons (.own rfl (.tail _ (.tail _ (.tail _ (.head _)))) rfl rfl) ?_ | refine .cons (.own rfl (.tail _ (.tail _ (.tail _ (.tail _ (.head _))))) rfl rfl) ?_ | refine .cons (.own rfl (.tail _ (.tail _ (.tail _ (.tail _ (.tail _ (.head _)))))) rfl rfl) ?_)))) ?_
 intro i hi
 have hI := Yo false l i
 have hnext : ∀ s', xy false (nth l i) (WF false l i) = s' → WF false l (i + 1) = s' := fun s' h => h
 have hhist : i = min l.length 60 → XF false l = (WF false l i).out.map (Zu (WF false l i).time) := fun e => by unfold XF; rw [← e]
 generalize WF false l i = s at hI hnext hhist ⊢
 have ho3 := hI.o3
 have hp3 := hI.p3
 have he3 := hI.e3
 have hr3 := hI.r3
 have hn2 := hI.n2
 have hti := hI.ti
 have hli := hI.li
 have hfi := hI.fi
 (repeat (first | refine FW.seq ?_ | refine FW.region ?_ | refine zb rfl rfl rfl ?_ | refine zm rfl rfl (by exact List.length_map _) rfl rfl ?_ | refine zH rfl rfl rfl rfl ?_))
 refine xd (fun h1 => ?_) (fun h1 => ?_)
 ·have hlt : i < l.length := by simpa using h1
  (repeat (first | refine zc.nil ?_ | refine zM rfl rfl rfl rfl ?_ | refine zb rfl rfl ⟨_, _, rfl, rfl, rfl⟩ ?_ | refine zH rfl rfl rfl ⟨_, _, rfl, rfl, rfl⟩ ?_))
  refine FW.cond rfl (fun h2 => ?_) (fun h2 => ?_)
  ·have h60 : i < 60 := by simp at h2; omega
   clear h1 h2
   have hx := hl _ (zn hlt)
   obtain ⟨n, hn⟩ : ∃ n, zL (nth l i) 1000000 = n := ⟨_, rfl⟩
   have hn0 : 0 ≤ n ∧ n < 1000000 := hn ▸ ⟨xE (by decide), YF (by decide)⟩
   have hA := Yk (nth l i) 1000000 hx (by decide) (by decide)
   rw [hn] at hA
   (repeat (first | refine FW.seq ?_ | refine FW.region ?_ | refine FW.block ?_ | refine FW.skip ?_ | refine zb rfl rfl rfl ?_ | refine zD rfl rfl rfl rfl rfl rfl (by simp; omega) rfl rfl ?_ | refine zB rfl rfl rfl (by simp; omega) (by first | exact zd (by omega) | rfl) rfl rfl rfl rfl ?_))
   refine zJ hA (by repeat (first | exact zj.nil | refine zj.cons (by exact yu.plain rfl rfl) ?_)) rfl rfl ?_
   (repeat (first | refine FW.seq ?_ | refine FW.region ?_ | refine zc.nil ?_ | refine za rfl rfl rfl ?_ | refine zb rfl rfl rfl ?_ | refine zH rfl rfl rfl rfl ?_ | refine zx rfl rfl (by exact (Int.toNat_of_nonneg (by omega)).symm) rfl rfl rfl (by decide) rfl (by first | omega | (simp; omega)) rfl rfl ?_ | refine zq rfl rfl rfl rfl rfl (by first | omega | (simp; omega)) (by exact zd (by omega)) rfl rfl rfl rfl ?_ | refine zaZ rfl rfl (by omega) rfl rfl ?_ | refine zhq rfl rfl (by omega) rfl rfl ?_))
   refine FW.cond rfl (fun hop => ?_) (fun hop => ?_)
   ·have hop : nth s.op (n % 3).toNat < 0 := by simpa using hop
    (repeat (first | refine FW.seq ?_ | refine FW.region ?_ | refine FW.skip ?_ | refine FW.condF rfl ?_ | refine zc.nil ?_ | refine zb rfl rfl rfl ?_ | refine zx rfl rfl (by first | rfl | exact (Int.toNat_of_nonneg (by omega)).symm) rfl rfl rfl (by decide) rfl (by first | omega | (simp; omega) | (simp; done)) rfl rfl ?_ | refine zq rfl rfl rfl rfl rfl (by first | omega | (simp; omega) | (simp; done)) (by first | exact zd (by omega) | rfl) rfl rfl rfl rfl ?_ | refine zaZ rfl rfl (by omega) rfl rfl ?_ | refine zhq rfl rfl (by omega) rfl rfl ?_ | refine yI rfl rfl rfl rfl ?_ | refine zY rfl rfl rfl rfl rfl rfl rfl ?_ | refine zC rfl rfl rfl rfl rfl rfl rfl rfl rfl ?_ | refine zt rfl rfl rfl rfl rfl rfl (by decide) rfl rfl ?_ | refine yU rfl rfl rfl rfl ?_ | refine yP.nil ?_ | refine yP.one rfl rfl rfl rfl rfl ?_))
    refine xd (fun h1 => ?_) (fun h1 => ?_)
    ·(repeat (first | refine FW.seq ?_ | refine FW.region ?_ | refine FW.condT rfl ?_ | refine zc.nil ?_ | refine za rfl rfl rfl ?_ | refine zb rfl rfl rfl ?_ | refine yf rfl rfl rfl (by decide) rfl rfl ?_ | refine zM rfl rfl rfl rfl ?_ | refine ZY rfl rfl rfl rfl rfl rfl rfl rfl rfl ?_ | refine zu rfl rfl (by omega) rfl rfl ?_ | refine zt rfl rfl rfl rfl rfl rfl (by decide) rfl rfl ?_ | refine yA rfl rfl ⟨_, _, rfl, rfl, rfl⟩ ?_))
     refine ye (xZ s.op (n % 3) s.out.length (by omega) (by omega) (by omega)) (by repeat (first | exact zj.nil | refine zj.cons (by first | exact yu.plain rfl rfl | exact yu.own rfl rfl (by decide) (by first | exact (fun _ => rfl) | (intro h; cases h)) (by first | rfl | (simp; done) | (congr 1; omega) | (simp; omega) | (simp [List.take_of_length_le]; done) | (refine congrArg (FV.int .i64) ?_; omega))) ?_)) (List.length_map _) rfl rfl rfl ?_
     (repeat (first | refine FW.seq ?_ | refine FW.region ?_ | refine FW.exit ?_ | refine zc.nil ?_ | refine za rfl rfl rfl ?_ | refine yT rfl rfl rfl rfl rfl rfl rfl rfl rfl rfl ?_ | refine zb rfl rfl rfl ?_ | refine zx rfl rfl (by first | rfl | exact (Int.toNat_of_nonneg (by omega)).symm) rfl rfl rfl (by decide) rfl (by first | omega | (simp; omega) | (simp; done)) rfl rfl ?_ | refine zS rfl rfl rfl (by decide) rfl rfl (by first | omega | (simp; omega) | (simp; done)) (by first | exact zd (by omega) | rfl) rfl rfl rfl ?_ | refine zZ rfl rfl rfl rfl rfl rfl (by first | omega | (simp; omega) | (simp; done)) (by first | exact zd (by omega) | rfl) rfl rfl rfl ?_ | refine zu rfl rfl (by omega) rfl rfl ?_ | refine xc rfl rfl (by first | exact (List.length_map _).symm | rfl | (simp; done) | omega | (simp; omega)) rfl rfl rfl (by decide) (by exact XB.own rfl rfl (by decide) (by first | exact List.length_map _ | exact (List.length_map _).symm | exact List.length_replicate | rfl | (simp; done) | omega | (simp; omega))) (by first | omega | (simp; omega) | (simp; done)) (by first | omega | (simp; omega) | (simp; done)) rfl rfl rfl ?_))
     have hw : hsW (yM false (n / 3)) = true := by simp at h1; simp [hsW, yM]; omega
     have H : xy false (nth l i) s = ⟨s.out ++ [⟨nth s.pr (n % 3).toNat, n / 3 % 2, n / 3 / 2 % 2, (s.fresh : Int), 0, (s.time : Int), 0, false⟩], s.pr, s.op.set (n % 3).toNat (s.out.length : Int), s.ef.set (n % 3).toNat false, s.rs, s.now, s.qs, s.time + 1, s.fresh + 1⟩ := by
      unfold xy
      rw [hn, if_pos hop]
      unfold yQ yt
      simp only [hw, if_true]
      rfl
     refine ⟨i + 1, by omega, by omega, ?_⟩
     rw [hnext _ H]
     dsimp only
     rw [zcN, Wl]
     exact (FLe.conv [⟨100, some 92, 1, ⟨0, .own, 41, 8, (s.out.map OpV.fv ++ [OpV.fv ⟨nth s.pr (n % 3).toNat, n / 3 % 2, n / 3 / 2 % 2, (s.fresh : Int), 0, (s.time : Int), 0, false⟩])⟩⟩, ⟨101, some 101, 0, ⟨0, .own, 3, 1, s.pr.map zF⟩⟩, ⟨102, some 85, 1, ⟨0, .own, 3, 1, (s.op.set (n % 3).toNat (s.out.length : Int)).map zF⟩⟩, ⟨103, some 103, 0, ⟨0, .own, 4, 1, ((s.ef.map zeV).set (n % 3).toNat [.bool false])⟩⟩, ⟨104, some 104, 0, ⟨0, .own, 3, 1, s.rs.map zF⟩⟩, ⟨105, some 105, 0, ⟨0, .own, 3, 1, s.now.map zF⟩⟩] (by simp) (by simp) rfl (by repeat (first | exact .nil | refine .low rfl ?_)) (by repeat (first | exact .nil | refine .old rfl (by decide) (by first | rfl | (simp; done)) ?_)) (by repeat (first | exact .nil | refine .cons (.plain rfl rfl (by first | rfl | (simp; done))) ?_ | refine .cons (.own rfl (.head _) rfl (by first | rfl | (simp; done))) ?_ | refine .cons (.own rfl (.tail _ (.head _)) rfl (by first | rfl | (simp; done))) ?_ | refine .cons (.own rfl (.tail _ (.tail _ (.head _))) rfl (by first | rfl | (simp; done))) ?_ | refine .cons (.own rfl (.tail _ (.tail _ (.tail _ (.head _)))) rfl (by first | rfl | (simp; done))) ?_ | refine .cons (.own rfl (.tail _ (.tail _ (.tail _ (.tail _ (.head _))))) rfl (by first | rfl | (simp; done))) ?_ | refine .cons (.own rfl (.tail _ (.tail _ (.tail _ (.tail _ (.tail _ (.head _)))))) rfl (by first | rfl | (simp; done))) ?_)))
    ·(repeat (first | refine zc.nil ?_ | refine zP rfl rfl rfl rfl ?_ | refine zt rfl rfl rfl rfl rfl rfl (by decide) rfl ⟨_, _, rfl, rfl, rfl⟩ ?_ | refine zq rfl rfl rfl rfl rfl (by simp; done) rfl rfl rfl rfl ⟨_, _, rfl, rfl, rfl⟩ ?_ | refine yU rfl rfl rfl ⟨_, _, rfl, rfl, rfl⟩ ?_))
     refine FW.cond rfl (fun h3 => ?_) (fun h3 => ?_)
     ·exfalso; simp at h3; omega
     ·(repeat (first | refine FW.seq ?_ | refine FW.region ?_ | refine FW.skip ?_ | refine zc.nil ?_ | refine za rfl rfl rfl ?_ | refine zb rfl rfl rfl ?_ | refine yf rfl rfl rfl (by decide) rfl rfl ?_ | refine zu rfl rfl (by omega) rfl rfl ?_))
      refine ye (xZ s.op (n % 3) s.out.length (by omega) (by omega) (by omega)) (by repeat (first | exact zj.nil | refine zj.cons (by first | exact yu.plain rfl rfl | exact yu.own rfl rfl (by decide) (by first | exact (fun _ => rfl) | (intro h; cases h)) (by first | rfl | (simp; done) | (congr 1; omega) | (simp; omega) | (simp [List.take_of_length_le]; done) | (refine congrArg (FV.int .i64) ?_; omega))) ?_)) (List.length_map _) rfl rfl rfl ?_
      (repeat (first | refine FW.seq ?_ | refine FW.region ?_ | refine FW.exit ?_ | refine zc.nil ?_ | refine za rfl rfl rfl ?_ | refine yT rfl rfl rfl rfl rfl rfl rfl rfl rfl rfl ?_ | refine zb rfl rfl rfl ?_ | refine zx rfl rfl (by first | rfl | exact (Int.toNat_of_nonneg (by omega)).symm) rfl rfl rfl (by decide) rfl (by first | omega | (simp; omega) | (simp; done)) rfl rfl ?_ | refine zS rfl rfl rfl (by decide) rfl rfl (by first | omega | (simp; omega) | (simp; done)) (by first | exact zd (by omega) | rfl) rfl rfl rfl ?_ | refine zZ rfl rfl rfl rfl rfl rfl (by first | omega | (simp; omega) | (simp; done)) (by first | exact zd (by omega) | rfl) rfl rfl rfl ?_ | refine zu rfl rfl (by omega) rfl rfl ?_ | refine xc rfl rfl (by first | exact (List.length_map _).symm | rfl | (simp; done) | omega | (simp; omega)) rfl rfl rfl (by decide) (by exact XB.own rfl rfl (by decide) (by first | exact List.length_map _ | exact (List.length_map _).symm | exact List.length_replicate | rfl | (simp; done) | omega | (simp; omega))) (by first | omega | (simp; omega) | (simp; done)) (by first | omega | (simp; omega) | (simp; done)) rfl rfl rfl ?_))
      have hw : hsW (yM false (n / 3)) = false := by simp at h1 h3; simp [hsW, yM]; omega
      have H : xy false (nth l i) s = ⟨s.out ++ [⟨nth s.pr (n % 3).toNat, n / 3 % 2, n / 3 / 2 % 2, 0, 0, (s.time : Int), 0, false⟩], s.pr, s.op.set (n % 3).toNat (s.out.length : Int), s.ef.set (n % 3).toNat false, s.rs, s.now, s.qs, s.time + 1, s.fresh⟩ := by
       unfold xy
       rw [hn, if_pos hop]
       unfold yQ yt
       simp only [hw, if_false, Bool.false_eq_true]
       rfl
      refine ⟨i + 1, by omega, by omega, ?_⟩
      rw [hnext _ H]
      dsimp only
      rw [zcN, Wl]
      exact (FLe.conv [⟨100, some 92, 1, ⟨0, .own, 41, 8, (s.out.map OpV.fv ++ [OpV.fv ⟨nth s.pr (n % 3).toNat, n / 3 % 2, n / 3 / 2 % 2, 0, 0, (s.time : Int), 0, false⟩])⟩⟩, ⟨101, some 101, 0, ⟨0, .own, 3, 1, s.pr.map zF⟩⟩, ⟨102, some 85, 1, ⟨0, .own, 3, 1, (s.op.set (n % 3).toNat (s.out.length : Int)).map zF⟩⟩, ⟨103, some 103, 0, ⟨0, .own, 4, 1, ((s.ef.map zeV).set (n % 3).toNat [.bool false])⟩⟩, ⟨104, some 104, 0, ⟨0, .own, 3, 1, s.rs.map zF⟩⟩, ⟨105, some 105, 0, ⟨0, .own, 3, 1, s.now.map zF⟩⟩] (by simp) (by simp) rfl (by repeat (first | exact .nil | refine .low rfl ?_)) (by repeat (first | exact .nil | refine .old rfl (by decide) (by first | rfl | (simp; done)) ?_)) (by repeat (first | exact .nil | refine .cons (.plain rfl rfl (by first | rfl | (simp; done))) ?_ | refine .cons (.own rfl (.head _) rfl (by first | rfl | (simp; done))) ?_ | refine .cons (.own rfl (.tail _ (.head _)) rfl (by first | rfl | (simp; done))) ?_ | refine .cons (.own rfl (.tail _ (.tail _ (.head _))) rfl (by first | rfl | (simp; done))) ?_ | refine .cons (.own rfl (.tail _ (.tail _ (.tail _ (.head _)))) rfl (by first | rfl | (simp; done))) ?_ | refine .cons (.own rfl (.tail _ (.tail _ (.tail _ (.tail _ (.head _))))) rfl (by first | rfl | (simp; done))) ?_ | refine .cons (.own rfl (.tail _ (.tail _ (.tail _ (.tail _ (.tail _ (.head _)))))) rfl (by first | rfl | (simp; done))) ?_)))
   ·have hop : 0 ≤ nth s.op (n % 3).toNat := by simp at hop; omega
    obtain ⟨hj1, hj2, hj3⟩ := hI.opn _ (show (n % 3).toNat < 3 by omega) hop
    have hO := hI.ops _ hj1
    obtain ⟨o, ho⟩ : ∃ o, nth s.out (nth s.op (n % 3).toNat).toNat = o := ⟨_, rfl⟩
    (repeat (first | refine FW.seq ?_ | refine FW.region ?_ | refine FW.skip ?_ | refine zc.nil ?_ | refine zb rfl rfl rfl ?_ | refine zx rfl rfl (by exact (Int.toNat_of_nonneg (by omega)).symm) rfl rfl rfl (by decide) rfl (by first | omega | (simp; omega)) rfl rfl ?_ | refine zq rfl rfl rfl rfl rfl (by first | omega | (simp; omega)) (by exact zd (by omega)) rfl rfl rfl rfl ?_ | refine zS rfl rfl rfl (by decide) rfl rfl (by first | omega | (simp; omega)) (by exact zd (by omega)) rfl rfl rfl ?_ | refine zY rfl rfl rfl rfl rfl rfl rfl ?_ | refine zC rfl rfl rfl rfl rfl rfl rfl rfl rfl ?_ | refine Yz rfl rfl rfl ?_))
    rw [ho] at hO hj3
    rw [ho]
    have hkey := hO.key
    refine FW.join (fun z : List Bool × List Int × List Int => ⟨[(0, .list 1 (l.map zF)), (1, .bool false), (5, .own 100 0 0 s.out.length), (6, .own 101 0 0 s.pr.length), (7, .own 102 0 0 s.op.length), (8, .own 103 0 0 z.1.length), (9, .own 104 0 0 z.2.1.length), (10, .own 105 0 0 z.2.2.length), (12, .int .i64 s.time), (13, .int .i64 s.fresh), (14, .int .i64 i), (15, .int .i64 n), (16, .int .i64 (n % 3)), (17, .int .i64 (n / 3)), (19, .ptr 109 0 0 0)], [(100, ⟨0, .own, 41, 8, s.out.map OpV.fv⟩), (101, ⟨0, .own, 3, 1, s.pr.map zF⟩), (102, ⟨0, .own, 3, 1, s.op.map zF⟩), (103, ⟨0, .own, 4, 1, z.1.map zeV⟩), (104, ⟨0, .own, 3, 1, z.2.1.map zF⟩), (105, ⟨0, .own, 3, 1, z.2.2.map zF⟩), (109, ⟨0, .own, 41, 8, [OpV.fv o]⟩)]⟩) (fun z => zT (n % 3).toNat s = { s with ef := z.1, rs := z.2.1, now := z.2.2 }) ?_ ?_
    ·refine FW.cond rfl (fun hef => ?_) (fun hef => ?_)
     ·have hef : nth s.ef (n % 3).toNat ≠ true := by simpa using hef
      have hEM : zT (n % 3).toNat s = xX o (n % 3).toNat s := by unfold zT; rw [if_neg hef, ho]
      (repeat (first | refine FW.seq ?_ | refine FW.region ?_ | refine zc.nil ?_ | refine zb rfl rfl rfl ?_ | refine zx rfl rfl (by exact (Int.toNat_of_nonneg (by omega)).symm) rfl rfl rfl (by decide) rfl (by first | omega | (simp; omega)) rfl rfl ?_ | refine zZ rfl rfl rfl rfl rfl rfl (by first | omega | (simp; omega)) (by exact zd (by omega)) rfl rfl rfl ?_))
      refine ye (xZ s.rs (n % 3) 0 (by omega) (by omega) (by omega)) (by repeat (first | exact zj.nil | refine zj.cons (by first | exact yu.plain rfl rfl | exact yu.own rfl rfl (by decide) (by first | exact (fun _ => rfl) | (intro h; cases h)) (by first | rfl | (simp; done) | (congr 1; omega) | (simp; omega) | (simp [List.take_of_length_le]; done) | (refine congrArg (FV.int .i64) ?_; omega))) ?_)) (List.length_map _) rfl rfl rfl ?_
      (repeat (first | refine FW.seq ?_ | refine FW.region ?_ | refine FW.block ?_ | refine zc.nil ?_ | refine za rfl rfl rfl ?_ | refine zq rfl rfl rfl rfl rfl (by simp; done) rfl rfl rfl rfl rfl ?_ | refine zt rfl rfl rfl rfl rfl rfl (by decide) rfl rfl ?_ | refine yU rfl rfl rfl rfl ?_))
      refine FW.cond rfl (fun h1 => ?_) (fun h1 => ?_)
      ·have h1 : o.k = 1 := by simpa using h1
       (repeat (first | refine FW.region ?_ | refine zb rfl rfl rfl ?_ | refine zq rfl rfl rfl rfl rfl (by simp; done) rfl rfl rfl rfl rfl ?_ | refine zt rfl rfl rfl rfl rfl rfl (by decide) rfl rfl ?_))
       refine ye (xZ s.now o.key o.arg (by omega) (by omega) (by omega)) (by repeat (first | exact zj.nil | refine zj.cons (by first | exact yu.plain rfl rfl | exact yu.own rfl rfl (by decide) (by first | exact (fun _ => rfl) | (intro h; cases h)) (by first | rfl | (simp; done) | (congr 1; omega) | (simp; omega) | (simp [List.take_of_length_le]; done) | (refine congrArg (FV.int .i64) ?_; omega))) ?_)) (List.length_map _) rfl rfl rfl ?_
       (repeat (first | refine zc.nil ?_ | refine za rfl rfl rfl ?_))
       refine ⟨rfl, (s.ef.set (n % 3).toNat true, s.rs.set (n % 3).toNat 0, s.now.set o.key.toNat o.arg), ?_, ?_⟩
       ·show zT (n % 3).toNat s = _
        dsimp only
        rw [hEM]; unfold xX; rw [if_pos h1]
       ·dsimp only
        rw [Wl]
        exact (FLe.conv [⟨100, some 100, 0, ⟨0, .own, 41, 8, s.out.map OpV.fv⟩⟩, ⟨101, some 101, 0, ⟨0, .own, 3, 1, s.pr.map zF⟩⟩, ⟨102, some 102, 0, ⟨0, .own, 3, 1, s.op.map zF⟩⟩, ⟨103, some 103, 0, ⟨0, .own, 4, 1, ((s.ef.map zeV).set (n % 3).toNat [.bool true])⟩⟩, ⟨104, some 110, 1, ⟨0, .own, 3, 1, (s.rs.set (n % 3).toNat 0).map zF⟩⟩, ⟨105, some 147, 1, ⟨0, .own, 3, 1, (s.now.set o.key.toNat o.arg).map zF⟩⟩, ⟨109, some 19, 1, ⟨0, .own, 41, 8, [OpV.fv o]⟩⟩] (by simp) (by simp) rfl (by repeat (first | exact .nil | refine .low rfl ?_)) (by repeat (first | exact .nil | refine .old rfl (by decide) (by first | rfl | (simp; done)) ?_)) (by repeat (first | exact .nil | refine .cons (.plain rfl rfl (by first | rfl | (simp; done))) ?_ | refine .cons (.own rfl (.head _) rfl (by first | rfl | (simp; done))) ?_ | refine .cons (.own rfl (.tail _ (.head _)) rfl (by first | rfl | (simp; done))) ?_ | refine .cons (.own rfl (.tail _ (.tail _ (.head _))) rfl (by first | rfl | (simp; done))) ?_ | refine .cons (.own rfl (.tail _ (.tail _ (.tail _ (.head _)))) rfl (by first | rfl | (simp; done))) ?_ | refine .cons (.own rfl (.tail _ (.tail _ (.tail _ (.tail _ (.head _))))) rfl (by first | rfl | (simp; done))) ?_ | refine .cons (.own rfl (.tail _ (.tail _ (.tail _ (.tail _ (.tail _ (.head _)))))) rfl (by first | rfl | (simp; done))) ?_ | refine .cons (.ptr rfl (.tail _ (.tail _ (.tail _ (.tail _ (.tail _ (.tail _ (.head _))))))) rfl) ?_)))
      ·have h1 : o.k ≠ 1 := by simpa using h1
       (repeat (first | refine FW.seq ?_ | refine FW.region ?_ | refine zc.nil ?_ | refine za rfl rfl rfl ?_ | refine yU rfl rfl rfl rfl ?_))
       refine FW.cond rfl (fun h0 => ?_) (fun h0 => ?_)
       ·have h0 : o.k = 0 := by simpa using h0
        (repeat (first | refine FW.region ?_ | refine zb rfl rfl rfl ?_ | refine zx rfl rfl (by first | rfl | exact (Int.toNat_of_nonneg (by omega)).symm) rfl rfl rfl (by decide) rfl (by first | omega | (simp; omega) | (simp; done)) rfl rfl ?_ | refine zq rfl rfl rfl rfl rfl (by first | omega | (simp; omega) | (simp; done)) (by first | exact zd (by omega) | rfl) rfl rfl rfl rfl ?_ | refine zt rfl rfl rfl rfl rfl rfl (by decide) rfl rfl ?_))
        refine ye (xZ (s.rs.set (n % 3).toNat 0) (n % 3) (nth s.now o.key.toNat) (by simp; omega) (by omega) (by simp; omega)) (by repeat (first | exact zj.nil | refine zj.cons (by first | exact yu.plain rfl rfl | exact yu.own rfl rfl (by decide) (by first | exact (fun _ => rfl) | (intro h; cases h)) (by first | rfl | (simp; done) | (congr 1; omega) | (simp; omega) | (simp [List.take_of_length_le]; done) | (refine congrArg (FV.int .i64) ?_; omega))) ?_)) (List.length_map _) rfl rfl rfl ?_
        (repeat (first | refine zc.nil ?_ | refine za rfl rfl rfl ?_))
        refine ⟨rfl, (s.ef.set (n % 3).toNat true, (s.rs.set (n % 3).toNat 0).set (n % 3).toNat (nth s.now o.key.toNat), s.now), ?_, ?_⟩
        ·show zT (n % 3).toNat s = _
         dsimp only
         rw [hEM]; unfold xX; rw [if_neg h1, if_pos h0, List.set_set]
        ·dsimp only
         rw [Wl]
         exact (FLe.conv [⟨100, some 100, 0, ⟨0, .own, 41, 8, s.out.map OpV.fv⟩⟩, ⟨101, some 101, 0, ⟨0, .own, 3, 1, s.pr.map zF⟩⟩, ⟨102, some 102, 0, ⟨0, .own, 3, 1, s.op.map zF⟩⟩, ⟨103, some 103, 0, ⟨0, .own, 4, 1, ((s.ef.map zeV).set (n % 3).toNat [.bool true])⟩⟩, ⟨104, some 157, 1, ⟨0, .own, 3, 1, ((s.rs.set (n % 3).toNat 0).set (n % 3).toNat (nth s.now o.key.toNat)).map zF⟩⟩, ⟨105, some 105, 0, ⟨0, .own, 3, 1, s.now.map zF⟩⟩, ⟨109, some 19, 1, ⟨0, .own, 41, 8, [OpV.fv o]⟩⟩] (by simp) (by simp) rfl (by repeat (first | exact .nil | refine .low rfl ?_)) (by repeat (first | exact .nil | refine .old rfl (by decide) (by first | rfl | (simp; done)) ?_)) (by repeat (first | exact .nil | refine .cons (.plain rfl rfl (by first | rfl | (simp; done))) ?_ | refine .cons (.own rfl (.head _) rfl (by first | rfl | (simp; done))) ?_ | refine .cons (.own rfl (.tail _ (.head _)) rfl (by first | rfl | (simp; done))) ?_ | refine .cons (.own rfl (.tail _ (.tail _ (.head _))) rfl (by first | rfl | (simp; done))) ?_ | refine .cons (.own rfl (.tail _ (.tail _ (.tail _ (.head _)))) rfl (by first | rfl | (simp; done))) ?_ | refine .cons (.own rfl (.tail _ (.tail _ (.tail _ (.tail _ (.head _))))) rfl (by first | rfl | (simp; done))) ?_ | refine .cons (.own rfl (.tail _ (.tail _ (.tail _ (.tail _ (.tail _ (.head _)))))) rfl (by first | rfl | (simp; done))) ?_ | refine .cons (.ptr rfl (.tail _ (.tail _ (.tail _ (.tail _ (.tail _ (.tail _ (.head _))))))) rfl) ?_)))
       ·have h0 : o.k ≠ 0 := by simpa using h0
        exfalso
        rcases hO.k with hk | hk
        ·exact h0 (hk.trans (by decide))
        ·exact h1 (hk.trans (by decide))
     ·have hef : nth s.ef (n % 3).toNat = true := by simpa using hef
      (repeat (first | refine FW.skip ?_))
      refine ⟨rfl, (s.ef, s.rs, s.now), ?_, ?_⟩
      ·show zT (n % 3).toNat s = _
       dsimp only
       unfold zT; rw [if_pos hef]
      ·dsimp only
       exact (FLe.conv [⟨100, some 100, 0, ⟨0, .own, 41, 8, s.out.map OpV.fv⟩⟩, ⟨101, some 101, 0, ⟨0, .own, 3, 1, s.pr.map zF⟩⟩, ⟨102, some 102, 0, ⟨0, .own, 3, 1, s.op.map zF⟩⟩, ⟨103, some 103, 0, ⟨0, .own, 4, 1, s.ef.map zeV⟩⟩, ⟨104, some 104, 0, ⟨0, .own, 3, 1, s.rs.map zF⟩⟩, ⟨105, some 105, 0, ⟨0, .own, 3, 1, s.now.map zF⟩⟩, ⟨109, some 19, 1, ⟨0, .own, 41, 8, [OpV.fv o]⟩⟩] (by simp) (by simp) rfl (by repeat (first | exact .nil | refine .low rfl ?_)) (by repeat (first | exact .nil | refine .old rfl (by decide) rfl ?_)) (by repeat (first | exact .nil | refine .cons (.plain rfl rfl rfl) ?_ | refine .cons (.own rfl (.head _) rfl rfl) ?_ | refine .cons (.own rfl (.tail _ (.head _)) rfl rfl) ?_ | refine .cons (.own rfl (.tail _ (.tail _ (.head _))) rfl rfl) ?_ | refine .cons (.own rfl (.tail _ (.tail _ (.tail _ (.head _)))) rfl rfl) ?_ | refine .cons (.own rfl (.tail _ (.tail _ (.tail _ (.tail _ (.head _))))) rfl rfl) ?_ | refine .cons (.own rfl (.tail _ (.tail _ (.tail _ (.tail _ (.tail _ (.head _)))))) rfl rfl) ?_ | refine .cons (.ptr rfl (.tail _ (.tail _ (.tail _ (.tail _ (.tail _ (.tail _ (.head _))))))) rfl) ?_)))
    ·rintro ⟨ef', rs', now'⟩ hE
     dsimp only at hE ⊢
     have h1 := hI.effM (n % 3).toNat
     rw [hE] at h1
     have hr3' : rs'.length = 3 := h1.r3
     have he3' : ef'.length = 3 := h1.e3
     have hprb := hI.pr _ (show (n % 3).toNat < 3 by omega)
     clear h1
     (repeat (first | refine FW.seq ?_ | refine FW.region ?_ | refine zc.nil ?_ | refine zb rfl rfl rfl ?_ | refine zaZ rfl rfl (by omega) rfl rfl ?_ | refine yU rfl rfl rfl rfl ?_))
     refine FW.cond rfl (fun h7 => ?_) (fun h7 => ?_)
     ·have h7 : n / 3 % 8 = 7 := by simpa using h7
      (repeat (first | refine FW.seq ?_ | refine FW.region ?_ | refine zb rfl rfl rfl ?_ | refine zx rfl rfl (by exact (Int.toNat_of_nonneg (by omega)).symm) rfl rfl rfl (by decide) rfl (by first | omega | (simp; omega)) rfl rfl ?_ | refine zq rfl rfl rfl rfl rfl (by first | omega | (simp; omega)) (by exact zd (by omega)) rfl rfl rfl rfl ?_ | refine zu rfl rfl (by omega) rfl rfl ?_))
      refine ye (xZ s.pr (n % 3) (nth s.pr (n % 3).toNat + 3) (by omega) (by omega) (by omega)) (by repeat (first | exact zj.nil | refine zj.cons (by first | exact yu.plain rfl rfl | exact yu.own rfl rfl (by decide) (by first | exact (fun _ => rfl) | (intro h; cases h)) (by first | rfl | (simp; done) | (congr 1; omega) | (simp; omega) | (simp [List.take_of_length_le]; done) | (refine congrArg (FV.int .i64) ?_; omega))) ?_)) (List.length_map _) rfl rfl rfl ?_
      (repeat (first | refine FW.seq ?_ | refine FW.region ?_ | refine zc.nil ?_ | refine za rfl rfl rfl ?_ | refine zb rfl rfl rfl ?_))
      refine ye (xZ s.op (n % 3) (-1) (by omega) (by omega) (by omega)) (by repeat (first | exact zj.nil | refine zj.cons (by first | exact yu.plain rfl rfl | exact yu.own rfl rfl (by decide) (by first | exact (fun _ => rfl) | (intro h; cases h)) (by first | rfl | (simp; done) | (congr 1; omega) | (simp; omega) | (simp [List.take_of_length_le]; done) | (refine congrArg (FV.int .i64) ?_; omega))) ?_)) (List.length_map _) rfl rfl rfl ?_
      (repeat (first | refine FW.region ?_ | refine FW.exit ?_ | refine zc.nil ?_ | refine za rfl rfl rfl ?_ | refine zb rfl rfl rfl ?_ | refine zu rfl rfl (by omega) rfl rfl ?_))
      have H : xy false (nth l i) s = ⟨s.out, s.pr.set (n % 3).toNat (nth s.pr (n % 3).toNat + 3), s.op.set (n % 3).toNat (-1), ef', rs', now', s.qs, s.time, s.fresh⟩ := by
       unfold xy
       rw [hn, if_neg (by omega), hE]
       unfold zcE
       rw [if_pos h7]; rfl
      refine ⟨i + 1, by omega, by omega, ?_⟩
      rw [hnext _ H]
      dsimp only
      exact (FLe.conv [⟨100, some 100, 0, ⟨0, .own, 41, 8, s.out.map OpV.fv⟩⟩, ⟨101, some 183, 1, ⟨0, .own, 3, 1, (s.pr.set (n % 3).toNat (nth s.pr (n % 3).toNat + 3)).map zF⟩⟩, ⟨102, some 186, 1, ⟨0, .own, 3, 1, (s.op.set (n % 3).toNat (-1)).map zF⟩⟩, ⟨103, some 103, 0, ⟨0, .own, 4, 1, ef'.map zeV⟩⟩, ⟨104, some 104, 0, ⟨0, .own, 3, 1, rs'.map zF⟩⟩, ⟨105, some 105, 0, ⟨0, .own, 3, 1, now'.map zF⟩⟩] (by simp) (by simp) rfl (by repeat (first | exact .nil | refine .low rfl ?_)) (by repeat (first | exact .nil | refine .old rfl (by decide) rfl ?_)) (by repeat (first | exact .nil | refine .cons (.plain rfl rfl rfl) ?_ | refine .cons (.own rfl (.head _) rfl rfl) ?_ | refine .cons (.own rfl (.tail _ (.head _)) rfl rfl) ?_ | refine .cons (.own rfl (.tail _ (.tail _ (.head _))) rfl rfl) ?_ | refine .cons (.own rfl (.tail _ (.tail _ (.tail _ (.head _)))) rfl rfl) ?_ | refine .cons (.own rfl (.tail _ (.tail _ (.tail _ (.tail _ (.head _))))) rfl rfl) ?_ | refine .cons (.own rfl (.tail _ (.tail _ (.tail _ (.tail _ (.tail _ (.head _)))))) rfl rfl) ?_)))
     ·have h7 : n / 3 % 8 ≠ 7 := by simpa using h7
      (repeat (first | refine FW.seq ?_ | refine FW.region ?_ | refine FW.skip ?_ | refine zc.nil ?_ | refine zb rfl rfl rfl ?_ | refine zaZ rfl rfl (by omega) rfl rfl ?_ | refine zhn rfl rfl rfl rfl ?_))
      refine FW.cond rfl (fun h8 => ?_) (fun h8 => ?_)
      ·have h8 : 0 < n / 3 % 3 := by simpa using h8
       (repeat (first | refine FW.seq ?_ | refine FW.region ?_ | refine zc.nil ?_ | refine za rfl rfl rfl ?_ | refine zb rfl rfl rfl ?_ | refine zx rfl rfl (by first | rfl | exact (Int.toNat_of_nonneg (by omega)).symm) rfl rfl rfl (by decide) rfl (by first | omega | (simp; omega) | (simp; done)) rfl rfl ?_ | refine zq rfl rfl rfl rfl rfl (by first | omega | (simp; omega) | (simp; done)) (by first | exact zd (by omega) | rfl) rfl rfl rfl rfl ?_ | refine ZY rfl rfl rfl rfl rfl rfl rfl rfl rfl ?_ | refine zu rfl rfl (by omega) rfl rfl ?_ | refine zt rfl rfl rfl rfl rfl rfl (by decide) rfl rfl ?_ | refine FW.draw ?_ | refine zE.nil ?_ | refine zV rfl rfl rfl ?_ | refine xJ rfl rfl (by first | rfl | exact (Int.toNat_of_nonneg (by omega)).symm) rfl rfl rfl (by decide) rfl (by first | omega | (simp; omega) | (simp; done)) rfl rfl ?_ | refine Zj rfl rfl rfl rfl rfl (by first | omega | (simp; omega) | (simp; done)) (by first | exact zd (by omega) | rfl) rfl rfl rfl rfl ?_ | refine zcW rfl rfl rfl (by decide) rfl rfl (by first | omega | (simp; omega) | (simp; done)) (by first | exact zd (by omega) | rfl) rfl rfl rfl ?_ | refine zfA rfl rfl rfl rfl rfl rfl (by first | omega | (simp; omega) | (simp; done)) (by first | exact zd (by omega) | rfl) rfl rfl rfl ?_))
       refine ⟨by kernel_rfl, ?_⟩
       (repeat (first | refine FW.region ?_ | refine zb rfl rfl rfl ?_))
       refine ye (xZ s.op (n % 3) (-1) (by omega) (by omega) (by omega)) (by repeat (first | exact zj.nil | refine zj.cons (by first | exact yu.plain rfl rfl | exact yu.own rfl rfl (by decide) (by first | exact (fun _ => rfl) | (intro h; cases h)) (by first | rfl | (simp; done) | (congr 1; omega) | (simp; omega) | (simp [List.take_of_length_le]; done) | (refine congrArg (FV.int .i64) ?_; omega))) ?_)) (List.length_map _) rfl rfl rfl ?_
       (repeat (first | refine FW.region ?_ | refine zc.nil ?_ | refine za rfl rfl rfl ?_ | refine zb rfl rfl rfl ?_ | refine zu rfl rfl (by omega) rfl rfl ?_))
       have H : xy false (nth l i) s = ⟨s.out.set (nth s.op (n % 3).toNat).toNat { o with done := true, res := nth rs' (n % 3).toNat, ret := (s.time : Int) }, s.pr, s.op.set (n % 3).toNat (-1), ef', rs', now', s.qs, s.time + 1, s.fresh⟩ := by
        unfold xy
        rw [hn, if_neg (by omega), hE]
        unfold zcE
        rw [if_neg h7, if_pos h8]; unfold yb; dsimp only; rw [ho]
       refine ⟨i + 1, by omega, by omega, ?_⟩
       rw [hnext _ H]
       dsimp only
       rw [Uu]
       exact (FLe.conv [⟨100, some 100, 0, ⟨0, .own, 41, 8, ((s.out.map OpV.fv).set (nth s.op (n % 3).toNat).toNat (OpV.fv { o with done := true, res := nth rs' (n % 3).toNat, ret := (s.time : Int) }))⟩⟩, ⟨101, some 101, 0, ⟨0, .own, 3, 1, s.pr.map zF⟩⟩, ⟨102, some 209, 1, ⟨0, .own, 3, 1, (s.op.set (n % 3).toNat (-1)).map zF⟩⟩, ⟨103, some 103, 0, ⟨0, .own, 4, 1, ef'.map zeV⟩⟩, ⟨104, some 104, 0, ⟨0, .own, 3, 1, rs'.map zF⟩⟩, ⟨105, some 105, 0, ⟨0, .own, 3, 1, now'.map zF⟩⟩] (by simp) (by simp) rfl (by repeat (first | exact .nil | refine .low rfl ?_)) (by repeat (first | exact .nil | refine .old rfl (by decide) (by first | rfl | (simp; done)) ?_)) (by repeat (first | exact .nil | refine .cons (.plain rfl rfl (by first | rfl | (simp; done))) ?_ | refine .cons (.own rfl (.head _) rfl (by first | rfl | (simp; done))) ?_ | refine .cons (.own rfl (.tail _ (.head _)) rfl (by first | rfl | (simp; done))) ?_ | refine .cons (.own rfl (.tail _ (.tail _ (.head _))) rfl (by first | rfl | (simp; done))) ?_ | refine .cons (.own rfl (.tail _ (.tail _ (.tail _ (.head _)))) rfl (by first | rfl | (simp; done))) ?_ | refine .cons (.own rfl (.tail _ (.tail _ (.tail _ (.tail _ (.head _))))) rfl (by first | rfl | (simp; done))) ?_ | refine .cons (.own rfl (.tail _ (.tail _ (.tail _ (.tail _ (.tail _ (.head _)))))) rfl (by first | rfl | (simp; done))) ?_)))
      ·have h8 : ¬ 0 < n / 3 % 3 := by simp at h8; omega
       (repeat (first | refine FW.region ?_ | refine FW.skip ?_ | refine zc.nil ?_ | refine za rfl rfl rfl ?_ | refine zb rfl rfl rfl ?_ | refine zu rfl rfl (by omega) rfl rfl ?_))
       have H : xy false (nth l i) s = ⟨s.out, s.pr, s.op, ef', rs', now', s.qs, s.time, s.fresh⟩ := by
        unfold xy
        rw [hn, if_neg (by omega), hE]
        unfold zcE
        rw [if_neg h7, if_neg h8]
       refine ⟨i + 1, by omega, by omega, ?_⟩
       rw [hnext _ H]
       dsimp only
       exact (FLe.conv [⟨100, some 100, 0, ⟨0, .own, 41, 8, s.out.map OpV.fv⟩⟩, ⟨101, some 101, 0, ⟨0, .own, 3, 1, s.pr.map zF⟩⟩, ⟨102, some 102, 0, ⟨0, .own, 3, 1, s.op.map zF⟩⟩, ⟨103, some 103, 0, ⟨0, .own, 4, 1, ef'.map zeV⟩⟩, ⟨104, some 104, 0, ⟨0, .own, 3, 1, rs'.map zF⟩⟩, ⟨105, some 105, 0, ⟨0, .own, 3, 1, now'.map zF⟩⟩] (by simp) (by simp) rfl (by repeat (first | exact .nil | refine .low rfl ?_)) (by repeat (first | exact .nil | refine .old rfl (by decide) rfl ?_)) (by repeat (first | exact .nil | refine .cons (.plain rfl rfl rfl) ?_ | refine .cons (.own rfl (.head _) rfl rfl) ?_ | refine .cons (.own rfl (.tail _ (.head _)) rfl rfl) ?_ | refine .cons (.own rfl (.tail _ (.tail _ (.head _))) rfl rfl) ?_ | refine .cons (.own rfl (.tail _ (.tail _ (.tail _ (.head _)))) rfl rfl) ?_ | refine .cons (.own rfl (.tail _ (.tail _ (.tail _ (.tail _ (.head _))))) rfl rfl) ?_ | refine .cons (.own rfl (.tail _ (.tail _ (.tail _ (.tail _ (.tail _ (.head _)))))) rfl rfl) ?_)))
  ·have h60 : ¬ i < 60 := by simp at h2; omega
   (repeat (first | refine FW.seq ?_ | refine FW.region ?_ | refine FW.block ?_ | refine FW.exit ?_ | refine zc.nil ?_ | refine za rfl rfl rfl ?_))
   refine FW.loop (fun k : Nat => ⟨[(5, .own 100 0 0 s.out.length), (12, .int .i64 s.time), (20, .int .i64 k)], [(100, ⟨0, .own, 41, 8, (Vp s.time s.out k).map OpV.fv⟩)]⟩) (fun k => k ≤ s.out.length) (fun k => s.out.length - k) 0 (Nat.zero_le _)
    (by rw [zci]; exact (FLe.conv [⟨100, some 100, 0, ⟨0, .own, 41, 8, s.out.map OpV.fv⟩⟩] (by simp) (by simp) rfl (by repeat (first | exact .nil | refine .low rfl ?_)) (by repeat (first | exact .nil | refine .old rfl (by decide) rfl ?_)) (by repeat (first | exact .nil | refine .cons (.plain rfl rfl rfl) ?_ | refine .cons (.own rfl (.head _) rfl rfl) ?_)))) ?_
   intro k hk
   have hfl := Vq s.time s.out k
   (repeat (first | refine FW.seq ?_ | refine FW.region ?_ | refine zc.nil ?_ | refine zb rfl rfl rfl ?_ | refine yf rfl rfl rfl (by decide) rfl rfl ?_ | refine zH rfl rfl rfl rfl ?_))
   refine FW.cond rfl (fun h => ?_) (fun h => ?_)
   ·have hkl : k < s.out.length := by simpa using h
    have hat := zdC s.time hkl
    (repeat (first | refine FW.seq ?_ | refine FW.region ?_ | refine FW.block ?_ | refine FW.skip ?_ | refine zc.nil ?_ | refine zb rfl rfl rfl ?_ | refine zx rfl rfl rfl rfl rfl rfl (by decide) rfl (by first | omega | (simp; omega)) rfl rfl ?_ | refine zq rfl rfl rfl rfl rfl (by first | omega | (simp; omega)) (by first | exact zd (by omega) | rfl) rfl rfl rfl rfl ?_ | refine zt rfl rfl rfl rfl rfl rfl (by decide) rfl rfl ?_ | refine Yz rfl rfl rfl ?_))
    rw [hat]
    refine FW.cond rfl (fun hd => ?_) (fun hd => ?_)
    ·have hd : (nth s.out k).done = false := by simpa using hd
     (repeat (first | refine FW.region ?_ | refine zc.nil ?_ | refine za rfl rfl rfl ?_ | refine zb rfl rfl rfl ?_ | refine zx rfl rfl rfl rfl rfl rfl (by decide) rfl (by first | omega | (simp; omega)) rfl rfl ?_ | refine zZ rfl rfl rfl rfl rfl rfl (by first | omega | (simp; omega)) (by first | exact zd (by omega) | rfl) rfl rfl rfl ?_ | refine zu rfl rfl (by omega) rfl rfl ?_ | refine zt rfl rfl rfl rfl rfl rfl (by decide) rfl rfl ?_))
     refine ⟨k + 1, by omega, by omega, ?_⟩
     rw [VU s.time hkl, Uu, show OpV.fv (Zu s.time (nth s.out k)) = (OpV.fv (nth (Vp s.time s.out k) k)).set 6 (.int .i64 s.time) by rw [hat]; unfold Zu; rw [if_neg (by rw [hd]; decide)]; rfl]
     exact (FLe.conv [⟨100, some 100, 0, ⟨0, .own, 41, 8, ((Vp s.time s.out k).map OpV.fv).set k ((OpV.fv (nth (Vp s.time s.out k) k)).set 6 (.int .i64 s.time))⟩⟩] (by simp) (by simp) rfl (by repeat (first | exact .nil | refine .low rfl ?_)) (by repeat (first | exact .nil | refine .old rfl (by decide) rfl ?_)) (by repeat (first | exact .nil | refine .cons (.plain rfl rfl rfl) ?_ | refine .cons (.own rfl (.head _) rfl rfl) ?_)))
    ·have hd : (nth s.out k).done = true := by simpa using hd
     (repeat (first | refine FW.region ?_ | refine FW.skip ?_ | refine zc.nil ?_ | refine za rfl rfl rfl ?_ | refine zb rfl rfl rfl ?_ | refine zu rfl rfl (by omega) rfl rfl ?_))
     refine ⟨k + 1, by omega, by omega, ?_⟩
     rw [zch s.time hkl hd]
     exact (FLe.conv [⟨100, some 100, 0, ⟨0, .own, 41, 8, (Vp s.time s.out k).map OpV.fv⟩⟩] (by simp) (by simp) rfl (by repeat (first | exact .nil | refine .low rfl ?_)) (by repeat (first | exact .nil | refine .old rfl (by decide) rfl ?_)) (by repeat (first | exact .nil | refine .cons (.plain rfl rfl rfl) ?_ | refine .cons (.own rfl (.head _) rfl rfl) ?_)))
   ·have : k = s.out.length := by simp at h; omega
    subst this
    (repeat (first | refine FW.seq ?_ | refine FW.region ?_ | refine FW.exit ?_ | refine zc.nil ?_ | refine za rfl rfl rfl ?_ | refine zb rfl rfl rfl ?_))
    exact FW.ret ⟨.inl rfl, Zb rfl rfl rfl (by simp; omega) (by decide) (by rw [hhist (by omega), zen]) (opT.flatsM _)⟩
 ·have hge : ¬ i < l.length := by simp at h1; omega
  (repeat (first | refine FW.seq ?_ | refine FW.region ?_ | refine FW.block ?_ | refine FW.exit ?_ | refine FW.condF rfl ?_ | refine zc.nil ?_ | refine za rfl rfl rfl ?_ | refine zP rfl rfl rfl rfl ?_ | refine yA rfl rfl ⟨_, _, rfl, rfl, rfl⟩ ?_))
  refine FW.loop (fun k : Nat => ⟨[(5, .own 100 0 0 s.out.length), (12, .int .i64 s.time), (20, .int .i64 k)], [(100, ⟨0, .own, 41, 8, (Vp s.time s.out k).map OpV.fv⟩)]⟩) (fun k => k ≤ s.out.length) (fun k => s.out.length - k) 0 (Nat.zero_le _)
   (by rw [zci]; exact (FLe.conv [⟨100, some 100, 0, ⟨0, .own, 41, 8, s.out.map OpV.fv⟩⟩] (by simp) (by simp) rfl (by repeat (first | exact .nil | refine .low rfl ?_)) (by repeat (first | exact .nil | refine .old rfl (by decide) rfl ?_)) (by repeat (first | exact .nil | refine .cons (.plain rfl rfl rfl) ?_ | refine .cons (.own rfl (.head _) rfl rfl) ?_)))) ?_
  intro k hk
  have hfl := Vq s.time s.out k
  (repeat (first | refine FW.seq ?_ | refine FW.region ?_ | refine zc.nil ?_ | refine zb rfl rfl rfl ?_ | refine yf rfl rfl rfl (by decide) rfl rfl ?_ | refine zH rfl rfl rfl rfl ?_))
  refine FW.cond rfl (fun h => ?_) (fun h => ?_)
  ·have hkl : k < s.out.length := by simpa using h
   have hat := zdC s.time hkl
   (repeat (first | refine FW.seq ?_ | refine FW.region ?_ | refine FW.block ?_ | refine FW.skip ?_ | refine zc.nil ?_ | refine zb rfl rfl rfl ?_ | refine zx rfl rfl rfl rfl rfl rfl (by decide) rfl (by first | omega | (simp; omega)) rfl rfl ?_ | refine zq rfl rfl rfl rfl rfl (by first | omega | (simp; omega)) (by first | exact zd (by omega) | rfl) rfl rfl rfl rfl ?_ | refine zt rfl rfl rfl rfl rfl rfl (by decide) rfl rfl ?_ | refine Yz rfl rfl rfl ?_))
   rw [hat]
   refine FW.cond rfl (fun hd => ?_) (fun hd => ?_)
   ·have hd : (nth s.out k).done = false := by simpa using hd
    (repeat (first | refine FW.region ?_ | refine zc.nil ?_ | refine za rfl rfl rfl ?_ | refine zb rfl rfl rfl ?_ | refine zx rfl rfl rfl rfl rfl rfl (by decide) rfl (by first | omega | (simp; omega)) rfl rfl ?_ | refine zZ rfl rfl rfl rfl rfl rfl (by first | omega | (simp; omega)) (by first | exact zd (by omega) | rfl) rfl rfl rfl ?_ | refine zu rfl rfl (by omega) rfl rfl ?_ | refine zt rfl rfl rfl rfl rfl rfl (by decide) rfl rfl ?_))
    refine ⟨k + 1, by omega, by omega, ?_⟩
    rw [VU s.time hkl, Uu, show OpV.fv (Zu s.time (nth s.out k)) = (OpV.fv (nth (Vp s.time s.out k) k)).set 6 (.int .i64 s.time) by rw [hat]; unfold Zu; rw [if_neg (by rw [hd]; decide)]; rfl]
    exact (FLe.conv [⟨100, some 100, 0, ⟨0, .own, 41, 8, ((Vp s.time s.out k).map OpV.fv).set k ((OpV.fv (nth (Vp s.time s.out k) k)).set 6 (.int .i64 s.time))⟩⟩] (by simp) (by simp) rfl (by repeat (first | exact .nil | refine .low rfl ?_)) (by repeat (first | exact .nil | refine .old rfl (by decide) rfl ?_)) (by repeat (first | exact .nil | refine .cons (.plain rfl rfl rfl) ?_ | refine .cons (.own rfl (.head _) rfl rfl) ?_)))
   ·have hd : (nth s.out k).done = true := by simpa using hd
    (repeat (first | refine FW.region ?_ | refine FW.skip ?_ | refine zc.nil ?_ | refine za rfl rfl rfl ?_ | refine zb rfl rfl rfl ?_ | refine zu rfl rfl (by omega) rfl rfl ?_))
    refine ⟨k + 1, by omega, by omega, ?_⟩
    rw [zch s.time hkl hd]
    exact (FLe.conv [⟨100, some 100, 0, ⟨0, .own, 41, 8, (Vp s.time s.out k).map OpV.fv⟩⟩] (by simp) (by simp) rfl (by repeat (first | exact .nil | refine .low rfl ?_)) (by repeat (first | exact .nil | refine .old rfl (by decide) rfl ?_)) (by repeat (first | exact .nil | refine .cons (.plain rfl rfl rfl) ?_ | refine .cons (.own rfl (.head _) rfl rfl) ?_)))
  ·have : k = s.out.length := by simp at h; omega
   subst this
   (repeat (first | refine FW.seq ?_ | refine FW.region ?_ | refine FW.exit ?_ | refine zc.nil ?_ | refine za rfl rfl rfl ?_ | refine zb rfl rfl rfl ?_))
   exact FW.ret ⟨.inl rfl, Zb rfl rfl rfl (by simp; omega) (by decide) (by rw [hhist (by omega), zen]) (opT.flatsM _)⟩
end Go.Proofs.Ytbeebjdnapkhhaa
