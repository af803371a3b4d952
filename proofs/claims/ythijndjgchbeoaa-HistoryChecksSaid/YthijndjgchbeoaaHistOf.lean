/-
  history.Of: the operations of a sequence of observations.
-/
import Derived.Test.YthijndjgchbeoaaMaps
import Derived.Test.YthijndjgchbeoaaRefOf
namespace Go.Proofs.Ythijndjgchbeoaa
set_option linter.unusedVariables false
open Go.RowKit
attribute [local go_sem ↓] Go.wp_at_zero Go.wp_at_succ

def hStep (obs : List ObsV) (reqs : List ReqV) (i : Nat) (out : List OpV) : List OpV :=
  if (nth obs i).reply then out.set (nth obs i).req.toNat { nth out (nth obs i).req.toNat with done := true, ret := i, res := (nth obs i).value } else out ++ [opBase obs reqs i]
def hOfTo (obs : List ObsV) (reqs : List ReqV) (k : Nat) : List OpV := loopN (hStep obs reqs) [] k
def hOf (obs : List ObsV) (reqs : List ReqV) : List OpV := hOfTo obs reqs obs.length
/-- how many of the first k observations invoke -/
def invs (obs : List ObsV) : Nat → Nat
  | 0 => 0
  | k + 1 => invs obs k + if (nth obs k).reply then 0 else 1
/-- invocations name the requests in their order, replies name invoked ones -/
def ObsSeq (obs : List ObsV) : Prop := ∀ i, i < obs.length → if (nth obs i).reply then 0 ≤ (nth obs i).req ∧ (nth obs i).req < invs obs i else (nth obs i).req = invs obs i
theorem invs_le (obs : List ObsV) (k : Nat) : invs obs k ≤ k := by
  induction k with
  | zero => simp [invs]
  | succ k ih => simp only [invs]; split <;> omega
theorem hOfTo_len (obs : List ObsV) (reqs : List ReqV) (k : Nat) : (hOfTo obs reqs k).length = invs obs k := by
  induction k with
  | zero => simp [hOfTo, loopN, invs]
  | succ k ih =>
    simp only [hOfTo, loopN, invs, hStep] at *
    split <;> simp [ih]
/-- the map of the requests that have been invoked: each at its own number -/
noncomputable def seqMap (c : Nat) : Int → Option Value := fun x => if 0 ≤ x ∧ x < c then some (.int .i64 x) else none
theorem seqMap_zero : seqMap 0 = fun _ => none := by funext x; simp only [seqMap]; rw [if_neg (by omega)]
theorem seqMap_succ (c : Nat) : upd (seqMap c) (c : Int) (.int .i64 c) = seqMap (c + 1) := by
  funext x
  by_cases hx : x = (c : Int)
  · subst hx; rw [upd_same]; simp only [seqMap]; rw [if_pos (by push_cast; omega)]
  · rw [upd_other _ _ hx]; simp only [seqMap]
    by_cases h : 0 ≤ x ∧ x < c
    · rw [if_pos h, if_pos (by push_cast; omega)]
    · rw [if_neg h, if_neg (by push_cast; omega)]
theorem seqMap_at {c : Nat} {x : Int} (h0 : 0 ≤ x) (h1 : x < c) : (seqMap c x).getD (.int .i64 0) = .int .i64 x := by simp [seqMap, h0, h1]

theorem hStep_reply {obs : List ObsV} {reqs : List ReqV} {k q : Nat} {out : List OpV} (h : (nth obs k).reply = true) (hq : (nth obs k).req = q) : hStep obs reqs k out = out.set q { nth out q with done := true, ret := k, res := (nth obs k).value } := by
  simp [hStep, h, hq]
theorem hStep_call {obs : List ObsV} {reqs : List ReqV} {k : Nat} {out : List OpV} (h : (nth obs k).reply = false) : hStep obs reqs k out = out ++ [opBase obs reqs k] := by simp [hStep, h]

set_option maxHeartbeats 1000000 in
set_option maxRecDepth 100000 in
theorem hOf_any (A1 A2 : Option Addr) (c1 c2 : Nat) (obs : List ObsV) (reqs : List ReqV) (w : World) (h1 : Sl ObsV.vals w w.heap.size A1 obs) (h2 : Sl ReqV.vals w w.heap.size A2 reqs) (hok : ObsOk obs reqs) (hseq : ObsSeq obs) :
    Calls Try.prog 17 #[.slice A1 obs.length c1, .slice A2 reqs.length c2] w fun e w' => ∃ A c, e = .returned (.slice A (hOf obs reqs).length c) ∧
      w'.ownsRow w.heap.size 33 8 (.slice A (hOf obs reqs).length c) (hOf obs reqs).length (flat OpV.vals (hOf obs reqs)) ∧ Below w.heap.size w w' := by
  obtain ⟨hl1, hl2, hall⟩ := hok
  have hmm := @run_makeMap Try.prog
  go_enter Try.func17, Try.ntmps17
  go_wp2
  go_loopw [5, 14] (fun v i wr => ∃ (k : Nat) (A : Option Addr) (c : Nat), k ≤ obs.length ∧ i = .int .i64 k ∧ v = .slice A (hOfTo obs reqs k).length c ∧
      wr.ownsRow w.heap.size 33 8 (.slice A (hOfTo obs reqs k).length c) (hOfTo obs reqs k).length (flat OpV.vals (hOfTo obs reqs k)) ∧ Below w.heap.size w wr ∧
      MapK ikey I64 wr w.heap.size k (seqMap (invs obs k))) (fun _ i _ => obs.length - (intOf i).toNat)
  case atStart => exact ⟨0, none, 0, by omega, rfl, rfl, World.ownsRow_nil _ _ _ _, (Below.refl _ _).alloc (Nat.le_refl _) _, by rw [show invs obs 0 = 0 from rfl, seqMap_zero]; exact MapK.made w⟩
  case round =>
    obtain ⟨k, A, c, hk, rfl, rfl, hown, hb, hmap⟩ := hrel
    by_cases hlt : k < obs.length
    · obtain ⟨b1, o1, rfl, hbl1, p0, p1, p2, p3, p4⟩ := (h1.below hb).obs hlt
      have hsz := hb.size
      have hb1 : b1 < wr.heap.size := by omega
      obtain ⟨g1, g2, g3, g4, g5, g6⟩ := hall _ (nth_mem hlt)
      have hsq := hseq k hlt
      by_cases hrep : (nth obs k).reply = true
      · rw [if_pos hrep] at hsq
        obtain ⟨q, hq⟩ : ∃ q : Nat, (nth obs k).req = q := ⟨(nth obs k).req.toNat, by omega⟩
        have hlen := hOfTo_len obs reqs k
        have hql : q < (hOfTo obs reqs k).length := by omega
        have hqi : (q : Int) < invs obs k := by omega
        have hil := invs_le obs k
        obtain ⟨gb, rfl, hgb, hgs⟩ := own_addr hown (by omega)
        have f4 := hown.frozenAt (q * 8 + 4)
        have f6 := hown.frozenAt (q * 8 + 6)
        have f7 := hown.frozenAt (q * 8 + 7)
        have e4 := hown.cellAt (q * 8 + 4) (by omega)
        have e6 := hown.cellAt (q * 8 + 6) (by omega)
        have e7 := hown.cellAt (q * 8 + 7) (by omega)
        rw [flat_get OpV.wide _ _ _ hql (by omega)] at e4 e6 e7
        simp only [OpV.vals, List.getElem?_cons_succ, List.getElem?_cons_zero] at e4 e6 e7
        have He := Lib.hid (hStep_reply (reqs := reqs) (out := hOfTo obs reqs k) hrep hq)
        have Hlen := Lib.hid hlen
        have Hi := Lib.hid (show invs obs (k + 1) = invs obs k by simp [invs, hrep])
        rw [hrep] at p0
        rw [hq] at p1
        clear hrep hq hlen hsq h1 h2
        go_wp2_with (at_lookup; go_loud (refine wpList_look intKeys Try.underlying67 (Try.zeroValue3 _) (hmap.alloc _) (q : Int) (by unfold I64; omega) rfl (.tmp 22) (.tmp 24) rfl rfl rfl ?_; rw [seqMap_at (by omega) hqi]))
        go_region
        go_wp2
        go_roundw
        case rel =>
          have s2 := (hown.stored (q * 8 + 7) (.bool true)).1
          have s3 := (s2.stored (q * 8 + 6) (.int .i64 k)).1
          have s4 := (s3.stored (q * 8 + 4) (.int .i64 (nth obs k).value)).1
          have n1 : (hOfTo obs reqs (k + 1)).length = (hOfTo obs reqs k).length := by rw [hOfTo_len, hOfTo_len, Hi.out]
          refine ⟨k + 1, _, _, by omega, by go_num, by rw [n1], ?_, ?_, ?_⟩
          · rw [n1]
            have e := flat_set OpV.wide (hOfTo obs reqs k) q 7 (.bool true) { nth (hOfTo obs reqs k) q with done := true } hql (by omega) (by rw [← nth_eq hql]; rfl)
            rw [e] at s2 s3 s4
            have e2 := flat_set OpV.wide ((hOfTo obs reqs k).set q { nth (hOfTo obs reqs k) q with done := true }) q 6 (.int .i64 k) { nth (hOfTo obs reqs k) q with done := true, ret := k } (by simpa using hql) (by omega) (by rw [List.getElem_set_self]; rfl)
            rw [e2, List.set_set] at s3 s4
            have e3 := flat_set OpV.wide ((hOfTo obs reqs k).set q { nth (hOfTo obs reqs k) q with done := true, ret := k }) q 4 (.int .i64 (nth obs k).value) { nth (hOfTo obs reqs k) q with done := true, ret := k, res := (nth obs k).value } (by simpa using hql) (by omega) (by rw [List.getElem_set_self]; rfl)
            rw [e3, List.set_set] at s4
            have e4 : hOfTo obs reqs (k + 1) = hStep obs reqs k (hOfTo obs reqs k) := rfl
            rw [e4, He.out]
            exact (s4.alloc _).drew
          · exact bdrew ((((hb.setCell (p := ⟨gb, _, none⟩) hgb _).setCell (p := ⟨gb, _, none⟩) hgb _).setCell (p := ⟨gb, _, none⟩) hgb _).alloc (by simpa [World.setCell] using hsz) _)
          · rw [Hi.out]
            have hne : w.heap.size ≠ gb := fun e => hmap.ne_own hown (by simp [Value.ownBlock, e])
            exact (((((hmap.setCell (p := ⟨gb, _, none⟩) hne _).setCell (p := ⟨gb, _, none⟩) hne _).setCell (p := ⟨gb, _, none⟩) hne _).alloc _).drew).mono (by omega)
        case measure => simp [intOf]; omega
      · have hrep' : (nth obs k).reply = false := by simpa using hrep
        rw [if_neg hrep] at hsq
        obtain ⟨q, hq⟩ : ∃ q : Nat, (nth obs k).req = q := ⟨(nth obs k).req.toNat, by omega⟩
        have hlen := hOfTo_len obs reqs k
        have hql : q < reqs.length := by omega
        have hqi : q = invs obs k := by omega
        have hil := invs_le obs k
        have He := Lib.hid (hStep_call (reqs := reqs) (out := hOfTo obs reqs k) hrep')
        have Hlen := Lib.hid hlen
        have Hi := Lib.hid (show invs obs (k + 1) = invs obs k + 1 by simp [invs, hrep'])
        obtain ⟨b2, o2, rfl, hbl2, r0, r1, r2, r3⟩ := (h2.below hb).req hql
        have hb2 : b2 < wr.heap.size := by omega
        have Hqi := Lib.hid hqi
        have Hq := Lib.hid hq
        have Bo := Blk.new wr 35 (nth obs k).vals
        have Br := Blk.new (wr.alloc (.cells (nth obs k).vals.toArray 35)) 37 (nth reqs q).vals
        have Ho2 := (hown.alloc (.cells (nth obs k).vals.toArray 35)).alloc (.cells (nth reqs q).vals.toArray 37)
        have Hm2 := (hmap.alloc (.cells (nth obs k).vals.toArray 35)).alloc (.cells (nth reqs q).vals.toArray 37)
        have Hb2 := (hb.alloc hsz (.cells (nth obs k).vals.toArray 35)).alloc (by simp; omega) (.cells (nth reqs q).vals.toArray 37)
        simp only [ObsV.vals, ReqV.vals] at Bo Br Ho2 Hm2 Hb2
        rw [hrep', hq] at Bo Br Ho2 Hm2 Hb2
        rw [hrep'] at p0
        rw [hq] at p1
        clear hsq hqi hq hrep hlen hown hmap h1 h2
        have hne0 := Hm2.ne_blk Br
        have hne1 := Hm2.ne_blk (Bo.alloc (.cells #[.int .i64 (nth reqs q).node, .int .i64 (nth reqs q).op, .int .i64 (nth reqs q).key, .int .i64 (nth reqs q).arg] 37))
        have hne2 := Hm2.ne_own Ho2
        go_upto_region 11 with (at_mapUpdate; refine wpList_upd intKeys Try.underlying67 Hm2 (q : Int) (by unfold I64; omega) (.int .i64 ↑(hOfTo obs reqs k).length) rfl (.tmp 44) (.tmp 46) (.tmp 48) rfl rfl rfl rfl ?_; intro w1 hm1 hg1)
        have Bo1 := (Bo.alloc (.cells #[.int .i64 (nth reqs q).node, .int .i64 (nth reqs q).op, .int .i64 (nth reqs q).key, .int .i64 (nth reqs q).arg] 37)).grown hg1 (by simpa using fun e => hne1 e.symm)
        have Br1 := Br.grown hg1 (fun e => hne0 (by injection e with e; exact e.symm))
        have Ho1 := Ho2.kept hg1 (.inr hne2.symm)
        have Hb1 := Hb2.grown hg1 (by simp; omega) (by rintro k' ⟨⟩; exact Nat.le_refl _)
        have hs1 := hg1.size
        simp only [World.size_alloc] at Br1 hs1
        have x2 := Bo1.cell 2
        have x3 := Bo1.cell 3
        have y1 := Br1.cell 1
        have y2 := Br1.cell 2
        have y3 := Br1.cell 3
        simp only [List.getElem?_cons_succ, List.getElem?_cons_zero] at x2 x3 y1 y2 y3
        have hk2 := hOfTo_len obs reqs k
        have hk3 : (hOfTo obs reqs k).length ≤ 100000 := by omega
        clear hk2 Bo Br Ho2 Hm2 Hb2 Bo1 Br1 hne0 hne1 hne2
        go_wp2_with (at_builtin; go_loud (refine wpList_app1 slOp Ho1 rfl (.tmp 49) (.tmp 66) rfl rfl rfl (cs := [.int .i64 ((nth obs k).epoch * 12 + (nth obs k).node), .int .i64 (nth reqs q).op, .int .i64 (nth reqs q).key, .int .i64 (nth reqs q).arg, .int .i64 0, .int .i64 k, .int .i64 obs.length, .bool false]) rfl (by intro u hu; simp at hu; rcases hu with rfl | rfl | rfl | rfl | rfl | rfl | rfl | rfl <;> rfl) (by omega) (by omega) (by omega) ?_))
        intro A' c' w2 ho2 hb2 hg2 _
        go_wp2
        go_roundw
        case rel =>
          have n1 : (hOfTo obs reqs (k + 1)).length = (hOfTo obs reqs k).length + 1 := by rw [hOfTo_len, hOfTo_len, Hi.out]
          refine ⟨k + 1, _, _, by omega, by go_num, by rw [n1], ?_, Hb1.trans hb2, ?_⟩
          · rw [n1]
            have e4 : hOfTo obs reqs (k + 1) = hStep obs reqs k (hOfTo obs reqs k) := rfl
            rw [e4, He.out, flat_append, flat_one]
            have e5 : (opBase obs reqs k).vals = [.int .i64 ((nth obs k).epoch * 12 + (nth obs k).node), .int .i64 (nth reqs q).op, .int .i64 (nth reqs q).key, .int .i64 (nth reqs q).arg, .int .i64 0, .int .i64 k, .int .i64 obs.length, .bool false] := by
              simp only [opBase, OpV.vals, Hq.out, Int.toNat_natCast, Int.mul_comm]
            rw [e5]
            exact ho2
          · rw [Hi.out, ← seqMap_succ]
            have := hm1.grown hg2 (hm1.ne_own Ho1)
            rw [Hlen.out, ← Hqi.out] at this
            rw [← Hqi.out]
            exact this
        case measure => simp [intOf]; omega
    · go_wp2
      go_ret
      have e : k = obs.length := by omega
      subst e
      exact ⟨A, c, rfl, hown, hb⟩
end Go.Proofs.Ythijndjgchbeoaa
