/-
  simproofref20.Of: the operations of a sequence of observations, by the reference.
-/
import Derived.Test.YthijndjgchbeoaaTypes
import Derived.Deep.RegionHeld3
import Derived.Deep.DrawnRows
import Derived.Deep.DeepCutAuto
namespace Go.Proofs.Ythijndjgchbeoaa
set_option linter.unusedVariables false
open Go.RowKit
attribute [local go_sem ↓] Go.wp_at_zero Go.wp_at_succ

/-- The operation that observation i invokes, before replies are looked for. -/
def opBase (obs : List ObsV) (reqs : List ReqV) (i : Nat) : OpV :=
  ⟨12 * (nth obs i).epoch + (nth obs i).node, (nth reqs (nth obs i).req.toNat).op, (nth reqs (nth obs i).req.toNat).key, (nth reqs (nth obs i).req.toNat).arg, 0, i, obs.length, false⟩
/-- one look for a reply -/
def opStep (obs : List ObsV) (i j : Nat) (o : OpV) : OpV :=
  if (nth obs j).reply = true ∧ (nth obs j).req = (nth obs i).req then { o with done := true, ret := (j : Int), res := (nth obs j).value } else o
def opOf (obs : List ObsV) (reqs : List ReqV) (i : Nat) : OpV := loopFT (opStep obs i) (opBase obs reqs i) (i + 1) obs.length
def refOfTo (obs : List ObsV) (reqs : List ReqV) (k : Nat) : List OpV := (List.range k).filterMap fun i => if (nth obs i).reply then none else some (opOf obs reqs i)
def refOf (obs : List ObsV) (reqs : List ReqV) : List OpV := refOfTo obs reqs obs.length

/-- the observations name requests that there are, in small numbers -/
def ObsOk (obs : List ObsV) (reqs : List ReqV) : Prop :=
  obs.length ≤ 100000 ∧ reqs.length ≤ 100000 ∧ ∀ o ∈ obs, 0 ≤ o.req ∧ o.req < reqs.length ∧ 0 ≤ o.node ∧ o.node ≤ 100000 ∧ 0 ≤ o.epoch ∧ o.epoch ≤ 100000

theorem refOfTo_len (obs : List ObsV) (reqs : List ReqV) (k : Nat) : (refOfTo obs reqs k).length ≤ k := by
  have := List.length_filterMap_le (fun i => if (nth obs i).reply then none else some (opOf obs reqs i)) (List.range k)
  simpa [refOfTo] using this
theorem refOfTo_skip {obs : List ObsV} {reqs : List ReqV} {k : Nat} (h : (nth obs k).reply = true) : refOfTo obs reqs (k + 1) = refOfTo obs reqs k := by
  simp [refOfTo, List.range_succ, h]
theorem refOfTo_more {obs : List ObsV} {reqs : List ReqV} {k : Nat} (h : (nth obs k).reply = false) : refOfTo obs reqs (k + 1) = refOfTo obs reqs k ++ [opOf obs reqs k] := by
  simp [refOfTo, List.range_succ, h]

theorem opStep_yes {obs : List ObsV} {i j : Nat} {o : OpV} (h1 : (nth obs j).reply = true) (h2 : (nth obs j).req = (nth obs i).req) : opStep obs i j o = { o with done := true, ret := (j : Int), res := (nth obs j).value } := if_pos ⟨h1, h2⟩
theorem opStep_no {obs : List ObsV} {i j : Nat} {o : OpV} (h : ¬((nth obs j).reply = true ∧ (nth obs j).req = (nth obs i).req)) : opStep obs i j o = o := if_neg h

set_option maxHeartbeats 1000000 in
set_option maxRecDepth 100000 in
theorem refOf_any (A1 A2 : Option Addr) (c1 c2 : Nat) (obs : List ObsV) (reqs : List ReqV) (w : World) (h1 : Sl ObsV.vals w w.heap.size A1 obs) (h2 : Sl ReqV.vals w w.heap.size A2 reqs) (hok : ObsOk obs reqs) :
    Calls Try.prog 18 #[.slice A1 obs.length c1, .slice A2 reqs.length c2] w fun e w' => ∃ A c, e = .returned (.slice A (refOf obs reqs).length c) ∧
      w'.ownsRow w.heap.size 33 8 (.slice A (refOf obs reqs).length c) (refOf obs reqs).length (flat OpV.vals (refOf obs reqs)) ∧ Below w.heap.size w w' := by
  obtain ⟨hl1, hl2, hall⟩ := hok
  go_enter Try.func18, Try.ntmps18
  go_wp2
  go_loopw [5, 6] (fun v i wr => ∃ (k : Nat) (A : Option Addr) (c : Nat), k ≤ obs.length ∧ i = .int .i64 k ∧ v = .slice A (refOfTo obs reqs k).length c ∧
      wr.ownsRow w.heap.size 33 8 (.slice A (refOfTo obs reqs k).length c) (refOfTo obs reqs k).length (flat OpV.vals (refOfTo obs reqs k)) ∧ Below w.heap.size w wr) (fun _ i _ => obs.length - (intOf i).toNat)
  case atStart => exact ⟨0, none, 0, by omega, rfl, rfl, World.ownsRow_nil _ _ _ _, Below.refl _ _⟩
  case round =>
    obtain ⟨k, A, c, hk, rfl, rfl, hown, hb⟩ := hrel
    by_cases hlt : k < obs.length
    · obtain ⟨b1, o1, rfl, hbl1, p0, p1, p2, p3, p4⟩ := (h1.below hb).obs hlt
      have hsz := hb.size
      by_cases hrep : (nth obs k).reply = true
      · have Hs := Lib.hid (refOfTo_skip (reqs := reqs) hrep)
        go_wp2
        go_roundw
        case rel => exact ⟨k + 1, A, c, by omega, by go_num, by rw [Hs.out], by rw [Hs.out]; exact hown, hb⟩
        case measure => simp [intOf]; omega
      · have hrep' : (nth obs k).reply = false := by simpa using hrep
        have Hs := Lib.hid (refOfTo_more (reqs := reqs) hrep')
        obtain ⟨g1, g2, g3, g4, g5, g6⟩ := hall _ (nth_mem hlt)
        obtain ⟨q, hq⟩ : ∃ q : Nat, (nth obs k).req = q := ⟨(nth obs k).req.toNat, by omega⟩
        have hql : q < reqs.length := by omega
        obtain ⟨b2, o2, rfl, hbl2, r0, r1, r2, r3⟩ := (h2.below hb).req hql
        have s1 := h1.below hb
        clear h1 h2 hrep
        have hw1 : IntKind.i64.wrap (12 * (nth obs k).epoch) = 12 * (nth obs k).epoch := wrap_small _ (by omega) (by omega)
        have hw2 : IntKind.i64.wrap (12 * (nth obs k).epoch + (nth obs k).node) = 12 * (nth obs k).epoch + (nth obs k).node := wrap_small _ (by omega) (by omega)
        rw [hq] at p1
        have Hq := Lib.hid hq
        clear hq
        have hb1 : b1 < wr.heap.size := by omega
        have hb2 : b2 < wr.heap.size := by omega
        have n0 := World.new_ne _ _ p3
        go_upto_region 7 with fail
        go_cut [8] (fun s8 wx => s8 = .pointer (some ⟨wr.heap.size + 1, 0, none⟩) ∧ Blk wx (wr.heap.size + 1) 33 (opBase obs reqs k).vals ∧ wr.heap.size + 2 ≤ wx.heap.size ∧ Below wr.heap.size wr wx)
        case first =>
          go_region_held3 (fun w' => w'.cell? ⟨b1, o1 + k * 5 + 3, none⟩ = some (.int .i64 (nth obs k).epoch) ∧ w'.cell? ⟨b1, o1 + k * 5 + 2, none⟩ = some (.int .i64 (nth obs k).node) ∧ w'.cell? ⟨wr.heap.size, 1, none⟩ = some (.int .i64 (nth reqs q).op) ∧ w'.cell? ⟨wr.heap.size, 2, none⟩ = some (.int .i64 (nth reqs q).key) ∧ w'.cell? ⟨wr.heap.size, 3, none⟩ = some (.int .i64 (nth reqs q).arg)) (go_keep) (fail)
          go_wp2_with fail
          go_meet
          case rel =>
            refine ⟨rfl, ?_, by simp, bdrew (((Below.refl _ _).alloc (Nat.le_refl _) _).alloc (by simp) _)⟩
            have e := Blk.new (wr.alloc (.cells #[.int .i64 (nth reqs q).node, .int .i64 (nth reqs q).op, .int .i64 (nth reqs q).key, .int .i64 (nth reqs q).arg] 37)) 33 (opBase obs reqs k).vals
            simpa [opBase, Hq.out, OpV.vals] using Blk.drew e
        case rest =>
          obtain ⟨rfl, hblk, hws, hbw⟩ := hcut
          clear p0 p1 p2 p3 p4 r0 r1 r2 r3 hw1 hw2
          obtain ⟨wo, rfl⟩ : ∃ wo : World, wo = wr := ⟨_, rfl⟩
          go_wp2
          go_loopw [9] (fun i w3 => ∃ j : Nat, k + 1 ≤ j ∧ j ≤ obs.length ∧ i = .int .i64 j ∧ Blk w3 (wo.heap.size + 1) 33 (loopFT (opStep obs k) (opBase obs reqs k) (k + 1) j).vals ∧ wo.heap.size + 2 ≤ w3.heap.size ∧ Below wo.heap.size wo w3) (fun i _ => obs.length - (intOf i).toNat)
          case atStart => exact ⟨k + 1, by omega, by omega, by go_num, by rw [loopFT_lo]; exact hblk, hws, hbw⟩
          case round =>
            obtain ⟨j, hj1, hj2, rfl, hbl, hws, hbw⟩ := hrel
            by_cases hl3 : j < obs.length
            · obtain ⟨t0, t1, t2, t3, t4⟩ := (s1.ext' hsz hbw).obs' hl3
              obtain ⟨_, p1, _, _, _⟩ := (s1.ext' hsz hbw).obs' hlt
              rw [Hq.out] at p1
              by_cases hc : (nth obs j).reply = true ∧ (nth obs j).req = q
              · obtain ⟨hc1, hc2⟩ := hc
                have e := opStep_yes (o := loopFT (opStep obs k) (opBase obs reqs k) (k + 1) j) hc1 (hc2.trans Hq.out.symm)
                rw [← loopFT_step (opStep obs k) (opBase obs reqs k) hj1] at e
                have He := Lib.hid e
                clear e
                rw [hc1] at t0
                rw [hc2] at t1
                clear hc1 hc2
                obtain ⟨v0, v1, v2, v3, v4, v5, v6, v7⟩ := hbl.op
                have f4 := hbl.frozen 4
                have f6 := hbl.frozen 6
                have f7 := hbl.frozen 7
                have nb := World.new_ne _ _ t4
                go_wp2
                go_quiet (fail)
                go_wp2
                go_roundw
                case rel =>
                  refine ⟨j + 1, by omega, by omega, by go_num, ?_, by simpa [World.setCell] using hws, (((bdrewN hbw _).setCell (by simp) _).setCell (by simp) _).setCell (by simp) _⟩
                  rw [He.out]
                  exact (((hbl.drewN _).set_ 7 _).set_ 6 _).set_ 4 _
                case measure => simp [intOf]; omega
              · have e := opStep_no (o := loopFT (opStep obs k) (opBase obs reqs k) (k + 1) j) (fun h => hc ⟨h.1, h.2.trans Hq.out⟩)
                rw [← loopFT_step (opStep obs k) (opBase obs reqs k) hj1] at e
                have He := Lib.hid e
                clear e
                by_cases hr : (nth obs j).reply = true
                · rw [hr] at t0
                  have hd : ((nth obs j).req == (q : Int)) = false := by simpa [hr] using hc
                  clear hc hr
                  go_wp2
                  go_quiet (fail)
                  go_wp2
                  go_roundw
                  case rel => exact ⟨j + 1, by omega, by omega, by go_num, by rw [He.out]; exact hbl, hws, bdrewN hbw _⟩
                  case measure => simp [intOf]; omega
                · have hr' : (nth obs j).reply = false := by simpa using hr
                  rw [hr'] at t0
                  clear hr hr' hc
                  go_wp2
                  go_quiet (fail)
                  go_wp2
                  go_roundw
                  case rel => exact ⟨j + 1, by omega, by omega, by go_num, by rw [He.out]; exact hbl, hws, bdrewN hbw _⟩
                  case measure => simp [intOf]; omega
            · obtain rfl : j = obs.length := by omega
              obtain ⟨o, ho⟩ : ∃ o, o = opOf obs reqs k := ⟨_, rfl⟩
              have hbl2 : Blk wr (wo.heap.size + 1) 33 o.vals := by rw [ho]; exact hbl
              have Ho := Lib.hid ho
              clear ho hbl
              have hown2 := own_below hown hbw
              have hk2 := refOfTo_len obs reqs k
              obtain ⟨v0, v1, v2, v3, v4, v5, v6, v7⟩ := hbl2.op
              go_wp2_with (at_builtin; go_loud (refine wpList_app1 slOp hown2 rfl (.tmp 86) (.tmp 88) rfl rfl rfl (cs := o.vals) rfl o.one (by omega) (by omega) (by omega) ?_))
              intro A' c' w1 hown' hbw1 _ _
              go_wp2
              go_roundw
              case rel => exact ⟨k + 1, A', c', by omega, by go_num, by rw [Hs.out]; simp, by rw [Hs.out, flat_append, flat_one, ← Ho.out]; simpa using hown', (hb.trans (hbw.mono hsz)).trans hbw1⟩
              case measure => simp [intOf]; omega
    · go_wp2
      go_ret
      have e : k = obs.length := by omega
      subst e
      exact ⟨A, c, rfl, hown, hb⟩
end Go.Proofs.Ythijndjgchbeoaa
