/-
  Some texts as one: RCheck, RefOf, HistOf, Observed, HistPlain, SoundPlain, CheckPlain, Events, GenPlain, Same, Picks, Appends.
-/
import Derived.Test.YtflkbehbenlhaaaZD
import Derived.Deep.RegionHeld3
import Derived.Deep.DrawnRows
import Derived.Deep.DeepCutAuto
/-
  simproofref20.Check: why a list of operations is not a history, by the reference.
-/
namespace Go.Proofs.Ytflkbehbenlhaaa
set_option linter.unusedVariables false
open Go.RowKit
attribute [local go_sem ↓] Go.wp_at_zero Go.wp_at_succ

end Go.Proofs.Ytflkbehbenlhaaa
/-
  simproofref20.Of: the operations of a sequence of observations, by the reference.
-/
namespace Go.Proofs.Ytflkbehbenlhaaa
set_option linter.unusedVariables false
open Go.RowKit
attribute [local go_sem ↓] Go.wp_at_zero Go.wp_at_succ

def opBase (obs : List ObsV) (reqs : List ReqV) (i : Nat) : OpV :=
  ⟨12 * (nth obs i).epoch + (nth obs i).node, (nth reqs (nth obs i).req.toNat).op, (nth reqs (nth obs i).req.toNat).key, (nth reqs (nth obs i).req.toNat).arg, 0, i, obs.length, false⟩
def ObsOk (obs : List ObsV) (reqs : List ReqV) : Prop :=
  obs.length ≤ 100000 ∧ reqs.length ≤ 100000 ∧ ∀ o ∈ obs, 0 ≤ o.req ∧ o.req < reqs.length ∧ 0 ≤ o.node ∧ o.node ≤ 100000 ∧ 0 ≤ o.epoch ∧ o.epoch ≤ 100000

end Go.Proofs.Ytflkbehbenlhaaa
/-
  history.Of: the operations of a sequence of observations.
-/
namespace Go.Proofs.Ytflkbehbenlhaaa
set_option linter.unusedVariables false
open Go.RowKit
attribute [local go_sem ↓] Go.wp_at_zero Go.wp_at_succ

def hStep (obs : List ObsV) (reqs : List ReqV) (i : Nat) (out : List OpV) : List OpV :=
  if (nth obs i).reply then out.set (nth obs i).req.toNat { nth out (nth obs i).req.toNat with done := true, ret := i, res := (nth obs i).value } else out ++ [opBase obs reqs i]
def hOfTo (obs : List ObsV) (reqs : List ReqV) (k : Nat) : List OpV := loopN (hStep obs reqs) [] k
def hOf (obs : List ObsV) (reqs : List ReqV) : List OpV := hOfTo obs reqs obs.length
def invs (obs : List ObsV) : Nat → Nat
  | 0 => 0
  | k + 1 => invs obs k + if (nth obs k).reply then 0 else 1
def ObsSeq (obs : List ObsV) : Prop := ∀ i, i < obs.length → if (nth obs i).reply then 0 ≤ (nth obs i).req ∧ (nth obs i).req < invs obs i else (nth obs i).req = invs obs i
theorem invs_le (obs : List ObsV) (k : Nat) : invs obs k ≤ k := by
  induction k with
  | zero => simp [invs]
  | succ k ih => simp only [invs]; split <;> omega
theorem hOfTo_len (obs : List ObsV) (reqs : List ReqV) (k : Nat) : (hOfTo obs reqs k).length = invs obs k := by
  induction k with
  | zero => simp [hOfTo, loopN, invs]
  | succ k ih =>
    simp only [hOfTo, loopN, invs, hStep] at *
    split <;> simp [ih]
noncomputable def seqMap (c : Nat) : Int → Option Value := fun x => if 0 ≤ x ∧ x < c then some (.int .i64 x) else none
theorem seqMap_zero : seqMap 0 = fun _ => none := by funext x; simp only [seqMap]; rw [if_neg (by omega)]
theorem seqMap_succ (c : Nat) : upd (seqMap c) (c : Int) (.int .i64 c) = seqMap (c + 1) := by
  funext x
  by_cases hx : x = (c : Int)
  · subst hx; rw [upd_same]; simp only [seqMap]; rw [if_pos (by push_cast; omega)]
  · rw [upd_other _ _ hx]; simp only [seqMap]
    by_cases h : 0 ≤ x ∧ x < c
    · rw [if_pos h, if_pos (by push_cast; omega)]
    · rw [if_neg h, if_neg (by push_cast; omega)]
theorem seqMap_at {c : Nat} {x : Int} (h0 : 0 ≤ x) (h1 : x < c) : (seqMap c x).getD (.int .i64 0) = .int .i64 x := by simp [seqMap, h0, h1]

theorem hStep_reply {obs : List ObsV} {reqs : List ReqV} {k q : Nat} {out : List OpV} (h : (nth obs k).reply = true) (hq : (nth obs k).req = q) : hStep obs reqs k out = out.set q { nth out q with done := true, ret := k, res := (nth obs k).value } := by
  simp [hStep, h, hq]
theorem hStep_call {obs : List ObsV} {reqs : List ReqV} {k : Nat} {out : List OpV} (h : (nth obs k).reply = false) : hStep obs reqs k out = out ++ [opBase obs reqs k] := by simp [hStep, h]

set_option maxHeartbeats 1000000 in
set_option maxRecDepth 100000 in
theorem hOf_any (A1 A2 : Option Addr) (c1 c2 : Nat) (obs : List ObsV) (reqs : List ReqV) (w : World) (h1 : Sl ObsV.vals w w.heap.size A1 obs) (h2 : Sl ReqV.vals w w.heap.size A2 reqs) (hok : ObsOk obs reqs) (hseq : ObsSeq obs) :
    Calls Try.prog 57 #[.slice A1 obs.length c1, .slice A2 reqs.length c2] w fun e w' => ∃ A c, e = .returned (.slice A (hOf obs reqs).length c) ∧
      w'.ownsRow w.heap.size 37 8 (.slice A (hOf obs reqs).length c) (hOf obs reqs).length (flat OpV.vals (hOf obs reqs)) ∧ Below w.heap.size w w' := by
  obtain ⟨hl1, hl2, hall⟩ := hok
  have hmm := @run_makeMap Try.prog
  go_enter Try.func57, Try.ntmps57
  go_wp2
  go_loopw [5, 14] (fun v i wr => ∃ (k : Nat) (A : Option Addr) (c : Nat), k ≤ obs.length ∧ i = .int .i64 k ∧ v = .slice A (hOfTo obs reqs k).length c ∧
      wr.ownsRow w.heap.size 37 8 (.slice A (hOfTo obs reqs k).length c) (hOfTo obs reqs k).length (flat OpV.vals (hOfTo obs reqs k)) ∧ Below w.heap.size w wr ∧
      MapK ikey I64 wr w.heap.size k (seqMap (invs obs k))) (fun _ i _ => obs.length - (intOf i).toNat)
  case atStart => exact ⟨0, none, 0, by omega, rfl, rfl, World.ownsRow_nil _ _ _ _, (Below.refl _ _).alloc (Nat.le_refl _) _, by rw [show invs obs 0 = 0 from rfl, seqMap_zero]; exact MapK.made w⟩
  case round =>
    obtain ⟨k, A, c, hk, rfl, rfl, hown, hb, hmap⟩ := hrel
    by_cases hlt : k < obs.length
    · obtain ⟨b1, o1, rfl, hbl1, p0, p1, p2, p3, p4⟩ := (h1.below hb).obs hlt
      have hsz := hb.size
      have hb1 : b1 < wr.heap.size := by omega
      obtain ⟨g1, g2, g3, g4, g5, g6⟩ := hall _ (nth_mem hlt)
      have hsq := hseq k hlt
      by_cases hrep : (nth obs k).reply = true
      · rw [if_pos hrep] at hsq
        obtain ⟨q, hq⟩ : ∃ q : Nat, (nth obs k).req = q := ⟨(nth obs k).req.toNat, by omega⟩
        have hlen := hOfTo_len obs reqs k
        have hql : q < (hOfTo obs reqs k).length := by omega
        have hqi : (q : Int) < invs obs k := by omega
        have hil := invs_le obs k
        obtain ⟨gb, rfl, hgb, hgs⟩ := own_addr hown (by omega)
        have f4 := hown.frozenAt (q * 8 + 4)
        have f6 := hown.frozenAt (q * 8 + 6)
        have f7 := hown.frozenAt (q * 8 + 7)
        have e4 := hown.cellAt (q * 8 + 4) (by omega)
        have e6 := hown.cellAt (q * 8 + 6) (by omega)
        have e7 := hown.cellAt (q * 8 + 7) (by omega)
        rw [flat_get OpV.wide _ _ _ hql (by omega)] at e4 e6 e7
        simp only [OpV.vals, List.getElem?_cons_succ, List.getElem?_cons_zero] at e4 e6 e7
        have He := Lib.hid (hStep_reply (reqs := reqs) (out := hOfTo obs reqs k) hrep hq)
        have Hlen := Lib.hid hlen
        have Hi := Lib.hid (show invs obs (k + 1) = invs obs k by simp [invs, hrep])
        rw [hrep] at p0
        rw [hq] at p1
        clear hrep hq hlen hsq h1 h2
        go_wp2_with (at_lookup; go_loud (refine wpList_look intKeys Try.underlying125 (Try.zeroValue3 _) (hmap.alloc _) (q : Int) (by unfold I64; omega) rfl (.tmp 22) (.tmp 24) rfl rfl rfl ?_; rw [seqMap_at (by omega) hqi]))
        go_region
        go_wp2
        go_roundw
        case rel =>
          have s2 := (hown.stored (q * 8 + 7) (.bool true)).1
          have s3 := (s2.stored (q * 8 + 6) (.int .i64 k)).1
          have s4 := (s3.stored (q * 8 + 4) (.int .i64 (nth obs k).value)).1
          have n1 : (hOfTo obs reqs (k + 1)).length = (hOfTo obs reqs k).length := by rw [hOfTo_len, hOfTo_len, Hi.out]
          refine ⟨k + 1, _, _, by omega, by go_num, by rw [n1], ?_, ?_, ?_⟩
          · rw [n1]
            have e := flat_set OpV.wide (hOfTo obs reqs k) q 7 (.bool true) { nth (hOfTo obs reqs k) q with done := true } hql (by omega) (by rw [← nth_eq hql]; rfl)
            rw [e] at s2 s3 s4
            have e2 := flat_set OpV.wide ((hOfTo obs reqs k).set q { nth (hOfTo obs reqs k) q with done := true }) q 6 (.int .i64 k) { nth (hOfTo obs reqs k) q with done := true, ret := k } (by simpa using hql) (by omega) (by rw [List.getElem_set_self]; rfl)
            rw [e2, List.set_set] at s3 s4
            have e3 := flat_set OpV.wide ((hOfTo obs reqs k).set q { nth (hOfTo obs reqs k) q with done := true, ret := k }) q 4 (.int .i64 (nth obs k).value) { nth (hOfTo obs reqs k) q with done := true, ret := k, res := (nth obs k).value } (by simpa using hql) (by omega) (by rw [List.getElem_set_self]; rfl)
            rw [e3, List.set_set] at s4
            have e4 : hOfTo obs reqs (k + 1) = hStep obs reqs k (hOfTo obs reqs k) := rfl
            rw [e4, He.out]
            exact (s4.alloc _).drew
          · exact bdrew ((((hb.setCell (p := ⟨gb, _, none⟩) hgb _).setCell (p := ⟨gb, _, none⟩) hgb _).setCell (p := ⟨gb, _, none⟩) hgb _).alloc (by simpa [World.setCell] using hsz) _)
          · rw [Hi.out]
            have hne : w.heap.size ≠ gb := fun e => hmap.ne_own hown (by simp [Value.ownBlock, e])
            exact (((((hmap.setCell (p := ⟨gb, _, none⟩) hne _).setCell (p := ⟨gb, _, none⟩) hne _).setCell (p := ⟨gb, _, none⟩) hne _).alloc _).drew).mono (by omega)
        case measure => simp [intOf]; omega
      · have hrep' : (nth obs k).reply = false := by simpa using hrep
        rw [if_neg hrep] at hsq
        obtain ⟨q, hq⟩ : ∃ q : Nat, (nth obs k).req = q := ⟨(nth obs k).req.toNat, by omega⟩
        have hlen := hOfTo_len obs reqs k
        have hql : q < reqs.length := by omega
        have hqi : q = invs obs k := by omega
        have hil := invs_le obs k
        have He := Lib.hid (hStep_call (reqs := reqs) (out := hOfTo obs reqs k) hrep')
        have Hlen := Lib.hid hlen
        have Hi := Lib.hid (show invs obs (k + 1) = invs obs k + 1 by simp [invs, hrep'])
        obtain ⟨b2, o2, rfl, hbl2, r0, r1, r2, r3⟩ := (h2.below hb).req hql
        have hb2 : b2 < wr.heap.size := by omega
        have Hqi := Lib.hid hqi
        have Hq := Lib.hid hq
        have Bo := Blk.new wr 75 (nth obs k).vals
        have Br := Blk.new (wr.alloc (.cells (nth obs k).vals.toArray 75)) 78 (nth reqs q).vals
        have Ho2 := (hown.alloc (.cells (nth obs k).vals.toArray 75)).alloc (.cells (nth reqs q).vals.toArray 78)
        have Hm2 := (hmap.alloc (.cells (nth obs k).vals.toArray 75)).alloc (.cells (nth reqs q).vals.toArray 78)
        have Hb2 := (hb.alloc hsz (.cells (nth obs k).vals.toArray 75)).alloc (by simp; omega) (.cells (nth reqs q).vals.toArray 78)
        simp only [ObsV.vals, ReqV.vals] at Bo Br Ho2 Hm2 Hb2
        rw [hrep', hq] at Bo Br Ho2 Hm2 Hb2
        rw [hrep'] at p0
        rw [hq] at p1
        clear hsq hqi hq hrep hlen hown hmap h1 h2
        have hne0 := Hm2.ne_blk Br
        have hne1 := Hm2.ne_blk (Bo.alloc (.cells #[.int .i64 (nth reqs q).node, .int .i64 (nth reqs q).op, .int .i64 (nth reqs q).key, .int .i64 (nth reqs q).arg] 78))
        have hne2 := Hm2.ne_own Ho2
        go_upto_region 11 with (at_mapUpdate; refine wpList_upd intKeys Try.underlying125 Hm2 (q : Int) (by unfold I64; omega) (.int .i64 ↑(hOfTo obs reqs k).length) rfl (.tmp 44) (.tmp 46) (.tmp 48) rfl rfl rfl rfl ?_; intro w1 hm1 hg1)
        have Bo1 := (Bo.alloc (.cells #[.int .i64 (nth reqs q).node, .int .i64 (nth reqs q).op, .int .i64 (nth reqs q).key, .int .i64 (nth reqs q).arg] 78)).grown hg1 (by simpa using fun e => hne1 e.symm)
        have Br1 := Br.grown hg1 (fun e => hne0 (by injection e with e; exact e.symm))
        have Ho1 := Ho2.kept hg1 (.inr hne2.symm)
        have Hb1 := Hb2.grown hg1 (by simp; omega) (by rintro k' ⟨⟩; exact Nat.le_refl _)
        have hs1 := hg1.size
        simp only [World.size_alloc] at Br1 hs1
        have x2 := Bo1.cell 2
        have x3 := Bo1.cell 3
        have y1 := Br1.cell 1
        have y2 := Br1.cell 2
        have y3 := Br1.cell 3
        simp only [List.getElem?_cons_succ, List.getElem?_cons_zero] at x2 x3 y1 y2 y3
        have hk2 := hOfTo_len obs reqs k
        have hk3 : (hOfTo obs reqs k).length ≤ 100000 := by omega
        clear hk2 Bo Br Ho2 Hm2 Hb2 Bo1 Br1 hne0 hne1 hne2
        go_wp2_with (at_builtin; go_loud (refine wpList_app1 slOp Ho1 rfl (.tmp 49) (.tmp 66) rfl rfl rfl (cs := [.int .i64 ((nth obs k).epoch * 12 + (nth obs k).node), .int .i64 (nth reqs q).op, .int .i64 (nth reqs q).key, .int .i64 (nth reqs q).arg, .int .i64 0, .int .i64 k, .int .i64 obs.length, .bool false]) rfl (by intro u hu; simp at hu; rcases hu with rfl | rfl | rfl | rfl | rfl | rfl | rfl | rfl <;> rfl) (by omega) (by omega) (by omega) ?_))
        intro A' c' w2 ho2 hb2 hg2 _
        go_wp2
        go_roundw
        case rel =>
          have n1 : (hOfTo obs reqs (k + 1)).length = (hOfTo obs reqs k).length + 1 := by rw [hOfTo_len, hOfTo_len, Hi.out]
          refine ⟨k + 1, _, _, by omega, by go_num, by rw [n1], ?_, Hb1.trans hb2, ?_⟩
          · rw [n1]
            have e4 : hOfTo obs reqs (k + 1) = hStep obs reqs k (hOfTo obs reqs k) := rfl
            rw [e4, He.out, flat_append, flat_one]
            have e5 : (opBase obs reqs k).vals = [.int .i64 ((nth obs k).epoch * 12 + (nth obs k).node), .int .i64 (nth reqs q).op, .int .i64 (nth reqs q).key, .int .i64 (nth reqs q).arg, .int .i64 0, .int .i64 k, .int .i64 obs.length, .bool false] := by
              simp only [opBase, OpV.vals, Hq.out, Int.toNat_natCast, Int.mul_comm]
            rw [e5]
            exact ho2
          · rw [Hi.out, ← seqMap_succ]
            have := hm1.grown hg2 (hm1.ne_own Ho1)
            rw [Hlen.out, ← Hqi.out] at this
            rw [← Hqi.out]
            exact this
        case measure => simp [intOf]; omega
    · go_wp2
      go_ret
      have e : k = obs.length := by omega
      subst e
      exact ⟨A, c, rfl, hown, hb⟩
end Go.Proofs.Ytflkbehbenlhaaa
/-
  simproofref20.Observed: observations of sequential processes, made from numbers.
-/
namespace Go.Proofs.Ytflkbehbenlhaaa
set_option linter.unusedVariables false
open Go.RowKit
attribute [local go_sem ↓] Go.wp_at_zero Go.wp_at_succ

theorem ownsRow_setCell_far {w : World} {base : Nat} {e : TypeId} {sz n : Nat} {v : Value} {xs : List Value} (h : w.ownsRow base e sz v n xs) {p : Addr} (hp : some p.block ≠ v.ownBlock) (u : Value) : (w.setCell p u).ownsRow base e sz v n xs := by
  refine ⟨h.1, ?_⟩
  rcases h.2 with hn | ⟨g, cap, cur, rfl, hb', hgg, rest⟩
  · exact .inl hn
  · exact .inr ⟨g, cap, cur, rfl, hb', (Below.heap_setCell w p u g (fun e => hp (by simp [Value.ownBlock, e]))).trans hgg, rest⟩

end Go.Proofs.Ytflkbehbenlhaaa
/-
  The plain law of histories: what history.Of computes is what the reference computes, for observations of sequential processes.
-/
namespace Go.Proofs.Ytflkbehbenlhaaa
set_option linter.unusedVariables false

/-! ### the observations made from numbers are of sequential processes -/
end Go.Proofs.Ytflkbehbenlhaaa
/-
  The plain law: the operations of observations of sequential processes are a history, one for each invocation.
-/
namespace Go.Proofs.Ytflkbehbenlhaaa
set_option linter.unusedVariables false

/-! ### replies and invocations of observations made from numbers -/
structure SeqOk (obs : List ObsV) (ep wt : List Int) : Prop where
  e2 : ep.length = 2
  w2 : wt.length = 2
  node : ∀ i, i < obs.length → 0 ≤ (nth obs i).node ∧ (nth obs i).node < 2
  epo : ∀ i, i < obs.length → (nth obs i).epoch ≤ nth ep (nth obs i).node.toNat
  /-- an invocation of the current epoch that does not wait has been answered -/
  ans : ∀ i, i < obs.length → (nth obs i).reply = false → (nth obs i).epoch = nth ep (nth obs i).node.toNat → (nth obs i).req ≠ nth wt (nth obs i).node.toNat →
    ∃ k, i < k ∧ k < obs.length ∧ (nth obs k).reply = true ∧ (nth obs k).req = (nth obs i).req
  /-- no request is answered twice -/
  one : ∀ k m, k < m → m < obs.length → (nth obs k).reply = true → (nth obs m).reply = true → (nth obs k).req ≠ (nth obs m).req
  /-- between two invocations of a process the first is answered -/
  btw : ∀ i j, i < j → j < obs.length → (nth obs i).reply = false → (nth obs j).reply = false → (nth obs i).node = (nth obs j).node → (nth obs i).epoch = (nth obs j).epoch →
    ∃ k, i < k ∧ k < j ∧ (nth obs k).reply = true ∧ (nth obs k).req = (nth obs i).req
  /-- what waits has not been answered -/
  wait : ∀ p, p < 2 → 0 ≤ nth wt p → ∀ k, k < obs.length → (nth obs k).reply = true → (nth obs k).req ≠ nth wt p

theorem nth_snoc_lt {α : Type} [Inhabited α] {l : List α} {a : α} {i : Nat} (h : i < l.length) : nth (l ++ [a]) i = nth l i := nth_append_left h
theorem SeqOk.call {obs : List ObsV} {ep wt : List Int} (h : SeqOk obs ep wt) (hs : ObsSeq obs) {p : Nat} (hp : p < 2) (hw : nth wt p < 0) (c : Int) (hc : c = invs obs obs.length) :
    SeqOk (obs ++ [⟨false, c, p, nth ep p, 0⟩]) ep (wt.set p c) := by
  have lst : nth (obs ++ [(⟨false, c, p, nth ep p, 0⟩ : ObsV)]) obs.length = ⟨false, c, p, nth ep p, 0⟩ := nth_append_len
  have len : (obs ++ [(⟨false, c, p, nth ep p, 0⟩ : ObsV)]).length = obs.length + 1 := by simp
  have old : ∀ i, i < obs.length → nth (obs ++ [(⟨false, c, p, nth ep p, 0⟩ : ObsV)]) i = nth obs i := fun i hi => nth_snoc_lt hi
  have small : ∀ i, i < obs.length → 0 ≤ (nth obs i).req ∧ (nth obs i).req < c := fun i hi => by
    have := hs i hi
    have hm : invs obs (i + 1) ≤ invs obs obs.length := by
      have mono : ∀ a b, a ≤ b → invs obs a ≤ invs obs b := fun a b hab => by
        induction b with
        | zero => have : a = 0 := by omega
                  subst this; exact Nat.le_refl _
        | succ b ih =>
          rcases Nat.lt_or_ge a (b + 1) with h1 | h1
          · exact Nat.le_trans (ih (by omega)) (by simp only [invs]; omega)
          · have : a = b + 1 := by omega
            subst this; exact Nat.le_refl _
      exact mono _ _ (by omega)
    cases hr : (nth obs i).reply with
    | true => rw [if_pos hr] at this; simp only [invs, hr, if_true, Nat.add_zero] at hm; omega
    | false => rw [if_neg (by simp [hr])] at this; simp only [invs, hr] at hm; simp at hm; omega
  refine ⟨h.e2, by simp [h.w2], fun i hi => ?_, fun i hi => ?_, fun i hi hr he hw2 => ?_, fun k m hkm hm hk1 hm1 => ?_, fun i j hij hj hi1 hj1 hn he => ?_, fun q hq h0 k hk hr => ?_⟩
  · rcases Nat.lt_or_ge i obs.length with h1 | h1
    · rw [old i h1]; exact h.node i h1
    · have : i = obs.length := by omega
      subst this; rw [lst]; dsimp only; omega
  · rcases Nat.lt_or_ge i obs.length with h1 | h1
    · rw [old i h1]; exact h.epo i h1
    · have : i = obs.length := by omega
      subst this; rw [lst]; simp
  · rcases Nat.lt_or_ge i obs.length with h1 | h1
    · rw [old i h1] at hr he hw2 ⊢
      have hn := h.node i h1
      have hne : (nth obs i).req ≠ nth wt (nth obs i).node.toNat := by
        by_cases hpq : p = (nth obs i).node.toNat
        · rw [← hpq]; have := (small i h1).1; omega
        · rwa [nth_set_other hpq] at hw2
      obtain ⟨k, h2, h3, h4, h5⟩ := h.ans i h1 hr he hne
      exact ⟨k, h2, by omega, by rw [old k h3]; exact h4, by rw [old k h3]; exact h5⟩
    · have : i = obs.length := by omega
      subst this; rw [lst] at hw2
      simp only [Int.toNat_natCast] at hw2
      rw [nth_set_same (by rw [h.w2]; exact hp)] at hw2
      exact absurd rfl hw2
  · rcases Nat.lt_or_ge m obs.length with h1 | h1
    · rw [old m h1] at hm1 ⊢; rw [old k (by omega)] at hk1 ⊢
      exact h.one k m hkm h1 hk1 hm1
    · have : m = obs.length := by omega
      subst this; rw [lst] at hm1; simp at hm1
  · rcases Nat.lt_or_ge j obs.length with h1 | h1
    · rw [old j h1] at hj1 hn he; rw [old i (by omega)] at hi1 hn he ⊢
      obtain ⟨k, h2, h3, h4, h5⟩ := h.btw i j hij h1 hi1 hj1 hn he
      exact ⟨k, h2, h3, by rw [old k (by omega)]; exact h4, by rw [old k (by omega)]; exact h5⟩
    · have : j = obs.length := by omega
      subst this; rw [lst] at hn he; rw [old i hij] at hi1 hn he ⊢
      dsimp only at hn he
      have hp2 : (nth obs i).node.toNat = p := by omega
      obtain ⟨k, h2, h3, h4, h5⟩ := h.ans i hij hi1 (by rw [hp2]; exact he) (by rw [hp2]; have := (small i hij).1; omega)
      exact ⟨k, h2, h3, by rw [old k h3]; exact h4, by rw [old k h3]; exact h5⟩
  · rcases Nat.lt_or_ge k obs.length with h1 | h1
    · rw [old k h1] at hr ⊢
      by_cases hpq : p = q
      · subst hpq; rw [nth_set_same (by rw [h.w2]; exact hp)]; have := (small k h1).2; omega
      · rw [nth_set_other hpq] at h0 ⊢; exact h.wait q hq h0 k h1 hr
    · have : k = obs.length := by omega
      subst this; rw [lst] at hr; simp at hr

theorem SeqOk.reply {obs : List ObsV} {ep wt : List Int} (h : SeqOk obs ep wt) {p : Nat} (hp : p < 2) (hw : 0 ≤ nth wt p) (v : Int)
    (hdiff : ∀ q, q < 2 → q ≠ p → nth wt q ≠ nth wt p) : SeqOk (obs ++ [⟨true, nth wt p, p, nth ep p, v⟩]) ep (wt.set p (-1)) := by
  have lst : nth (obs ++ [(⟨true, nth wt p, p, nth ep p, v⟩ : ObsV)]) obs.length = ⟨true, nth wt p, p, nth ep p, v⟩ := nth_append_len
  have len : (obs ++ [(⟨true, nth wt p, p, nth ep p, v⟩ : ObsV)]).length = obs.length + 1 := by simp
  have old : ∀ i, i < obs.length → nth (obs ++ [(⟨true, nth wt p, p, nth ep p, v⟩ : ObsV)]) i = nth obs i := fun i hi => nth_snoc_lt hi
  refine ⟨h.e2, by simp [h.w2], fun i hi => ?_, fun i hi => ?_, fun i hi hr he hw2 => ?_, fun k m hkm hm hk1 hm1 => ?_, fun i j hij hj hi1 hj1 hn he => ?_, fun q hq h0 k hk hr => ?_⟩
  · rcases Nat.lt_or_ge i obs.length with h1 | h1
    · rw [old i h1]; exact h.node i h1
    · have : i = obs.length := by omega
      subst this; rw [lst]; dsimp only; omega
  · rcases Nat.lt_or_ge i obs.length with h1 | h1
    · rw [old i h1]; exact h.epo i h1
    · have : i = obs.length := by omega
      subst this; rw [lst]; simp
  · rcases Nat.lt_or_ge i obs.length with h1 | h1
    · rw [old i h1] at hr he hw2 ⊢
      have hn := h.node i h1
      by_cases hx : (nth obs i).req = nth wt (nth obs i).node.toNat
      · by_cases hpq : p = (nth obs i).node.toNat
        · exact ⟨obs.length, h1, by omega, by rw [lst], by rw [lst]; dsimp only; rw [hx, ← hpq]⟩
        · rw [nth_set_other hpq] at hw2; exact absurd hx hw2
      · obtain ⟨k, h2, h3, h4, h5⟩ := h.ans i h1 hr he hx
        exact ⟨k, h2, by omega, by rw [old k h3]; exact h4, by rw [old k h3]; exact h5⟩
    · have : i = obs.length := by omega
      subst this; rw [lst] at hr; simp at hr
  · rcases Nat.lt_or_ge m obs.length with h1 | h1
    · rw [old m h1] at hm1 ⊢; rw [old k (by omega)] at hk1 ⊢
      exact h.one k m hkm h1 hk1 hm1
    · have : m = obs.length := by omega
      subst this; rw [lst]; rw [old k hkm] at hk1 ⊢
      exact h.wait p hp hw k hkm hk1
  · rcases Nat.lt_or_ge j obs.length with h1 | h1
    · rw [old j h1] at hj1 hn he; rw [old i (by omega)] at hi1 hn he ⊢
      obtain ⟨k, h2, h3, h4, h5⟩ := h.btw i j hij h1 hi1 hj1 hn he
      exact ⟨k, h2, h3, by rw [old k (by omega)]; exact h4, by rw [old k (by omega)]; exact h5⟩
    · have : j = obs.length := by omega
      subst this; rw [lst] at hj1; simp at hj1
  · by_cases hpq : p = q
    · subst hpq; rw [nth_set_same (by rw [h.w2]; exact hp)] at h0; omega
    · rw [nth_set_other hpq] at h0 ⊢
      rcases Nat.lt_or_ge k obs.length with h1 | h1
      · rw [old k h1] at hr ⊢; exact h.wait q hq h0 k h1 hr
      · have : k = obs.length := by omega
        subst this; rw [lst]; exact fun e => hdiff q hq (fun e => hpq e.symm) e.symm

/-! ### what an operation looks like -/
/-! ### how many are done -/
end Go.Proofs.Ytflkbehbenlhaaa
/-
  The plain law: history.Check and the reference's Check answer alike.
-/
namespace Go.Proofs.Ytflkbehbenlhaaa
set_option linter.unusedVariables false

end Go.Proofs.Ytflkbehbenlhaaa
/-
  simproofref20.events: calls and returns of sequential processes, made from numbers.
-/
namespace Go.Proofs.Ytflkbehbenlhaaa
set_option linter.unusedVariables false
open Go.RowKit
attribute [local go_sem ↓] Go.wp_at_zero Go.wp_at_succ

structure EvV where
  p : Int
  inv : Bool
  n : Int
  deriving DecidableEq, Inhabited
def EvV.vals (o : EvV) : List Value := [.int .i64 o.p, .bool o.inv, .int .i64 o.n]
theorem EvV.wide : Wide 3 EvV.vals := fun _ => rfl
theorem EvV.one (o : EvV) : ∀ u ∈ o.vals, u.oneCell' = true := by intro u hu; simp [EvV.vals] at hu; rcases hu with rfl | rfl | rfl <;> rfl
theorem slEv : SliceT Try.prog 115 119 3 24 := ⟨Try.underlying115, by
  obtain ⟨i, h0, h1, h2, h3⟩ := info_parts (P := Try.prog) (e := 119) (z := .agg #[.int .i64 0, .bool false, .int .i64 0]) (size := 3) (bytes := 24) (by kernel_rfl)
  exact ⟨i, _, h0, h1, h2, h3, rfl⟩, by omega⟩
section
variable {w : World} {B : Nat} {A : Option Addr}
theorem Sl.ev {l : List EvV} (h : Sl EvV.vals w B A l) {i : Nat} (hi : i < l.length) : ∃ b off, A = some ⟨b, off, none⟩ ∧ b < B ∧
    w.cell? ⟨b, off + i * 3, none⟩ = some (.int .i64 (nth l i).p) ∧ w.cell? ⟨b, off + i * 3 + 1, none⟩ = some (.bool (nth l i).inv) ∧ w.cell? ⟨b, off + i * 3 + 2, none⟩ = some (.int .i64 (nth l i).n) := by
  obtain ⟨b, off, rfl, hb, hc⟩ := h.get EvV.wide hi
  rw [← nth_eq hi] at hc
  exact ⟨b, off, rfl, hb, hc 0 _ (by omega) rfl, hc 1 _ (by omega) rfl, hc 2 _ (by omega) rfl⟩
end

structure EvSt where
  out : List EvV
  pend : List Int
  calls : Nat
def evInit : EvSt := ⟨[], [0, 0, 0, 0], 0⟩
def evNum (most n : Int) (p : Nat) (s : EvSt) : EvSt :=
  if nth s.pend p = 0 ∧ (s.calls : Int) < most then ⟨s.out ++ [⟨p, true, n / 4⟩], s.pend.set p 1, s.calls + 1⟩
  else if nth s.pend p = 1 ∧ n / 4 % 11 = 10 then { s with pend := s.pend.set p 2 }
  else if nth s.pend p = 1 then { s with pend := s.pend.set p 0, out := s.out ++ [⟨p, false, n / 4⟩] }
  else s
def evStep (l : List Int) (most : Int) (i : Nat) (s : EvSt) : EvSt := evNum most (around (nth l i) 1000000) (around (nth l i) 1000000 % 4).toNat s
def evTo (l : List Int) (most : Int) (k : Nat) : EvSt := loopN (evStep l most) evInit k
def events (l : List Int) (most : Int) : List EvV := (evTo l most (min l.length 40)).out
structure EvOk (k : Nat) (s : EvSt) : Prop where
  lo : s.out.length ≤ k
  lp : s.pend.length = 4
  lc : s.calls ≤ k
theorem evTo_ok (l : List Int) (most : Int) (k : Nat) : EvOk k (evTo l most k) := by
  induction k with
  | zero => exact ⟨by simp [evTo, loopN, evInit], rfl, by simp [evTo, loopN, evInit]⟩
  | succ k ih =>
    have hs : evTo l most (k + 1) = evStep l most k (evTo l most k) := rfl
    rw [hs]
    generalize evTo l most k = s at ih
    obtain ⟨h1, h2, h3⟩ := ih
    unfold evStep evNum
    split
    · exact ⟨by simp; omega, by simp; omega, by simp; omega⟩
    · split
      · exact ⟨by simp; omega, by simp; omega, by simp; omega⟩
      · split
        · exact ⟨by simp; omega, by simp; omega, by simp; omega⟩
        · exact ⟨by omega, h2, by omega⟩
theorem evNum_call {most n : Int} {p : Nat} {s : EvSt} (h : nth s.pend p = 0) (h2 : (s.calls : Int) < most) : evNum most n p s = ⟨s.out ++ [⟨p, true, n / 4⟩], s.pend.set p 1, s.calls + 1⟩ := by simp [evNum, h, h2]
theorem evNum_stay {most n : Int} {p : Nat} {s : EvSt} (h : nth s.pend p = 1) (h2 : n / 4 % 11 = 10) : evNum most n p s = { s with pend := s.pend.set p 2 } := by simp [evNum, h, h2]
theorem evNum_ret {most n : Int} {p : Nat} {s : EvSt} (h : nth s.pend p = 1) (h2 : ¬ n / 4 % 11 = 10) : evNum most n p s = { s with pend := s.pend.set p 0, out := s.out ++ [⟨p, false, n / 4⟩] } := by simp [evNum, h, h2]
theorem evNum_full {most n : Int} {p : Nat} {s : EvSt} (h : nth s.pend p = 0) (h2 : ¬ (s.calls : Int) < most) : evNum most n p s = s := by simp [evNum, h, h2]
theorem evNum_gone {most n : Int} {p : Nat} {s : EvSt} (h : ¬ nth s.pend p = 0) (h2 : ¬ nth s.pend p = 1) : evNum most n p s = s := by simp [evNum, h, h2]
theorem own_low {w : World} {base : Nat} {e : TypeId} {sz n c : Nat} {A : Option Addr} {xs : List Value} (h : w.ownsRow base e sz (.slice A n c) n xs) {p : Addr} (hp : p.block < base) (u : Value) : (w.setCell p u).ownsRow base e sz (.slice A n c) n xs := by
  refine ownsRow_setCell_far h ?_ u
  rcases h.2 with ⟨hv, _⟩ | ⟨g, cap, cur, hv, hb, _⟩
  · rw [hv]; simp [Value.ownBlock]
  · rw [hv]
    simp [Value.ownBlock]
    omega

set_option maxHeartbeats 1000000 in
set_option maxRecDepth 100000 in
theorem events_any (A : Option Addr) (c : Nat) (l : List Int) (most : Int) (w : World) (h1 : Sl intv w w.heap.size A l) (hl : ∀ x ∈ l, I64 x) (hlen : l.length ≤ 9223372036854775807) (hmost : I64 most) :
    Calls Try.prog 81 #[.slice A l.length c, .int .i64 most] w fun e w' => ∃ A1 c1, e = .returned (.slice A1 (events l most).length c1) ∧
      w'.ownsRow w.heap.size 119 3 (.slice A1 (events l most).length c1) (events l most).length (flat EvV.vals (events l most)) ∧ Below w.heap.size w w' := by
  have hmk : ∀ w, (Instr.makeSlice 22 (.int .i64 4) (.int .i64 4)).run Try.prog w = .ok (.slice (some ⟨w.heap.size, 0, none⟩) 4 4) (w.alloc (.cells #[.int .i64 0, .int .i64 0, .int .i64 0, .int .i64 0] 3)) := fun _ => by kernel_rfl
  go_enter Try.func81, Try.ntmps81
  go_wp2_with fail
  go_loopw [5, 7, 8] (fun v5 v7 i wr => ∃ (k : Nat) (A1 : Option Addr) (c1 : Nat), k ≤ l.length ∧ k ≤ 40 ∧ i = .int .i64 k ∧ v5 = .slice A1 (evTo l most k).out.length c1 ∧ v7 = .int .i64 (evTo l most k).calls ∧
      wr.ownsRow (w.heap.size + 1) 119 3 (.slice A1 (evTo l most k).out.length c1) (evTo l most k).out.length (flat EvV.vals (evTo l most k).out) ∧
      Blk wr w.heap.size 3 (flat intv (evTo l most k).pend) ∧ Below w.heap.size w wr ∧ w.heap.size + 1 ≤ wr.heap.size) (fun _ _ i _ => 40 - (intOf i).toNat)
  case atStart =>
    exact ⟨0, none, 0, by omega, by omega, rfl, rfl, rfl, World.ownsRow_nil _ _ _ _, Blk.new w 3 [.int .i64 0, .int .i64 0, .int .i64 0, .int .i64 0], (Below.refl _ _).alloc (Nat.le_refl _) _, by simp⟩
  case round =>
    obtain ⟨k, A1, c1, hk1, hk2, rfl, rfl, rfl, ho1, hbe, hb, hsz⟩ := hrel
    by_cases hlt : k < l.length ∧ k < 40
    · obtain ⟨hlt1, hlt2⟩ := hlt
      obtain ⟨s, hs⟩ : ∃ s, s = evTo l most k := ⟨_, rfl⟩
      have ok := evTo_ok l most k
      have Hs := Lib.hid (show evTo l most (k + 1) = evStep l most k (evTo l most k) from rfl)
      rw [← hs] at ho1 hbe ok Hs
      rw [← hs]
      have hI := hl _ (nth_mem hlt1)
      obtain ⟨n, hn⟩ : ∃ n, around (nth l k) 1000000 = n := ⟨_, rfl⟩
      have hn0 : 0 ≤ n := hn ▸ around_lo (by omega)
      have hn1 : n < 1000000 := hn ▸ around_hi (by omega)
      obtain ⟨p, hp⟩ : ∃ p : Nat, n % 4 = p := ⟨(n % 4).toNat, by omega⟩
      have hp2 : p < 4 := by omega
      have hp3 : (0 : Int) ≤ (p : Int) := by omega
      have hp4 : (p : Int) < 4 := by omega
      have hstep : evStep l most k s = evNum most n p s := by unfold evStep; rw [hn, hp]; rfl
      rw [hstep] at Hs
      clear hstep hs
      obtain ⟨b, o, rfl, hbl, q0⟩ := (h1.below hb).int hlt1
      have hlo := ok.lo
      have hlc := ok.lc
      have hp5 : p < s.pend.length := by have := ok.lp; omega
      have x1 := hbe.int (i := p) hp5
      have z1 := hbe.frozen p
      clear ok
      by_cases c1' : nth s.pend p = 0
      · rw [c1'] at x1
        by_cases c2 : (s.calls : Int) < most
        · have Hs2 := Lib.hid (Hs.out.trans (evNum_call c1' c2))
          clear c1' Hs
          have hbe2 := hbe.setInt p 1
          have ho2 := own_low ho1 (p := ⟨w.heap.size, p, none⟩) (by simp) (.int .i64 1)
          have hb2 := hb.setCell (p := ⟨w.heap.size, p, none⟩) (by simp) (.int .i64 1)
          have hsz2 : (wr.setCell ⟨w.heap.size, p, none⟩ (.int .i64 1)).heap.size = wr.heap.size := by simp
          go_wp2_with (first | (go_at_call 25; refine (around_any _ _ _ hI (by omega) (by omega)).mono ?_; rintro e w' ⟨rfl, rfl⟩; rw [hn]) | (at_builtin; go_loud (refine wpList_app1 slEv ho2 rfl (.tmp 44) (.tmp 49) rfl rfl (by rw [hsz2]; rfl) rfl (by simp [Value.oneCell']) (by omega) (by omega) (by omega) ?_; intro A3 c3 w2 ho3 hb3 hg3 hl3)))
          go_roundw
          case rel =>
            refine ⟨k + 1, A3, c3, by omega, by omega, by go_num, by rw [Hs2.out]; simp, by rw [Hs2.out]; simp, ?_, ?_, ?_, ?_⟩
            · rw [Hs2.out, flat_append, flat_one]; simpa [EvV.vals] using ho3
            · rw [Hs2.out]; exact hbe2.below hb3 (by simp)
            · exact hb2.trans (hb3.mono (by omega))
            · have := hb3.size; omega
          case measure => simp [intOf]; omega
        · have Hs2 := Lib.hid (Hs.out.trans (evNum_full c1' c2))
          clear c1' Hs
          go_wp2_with (go_at_call 25; refine (around_any _ _ _ hI (by omega) (by omega)).mono ?_; rintro e w' ⟨rfl, rfl⟩; rw [hn])
          go_roundw
          case rel => exact ⟨k + 1, A1, c1, by omega, by omega, by go_num, by rw [Hs2.out], by rw [Hs2.out], by rw [Hs2.out]; exact ho1, by rw [Hs2.out]; exact hbe, hb, hsz⟩
          case measure => simp [intOf]; omega
      · by_cases c3 : nth s.pend p = 1
        · rw [c3] at x1
          by_cases c4 : n / 4 % 11 = 10
          · have Hs2 := Lib.hid (Hs.out.trans (evNum_stay c3 c4))
            have c4' : (n / 4 % 11 == 10) = true := by simpa using c4
            clear c1' c3 c4 Hs
            go_wp2_with (go_at_call 25; refine (around_any _ _ _ hI (by omega) (by omega)).mono ?_; rintro e w' ⟨rfl, rfl⟩; rw [hn])
            go_roundw
            case rel => exact ⟨k + 1, A1, c1, by omega, by omega, by go_num, by rw [Hs2.out], by rw [Hs2.out], by rw [Hs2.out]; exact own_low ho1 (by simp) _, by rw [Hs2.out]; exact hbe.setInt p _, hb.setCell (by simp) _, by simpa using hsz⟩
            case measure => simp [intOf]; omega
          · have Hs2 := Lib.hid (Hs.out.trans (evNum_ret c3 c4))
            have c4' : (n / 4 % 11 == 10) = false := by simpa using c4
            clear c1' c3 c4 Hs
            have hbe2 := hbe.setInt p 0
            have ho2 := own_low ho1 (p := ⟨w.heap.size, p, none⟩) (by simp) (.int .i64 0)
            have hb2 := hb.setCell (p := ⟨w.heap.size, p, none⟩) (by simp) (.int .i64 0)
            have hsz2 : (wr.setCell ⟨w.heap.size, p, none⟩ (.int .i64 0)).heap.size = wr.heap.size := by simp
            go_wp2_with (first | (go_at_call 25; refine (around_any _ _ _ hI (by omega) (by omega)).mono ?_; rintro e w' ⟨rfl, rfl⟩; rw [hn]) | (at_builtin; go_loud (refine wpList_app1 slEv ho2 rfl (.tmp 73) (.tmp 78) rfl rfl (by rw [hsz2]; rfl) rfl (by simp [Value.oneCell']) (by omega) (by omega) (by omega) ?_; intro A3 c3 w2 ho3 hb3 hg3 hl3)))
            go_roundw
            case rel =>
              refine ⟨k + 1, A3, c3, by omega, by omega, by go_num, by rw [Hs2.out]; simp, by rw [Hs2.out], ?_, ?_, ?_, ?_⟩
              · rw [Hs2.out, flat_append, flat_one]; simpa [EvV.vals] using ho3
              · rw [Hs2.out]; exact hbe2.below hb3 (by simp)
              · exact hb2.trans (hb3.mono (by omega))
              · have := hb3.size; omega
            case measure => simp [intOf]; omega
        · have Hs2 := Lib.hid (Hs.out.trans (evNum_gone c1' c3))
          have c1'' : (nth s.pend p == 0) = false := by simpa using c1'
          have c3' : (nth s.pend p == 1) = false := by simpa using c3
          clear c1' c3 Hs
          go_wp2_with (go_at_call 25; refine (around_any _ _ _ hI (by omega) (by omega)).mono ?_; rintro e w' ⟨rfl, rfl⟩; rw [hn])
          go_roundw
          case rel => exact ⟨k + 1, A1, c1, by omega, by omega, by go_num, by rw [Hs2.out], by rw [Hs2.out], by rw [Hs2.out]; exact ho1, by rw [Hs2.out]; exact hbe, hb, hsz⟩
          case measure => simp [intOf]; omega
    · have e : k = min l.length 40 := by omega
      by_cases hlt1 : k < l.length
      · have hk3 : ¬ k < 40 := fun h => hlt ⟨hlt1, h⟩
        go_wp2_with fail
        go_ret
        subst e
        exact ⟨A1, c1, rfl, own_mono ho1 (by omega), hb⟩
      · go_wp2_with fail
        go_ret
        subst e
        exact ⟨A1, c1, rfl, own_mono ho1 (by omega), hb⟩
end Go.Proofs.Ytflkbehbenlhaaa
/-
  The plain law of the generators of histories: calls and returns of sequential processes make a history.
-/
namespace Go.Proofs.Ytflkbehbenlhaaa
set_option linter.unusedVariables false

def pend (ev : List EvV) : Nat → Int → Bool
  | 0, _ => false
  | k + 1, p => if (nth ev k).p = p then (nth ev k).inv else pend ev k p
def invsE (ev : List EvV) : Nat → Nat
  | 0 => 0
  | k + 1 => invsE ev k + if (nth ev k).inv then 1 else 0
def EvGood (ev : List EvV) : Prop := ∀ k, k < ev.length → (0 ≤ (nth ev k).p ∧ (nth ev k).p < 4) ∧ (0 ≤ (nth ev k).n ∧ (nth ev k).n ≤ 250000) ∧ (nth ev k).inv = !pend ev k (nth ev k).p
theorem pend_app (ev : List EvV) (a : EvV) : ∀ k p, k ≤ ev.length → pend (ev ++ [a]) k p = pend ev k p
  | 0, _, _ => rfl
  | k + 1, p, h => by
    unfold pend
    rw [nth_append_left (by omega), pend_app ev a k p (by omega)]
theorem invsE_app (ev : List EvV) (a : EvV) : ∀ k, k ≤ ev.length → invsE (ev ++ [a]) k = invsE ev k
  | 0, _ => rfl
  | k + 1, h => by
    unfold invsE
    rw [nth_append_left (by omega), invsE_app ev a k (by omega)]
theorem pend_end (ev : List EvV) (a : EvV) (p : Int) : pend (ev ++ [a]) (ev ++ [a]).length p = if a.p = p then a.inv else pend ev ev.length p := by
  rw [List.length_append, List.length_singleton, pend, nth_append_len, pend_app ev a _ _ (Nat.le_refl _)]
theorem invsE_end (ev : List EvV) (a : EvV) : invsE (ev ++ [a]) (ev ++ [a]).length = invsE ev ev.length + if a.inv then 1 else 0 := by
  rw [List.length_append, List.length_singleton, invsE, nth_append_len, invsE_app ev a _ (Nat.le_refl _)]
theorem EvGood.app {ev : List EvV} (h : EvGood ev) {a : EvV} (h1 : 0 ≤ a.p ∧ a.p < 4) (h2 : 0 ≤ a.n ∧ a.n ≤ 250000) (h3 : a.inv = !pend ev ev.length a.p) : EvGood (ev ++ [a]) := by
  intro k hk
  rw [List.length_append, List.length_singleton] at hk
  by_cases e : k < ev.length
  · rw [nth_append_left e, pend_app ev a k _ (by omega)]
    exact h k e
  · have : k = ev.length := by omega
    subst this
    rw [nth_append_len, pend_app ev a _ _ (Nat.le_refl _)]
    exact ⟨h1, h2, h3⟩

structure EvInv (most : Int) (s : EvSt) : Prop where
  good : EvGood s.out
  lp : s.pend.length = 4
  pe : ∀ p : Nat, p < 4 → (nth s.pend p = 0 ∧ pend s.out s.out.length p = false ∨ (nth s.pend p = 1 ∨ nth s.pend p = 2) ∧ pend s.out s.out.length p = true)
  cnt : invsE s.out s.out.length = s.calls
  le : s.calls = 0 ∨ (s.calls : Int) ≤ most

theorem evTo_inv (l : List Int) (most : Int) (k : Nat) : EvInv most (evTo l most k) := by
  induction k with
  | zero =>
    refine ⟨fun k hk => by simp [evTo, loopN, evInit] at hk, rfl, fun p hp => .inl ⟨?_, rfl⟩, rfl, .inl rfl⟩
    match p, hp with
    | 0, _ => rfl
    | 1, _ => rfl
    | 2, _ => rfl
    | 3, _ => rfl
  | succ k ih =>
    have hs : evTo l most (k + 1) = evStep l most k (evTo l most k) := rfl
    rw [hs]
    generalize evTo l most k = s at ih
    unfold evStep
    have hn0 := around_lo (n := nth l k) (most := 1000000) (by omega)
    have hn1 := around_hi (n := nth l k) (most := 1000000) (by omega)
    generalize around (nth l k) 1000000 = n at hn0 hn1
    obtain ⟨p, hp⟩ : ∃ p : Nat, (n % 4).toNat = p := ⟨_, rfl⟩
    rw [hp]
    have hp4 : p < 4 := by omega
    obtain ⟨h1, h2, h3, h4, h5⟩ := ih
    have hq : ∀ (x : Int) (q : Nat), q < 4 → nth (s.pend.set p x) q = if q = p then x else nth s.pend q := by
      intro x q hq4
      by_cases e : q = p
      · subst e; rw [if_pos rfl, nth_set_same (by omega)]
      · rw [if_neg e, nth_set_other (fun h => e h.symm)]
    by_cases c1 : nth s.pend p = 0
    · have hpe : pend s.out s.out.length p = false := by rcases h3 p hp4 with ⟨_, h⟩ | ⟨h, _⟩; exact h; omega
      by_cases c2 : (s.calls : Int) < most
      · rw [evNum_call c1 c2]
        refine ⟨h1.app ⟨by dsimp only; omega, by dsimp only; omega⟩ ⟨by dsimp only; omega, by dsimp only; omega⟩ (by dsimp only; rw [hpe]; rfl), by simpa using h2, fun q hq4 => ?_, ?_, .inr (by dsimp only; omega)⟩
        · dsimp only
          rw [hq _ _ hq4, pend_end]
          by_cases e : q = p
          · subst e; right; simp
          · have e2 : ¬ ((p : Int) = (q : Int)) := by omega
            simp only [if_neg e, if_neg e2]; exact h3 q hq4
        · dsimp only; rw [invsE_end, h4]; rfl
      · rw [evNum_full c1 c2]; exact ⟨h1, h2, h3, h4, h5⟩
    · by_cases c3 : nth s.pend p = 1
      · have hpe : pend s.out s.out.length p = true := by rcases h3 p hp4 with ⟨h, _⟩ | ⟨_, h⟩; omega; exact h
        by_cases c4 : n / 4 % 11 = 10
        · rw [evNum_stay c3 c4]
          refine ⟨h1, by simpa using h2, fun q hq4 => ?_, h4, h5⟩
          dsimp only
          rw [hq _ _ hq4]
          by_cases e : q = p
          · subst e; right; simp [hpe]
          · simp only [if_neg e]; exact h3 q hq4
        · rw [evNum_ret c3 c4]
          refine ⟨h1.app ⟨by dsimp only; omega, by dsimp only; omega⟩ ⟨by dsimp only; omega, by dsimp only; omega⟩ (by dsimp only; rw [hpe]; rfl), by simpa using h2, fun q hq4 => ?_, ?_, h5⟩
          · dsimp only
            rw [hq _ _ hq4, pend_end]
            by_cases e : q = p
            · subst e; left; simp
            · have e2 : ¬ ((p : Int) = (q : Int)) := by omega
              simp only [if_neg e, if_neg e2]; exact h3 q hq4
          · dsimp only; rw [invsE_end, h4]; rfl
      · rw [evNum_gone c1 c3]; exact ⟨h1, h2, h3, h4, h5⟩
theorem events_good (l : List Int) (most : Int) : EvGood (events l most) := (evTo_inv l most _).good
theorem events_len (l : List Int) (most : Int) : (events l most).length ≤ 40 := by have := (evTo_ok l most (min l.length 40)).lo; unfold events; omega
theorem events_invs (l : List Int) {most : Int} (h : 0 ≤ most) : (invsE (events l most) (events l most).length : Int) ≤ most := by
  have h1 := (evTo_inv l most (min l.length 40)).cnt
  have h2 := (evTo_inv l most (min l.length 40)).le
  unfold events
  omega

structure GenOk (ev : List EvV) (k : Nat) (out : List OpV) (opn : List Int) : Prop where
  lop : opn.length = 4
  len : out.length = invsE ev k
  call : ∀ j, j < out.length → ∃ c : Nat, (nth out j).call = c ∧ c < k ∧ (nth ev c).inv = true ∧ (nth out j).p = (nth ev c).p
  mono : ∀ i j, i < j → j < out.length → (nth out i).call < (nth out j).call
  ret : ∀ j, j < out.length → (nth out j).done = true → ∃ r : Nat, (nth out j).ret = r ∧ r < k ∧ (nth ev r).inv = false ∧ (nth out j).call < r
  stay : ∀ j, j < out.length → (nth out j).done = false → (nth out j).ret = ev.length ∧ (nth out j).res = 0 ∧ pend ev k (nth out j).p = true
  one : ∀ i j, i < j → j < out.length → (nth out i).done = true → (nth out j).done = true → (nth out i).ret ≠ (nth out j).ret
  seq : ∀ i j, i < j → j < out.length → (nth out i).p = (nth out j).p → (nth out i).done = true ∧ (nth out i).ret < (nth out j).call
  opn : ∀ p : Nat, p < 4 → pend ev k p = true → ∃ j : Nat, nth opn p = j ∧ j < out.length ∧ (nth out j).p = p ∧ (nth out j).done = false

theorem GenOk.zero (ev : List EvV) : GenOk ev 0 [] [0, 0, 0, 0] :=
  ⟨rfl, rfl, fun _ h => by simp at h, fun _ _ _ h => by simp at h, fun _ h => by simp at h, fun _ h => by simp at h, fun _ _ _ h => by simp at h, fun _ _ _ h => by simp at h, fun _ _ h => by simp [pend] at h⟩

theorem GenOk.add {ev : List EvV} {k : Nat} {out : List OpV} {opn : List Int} (h : GenOk ev k out opn) (hg : EvGood ev) (hk : k < ev.length) (hi : (nth ev k).inv = true) {o : OpV} (h1 : o.p = (nth ev k).p) (h2 : o.call = k) (h3 : o.ret = ev.length) (h4 : o.done = false) (h5 : o.res = 0) {p : Nat} (hp : (nth ev k).p = p) :
    GenOk ev (k + 1) (out ++ [o]) (opn.set p out.length) := by
  obtain ⟨⟨g1, g2⟩, _, g3⟩ := hg k hk
  have hpend : pend ev k (nth ev k).p = false := by rw [hi] at g3; simpa using g3
  have hp4 : p < 4 := by omega
  have old : ∀ i, i < out.length → nth (out ++ [o]) i = nth out i := fun i hi => nth_append_left hi
  have new : nth (out ++ [o]) out.length = o := nth_append_len
  have hlen : (out ++ [o]).length = out.length + 1 := by simp
  have free : ∀ j, j < out.length → (nth out j).p = (nth ev k).p → (nth out j).done = true := by
    intro j hj he
    cases hd : (nth out j).done with
    | true => rfl
    | false => have := (h.stay j hj hd).2.2; rw [he, hpend] at this; cases this
  refine ⟨by simpa using h.lop, ?_, fun j hj => ?_, fun i j hij hj => ?_, fun j hj hd => ?_, fun j hj hd => ?_, fun i j hij hj hdi hdj => ?_, fun i j hij hj he => ?_, fun q hq hpq => ?_⟩
  · rw [hlen, h.len, invsE, hi]; rfl
  · by_cases e : j < out.length
    · rw [old j e]; obtain ⟨c, a1, a2, a3, a4⟩ := h.call j e; exact ⟨c, a1, by omega, a3, a4⟩
    · obtain rfl : j = out.length := by omega
      rw [new]; exact ⟨k, h2, by omega, hi, h1⟩
  · rw [old i (by omega)]
    by_cases e : j < out.length
    · rw [old j e]; exact h.mono i j hij e
    · obtain rfl : j = out.length := by omega
      rw [new, h2]; obtain ⟨c, a1, a2, _⟩ := h.call i hij; omega
  · by_cases e : j < out.length
    · rw [old j e] at hd ⊢; obtain ⟨r, a1, a2, a3, a4⟩ := h.ret j e hd; exact ⟨r, a1, by omega, a3, a4⟩
    · obtain rfl : j = out.length := by omega
      rw [new, h4] at hd; cases hd
  · by_cases e : j < out.length
    · rw [old j e] at hd ⊢
      obtain ⟨a1, a2, a3⟩ := h.stay j e hd
      refine ⟨a1, a2, ?_⟩
      rw [pend]
      split
      · exact hi
      · exact a3
    · obtain rfl : j = out.length := by omega
      rw [new]; exact ⟨h3, h5, by rw [pend, h1, if_pos rfl, hi]⟩
  · rw [old i (by omega)] at hdi ⊢
    by_cases e : j < out.length
    · rw [old j e] at hdj ⊢; exact h.one i j hij e hdi hdj
    · obtain rfl : j = out.length := by omega
      rw [new, h4] at hdj; cases hdj
  · rw [old i (by omega)] at he ⊢
    by_cases e : j < out.length
    · rw [old j e] at he ⊢; exact h.seq i j hij e he
    · obtain rfl : j = out.length := by omega
      rw [new] at he ⊢
      have hd := free i hij (he.trans h1)
      obtain ⟨r, a1, a2, _⟩ := h.ret i hij hd
      exact ⟨hd, by omega⟩
  · rw [pend] at hpq
    by_cases e : q = p
    · subst e
      exact ⟨out.length, nth_set_same (by rw [h.lop]; exact hq), by omega, by rw [new, h1, hp], by rw [new, h4]⟩
    · rw [if_neg (by omega)] at hpq
      obtain ⟨j, a1, a2, a3, a4⟩ := h.opn q hq hpq
      exact ⟨j, by rw [nth_set_other (fun e2 => e e2.symm)]; exact a1, by omega, by rw [old j a2]; exact a3, by rw [old j a2]; exact a4⟩

theorem GenOk.at_ {ev : List EvV} {k : Nat} {out : List OpV} {opn : List Int} (h : GenOk ev k out opn) (hg : EvGood ev) (hk : k < ev.length) (hi : (nth ev k).inv = false) {p : Nat} (hp : (nth ev k).p = p) :
    ∃ j : Nat, nth opn p = j ∧ j < out.length ∧ (nth out j).p = p ∧ (nth out j).done = false := by
  obtain ⟨⟨g1, g2⟩, _, g3⟩ := hg k hk
  refine h.opn p (by omega) ?_
  rw [hi, hp] at g3
  simpa using g3

theorem GenOk.put {ev : List EvV} {k : Nat} {out : List OpV} {opn : List Int} (h : GenOk ev k out opn) (hk : k < ev.length) (hi : (nth ev k).inv = false) {j : Nat} (hj : j < out.length) (hjp : (nth out j).p = (nth ev k).p) (hjd : (nth out j).done = false)
    {o : OpV} (h1 : o.p = (nth out j).p) (h2 : o.call = (nth out j).call) (h3 : o.ret = k) (h4 : o.done = true) : GenOk ev (k + 1) (out.set j o) opn := by
  have other : ∀ i, i ≠ j → nth (out.set j o) i = nth out i := fun i hi => nth_set_other (fun e => hi e.symm)
  have here : nth (out.set j o) j = o := nth_set_same hj
  have hlen : (out.set j o).length = out.length := by simp
  have pc : ∀ i, (nth (out.set j o) i).p = (nth out i).p ∧ (nth (out.set j o) i).call = (nth out i).call := by
    intro i
    by_cases e : i = j
    · subst e; rw [here]; exact ⟨h1, h2⟩
    · rw [other i e]; exact ⟨rfl, rfl⟩
  have uniq : ∀ i, i < out.length → i ≠ j → (nth out i).p = (nth out j).p → (nth out i).done = true := by
    intro i hi he hpe
    rcases Nat.lt_or_ge i j with e | e
    · exact (h.seq i j e hj hpe).1
    · have := (h.seq j i (by omega) hi hpe.symm).1
      rw [hjd] at this; cases this
  have retlt : ∀ i, i < out.length → (nth out i).done = true → (nth out i).ret < k := by
    intro i hi hd; obtain ⟨r, a1, a2, _⟩ := h.ret i hi hd; omega
  refine ⟨h.lop, ?_, fun i hi2 => ?_, fun a b hab hb => ?_, fun i hi2 hd => ?_, fun i hi2 hd => ?_, fun a b hab hb hda hdb => ?_, fun a b hab hb he => ?_, fun q hq hpq => ?_⟩
  · rw [hlen, h.len, invsE, hi]; rfl
  · rw [hlen] at hi2
    obtain ⟨c, a1, a2, a3, a4⟩ := h.call i hi2
    exact ⟨c, by rw [(pc i).2]; exact a1, by omega, a3, by rw [(pc i).1]; exact a4⟩
  · rw [hlen] at hb; rw [(pc a).2, (pc b).2]; exact h.mono a b hab hb
  · rw [hlen] at hi2
    by_cases e : i = j
    · subst e
      rw [here]
      obtain ⟨c, a1, a2, _⟩ := h.call i hi2
      exact ⟨k, h3, by omega, hi, by omega⟩
    · rw [other i e] at hd ⊢; obtain ⟨r, a1, a2, a3, a4⟩ := h.ret i hi2 hd; exact ⟨r, a1, by omega, a3, a4⟩
  · rw [hlen] at hi2
    by_cases e : i = j
    · subst e; rw [here, h4] at hd; cases hd
    · rw [other i e] at hd ⊢
      obtain ⟨a1, a2, a3⟩ := h.stay i hi2 hd
      refine ⟨a1, a2, ?_⟩
      rw [pend, if_neg]
      · exact a3
      · intro e2
        have := uniq i hi2 e (e2.symm.trans hjp.symm)
        rw [hd] at this; cases this
  · rw [hlen] at hb
    by_cases ea : a = j
    · subst ea
      rw [other b (by omega)] at hdb ⊢
      rw [here, h3]
      have := retlt b hb hdb; omega
    · rw [other a ea] at hda ⊢
      by_cases eb : b = j
      · subst eb
        rw [here, h3]
        have := retlt a (by omega) hda; omega
      · rw [other b eb] at hdb ⊢; exact h.one a b hab hb hda hdb
  · rw [hlen] at hb
    rw [(pc a).1, (pc b).1] at he
    rw [(pc b).2]
    obtain ⟨s1, s2⟩ := h.seq a b hab hb he
    by_cases ea : a = j
    · subst ea; rw [hjd] at s1; cases s1
    · rw [other a ea]; exact ⟨s1, s2⟩
  · rw [pend] at hpq
    split at hpq
    · rw [hi] at hpq; cases hpq
    · rename_i hne
      obtain ⟨i, a1, a2, a3, a4⟩ := h.opn q hq hpq
      have hij : i ≠ j := by
        intro e; subst e
        exact hne (by rw [← hjp, a3])
      exact ⟨i, a1, by rw [hlen]; exact a2, by rw [other i hij]; exact a3, by rw [other i hij]; exact a4⟩

theorem GenOk.history {ev : List EvV} {k : Nat} {out : List OpV} {opn : List Int} (h : GenOk ev k out opn) (hg : EvGood ev) (hk : k ≤ ev.length) (hlen : out.length ≤ 300) (hkind : ∀ o ∈ out, 0 ≤ o.k ∧ o.k ≤ 4) : hCheck out = 0 := by
  rw [hCheck, if_neg (by omega)]
  refine hCheckFrom_zero _ _ fun j _ hj => ?_
  have hj : j < out.length := by omega
  obtain ⟨c, c1, c2, c3, c4⟩ := h.call j hj
  have hkj := hkind _ (nth_mem hj)
  have hgc := (hg c (by omega)).1
  have hwf : wfB (nth out j) = true := by
    simp only [wfB, Bool.and_eq_true, decide_eq_true_eq, Bool.or_eq_true]
    cases hd : (nth out j).done with
    | true =>
      obtain ⟨r, a1, a2, a3, a4⟩ := h.ret j hj hd
      exact ⟨⟨⟨⟨⟨by omega, by omega⟩, by omega⟩, by omega⟩, by omega⟩, .inl rfl⟩
    | false =>
      obtain ⟨a1, a2, a3⟩ := h.stay j hj hd
      exact ⟨⟨⟨⟨⟨by omega, by omega⟩, by omega⟩, by omega⟩, by omega⟩, .inr a2⟩
  unfold errK
  rw [if_neg (by rw [hwf]; simp), if_neg, if_neg, if_neg]
  · rintro ⟨hsome, hbad⟩
    obtain ⟨o, ho⟩ := Option.isSome_iff_exists.1 hsome
    rw [ho] at hbad
    simp only [Option.getD_some] at hbad
    obtain ⟨m, hm, hmo, hmp⟩ := lastOf_some ho
    subst hmo
    obtain ⟨s1, s2⟩ := h.seq m j hm hj hmp
    rcases hbad with e | e
    · rw [s1] at e; cases e
    · omega
  · intro hdup
    simp only [Bool.or_eq_true, Bool.and_eq_true] at hdup
    rcases hdup with e | ⟨hd, e | e⟩
    · obtain ⟨m, h1, h2, h3⟩ := any_take e
      simp only [Bool.and_eq_true, beq_iff_eq] at h3
      obtain ⟨r, a1, a2, a3, a4⟩ := h.ret m h2 h3.1
      have : r = c := by omega
      subst this
      rw [a3] at c3; cases c3
    · obtain ⟨m, h1, h2, h3⟩ := any_take e
      simp only [Bool.and_eq_true, beq_iff_eq] at h3
      exact h.one m j h1 hj h3.1 hd h3.2
    · obtain ⟨m, h1, h2, h3⟩ := any_take e
      simp only [beq_iff_eq] at h3
      obtain ⟨r, a1, a2, a3, a4⟩ := h.ret j hj hd
      obtain ⟨c', b1, b2, b3, b4⟩ := h.call m h2
      have : r = c' := by omega
      subst this
      rw [a3] at b3; cases b3
  · rintro ⟨h0, hle⟩
    have := h.mono (j - 1) j (by omega) hj
    omega
end Go.Proofs.Ytflkbehbenlhaaa
/-
  simproofref20.Same answers whether two lists of operations are equal.
-/
namespace Go.Proofs.Ytflkbehbenlhaaa
set_option linter.unusedVariables false
open Go.RowKit

end Go.Proofs.Ytflkbehbenlhaaa
/-
  Small functions of the references: Has, Pick, SameInts, Ints; chosen and popped.
-/
namespace Go.Proofs.Ytflkbehbenlhaaa
set_option linter.unusedVariables false
open Go.RowKit
attribute [local go_sem ↓] Go.wp_at_zero Go.wp_at_succ

theorem mem_take_step {l : List Int} {k : Nat} (h : k < l.length) {n : Int} : n ∈ l.take (k + 1) ↔ n ∈ l.take k ∨ nth l k = n := by
  rw [List.take_succ_eq_append_getElem h, List.mem_append, nth_eq h]
  simp [eq_comm]

set_option maxHeartbeats 400000 in
set_option maxRecDepth 100000 in
theorem has_any (A : Option Addr) (c : Nat) (l : List Int) (n : Int) (w : World) (h1 : Sl intv w w.heap.size A l) (hlen : l.length ≤ 1000000000) :
    Calls Try.prog 44 #[.slice A l.length c, .int .i64 n] w fun e w' => e = .returned (.bool (decide (n ∈ l))) ∧ w = w' := by
  go_enter Try.func44, Try.ntmps44
  go_wp2_with fail
  go_loop [5] (fun v => ∃ k : Nat, k ≤ l.length ∧ v = .int .i64 k ∧ ¬ n ∈ l.take k) (fun v => l.length - (intOf v).toNat)
  case atStart => exact ⟨0, by omega, rfl, by simp⟩
  case round =>
    obtain ⟨k, hk, rfl, hno⟩ := hrel
    have Hno := Lib.hid hno
    clear hno
    by_cases hlt : k < l.length
    · obtain ⟨b, o, rfl, hbl, q0⟩ := h1.int hlt
      cases hc : (nth l k == n) with
      | true =>
        have hm : n ∈ l := by have := nth_mem hlt; rw [show nth l k = n by simpa using hc] at this; exact this
        have Hm := Lib.hid hm
        clear hm
        go_wp2_with fail
        go_ret
        exact ⟨by simp [Hm.out], rfl⟩
      | false =>
        go_wp2_with fail
        go_round
        case rel => exact ⟨k + 1, by omega, by go_num, by rw [mem_take_step hlt]; rintro (h | h); exact Hno.out h; simp [h] at hc⟩
        case measure => simp [intOf]; omega
    · obtain rfl : k = l.length := by omega
      go_wp2_with fail
      go_ret
      have := Hno.out
      rw [List.take_length] at this
      exact ⟨by simp [this], rfl⟩

def pick0 (l : List Int) (most : Int) : Int := if l.length = 0 then 0 else around (nth l 0) most
theorem pick0_in (l : List Int) {most : Int} (h : 0 < most) : 0 ≤ pick0 l most ∧ pick0 l most < most := by
  unfold pick0
  split
  · omega
  · exact ⟨around_lo h, around_hi h⟩
set_option maxHeartbeats 400000 in
set_option maxRecDepth 100000 in
theorem pick0_any (A : Option Addr) (c : Nat) (l : List Int) (most : Int) (w : World) (h1 : Sl intv w w.heap.size A l) (hl : ∀ x ∈ l, I64 x) (hlen : l.length ≤ 9223372036854775807) (h2 : 1 ≤ most) (h3 : most ≤ 4611686018427387904) :
    Calls Try.prog 82 #[.slice A l.length c, .int .i64 0, .int .i64 most] w fun e w' => e = .returned (.int .i64 (pick0 l most)) ∧ w = w' := by
  by_cases h : 0 < l.length
  · obtain ⟨b, o, rfl, hbl, q0⟩ := h1.int h
    simp only [Nat.add_zero] at q0
    have hI := hl _ (nth_mem h)
    have e : pick0 l most = around (nth l 0) most := by rw [pick0, if_neg (by omega)]
    rw [e]
    have hlt : (0 : Int) < (l.length : Int) := by omega
    have hne : decide (l = []) = false := by cases l with | nil => simp at h | cons a t => simp
    go_enter Try.func82, Try.ntmps82
    go_wp2_with (go_at_call 25; refine (around_any _ _ _ hI (by omega) (by omega)).mono ?_; rintro e w' ⟨rfl, rfl⟩)
    go_ret
    exact ⟨rfl, rfl⟩
  · have e : pick0 l most = 0 := by rw [pick0, if_pos (by omega)]
    rw [e]
    obtain rfl : l = [] := by cases l with | nil => rfl | cons a t => simp at h
    go_enter Try.func82, Try.ntmps82
    go_wp2_with fail
    go_ret
    exact ⟨rfl, rfl⟩

/-! ### chosen -/
def ownOf (ws : List Int) (key : Int) : Nat → List Int
  | 0 => [0]
  | k + 1 => if nth ws k = key then ownOf ws key k ++ [(k : Int) + 1] else ownOf ws key k
theorem ownOf_len (ws : List Int) (key : Int) : ∀ k, 0 < (ownOf ws key k).length ∧ (ownOf ws key k).length ≤ k + 1
  | 0 => by simp [ownOf]
  | k + 1 => by
    have := ownOf_len ws key k
    unfold ownOf
    split
    · simp; omega
    · omega
theorem ownOf_in (ws : List Int) (key : Int) : ∀ k, ∀ x ∈ ownOf ws key k, 0 ≤ x ∧ x ≤ k
  | 0, x, h => by simp [ownOf] at h; omega
  | k + 1, x, h => by
    unfold ownOf at h
    split at h
    · rcases List.mem_append.1 h with h | h
      · have := ownOf_in ws key k x h; omega
      · simp at h; omega
    · have := ownOf_in ws key k x h; omega
def chosenV (ws : List Int) (key n latest : Int) (fresh : Bool) : Int :=
  if fresh = true ∧ 0 < n % 7 then latest
  else if n % 13 = 12 then 1 + n / 13 % 12
  else nth (ownOf ws key ws.length) (n / 2 % (ownOf ws key ws.length).length).toNat
theorem chosenV_in (ws : List Int) (key n latest : Int) (fresh : Bool) (h : 0 ≤ latest) : 0 ≤ chosenV ws key n latest fresh ∧ (chosenV ws key n latest fresh ≤ latest ∨ chosenV ws key n latest fresh ≤ 12 ∨ chosenV ws key n latest fresh ≤ ws.length) := by
  unfold chosenV
  split
  · omega
  · split
    · omega
    · have h1 := ownOf_len ws key ws.length
      have h2 : (n / 2 % ((ownOf ws key ws.length).length : Int)).toNat < (ownOf ws key ws.length).length := by
        have := Int.emod_lt_of_pos (n / 2) (show (0 : Int) < ((ownOf ws key ws.length).length : Int) by omega)
        have := Int.emod_nonneg (n / 2) (show ((ownOf ws key ws.length).length : Int) ≠ 0 by omega)
        omega
      have := ownOf_in ws key ws.length _ (nth_mem h2)
      omega

set_option maxHeartbeats 1000000 in
set_option maxRecDepth 100000 in
theorem chosen_any (A : Option Addr) (c : Nat) (ws : List Int) (key n latest : Int) (fresh : Bool) (w : World) (h1 : Sl intv w w.heap.size A ws) (hlen : ws.length ≤ 1000000) (hn0 : 0 ≤ n) (hn1 : n ≤ 1000000) :
    Calls Try.prog 83 #[.slice A ws.length c, .int .i64 key, .int .i64 n, .int .i64 latest, .bool fresh] w fun e w' => e = .returned (.int .i64 (chosenV ws key n latest fresh)) ∧ Below w.heap.size w w' := by
  by_cases hf : fresh = true ∧ 0 < n % 7
  · have e : chosenV ws key n latest fresh = latest := by rw [chosenV, if_pos hf]
    rw [e]
    obtain ⟨rfl, hf2⟩ := hf
    go_enter Try.func83, Try.ntmps83
    go_wp2_with fail
    go_ret
    exact ⟨rfl, Below.refl _ _⟩
  · obtain ⟨V, hV⟩ : ∃ V, chosenV ws key n latest fresh = V := ⟨_, rfl⟩
    have hV2 := hV
    rw [chosenV, if_neg hf] at hV2
    rw [hV]
    clear hV
    go_enter Try.func83, Try.ntmps83
    go_upto_region 1 with fail
    go_cut [18] (fun s wx => s = .bool false ∧ w = wx)
    case first =>
      cases fresh with
      | false =>
        go_wp2_with fail
        go_meet
        case rel => exact ⟨rfl, rfl⟩
      | true =>
        have hf2 : ¬ 0 < n % 7 := fun h => hf ⟨rfl, h⟩
        go_wp2_with fail
        go_meet
        case rel => exact ⟨by simp, rfl⟩
    case rest =>
      obtain ⟨rfl, rfl⟩ := hcut
      clear hf
      by_cases hc : n % 13 = 12
      · rw [if_pos hc] at hV2
        have hc' : (n % 13 == 12) = true := by simpa using hc
        clear hc
        subst hV2
        go_wp2_with fail
        go_ret
        exact ⟨rfl, Below.refl _ _⟩
      · rw [if_neg hc] at hV2
        have hc' : (n % 13 == 12) = false := by simpa using hc
        clear hc
        have HV := Lib.hid hV2
        clear hV2
        go_wp2_with fail
        go_loopw [11, 12] (fun v i wr => ∃ (k : Nat) (A1 : Option Addr) (c1 : Nat), k ≤ ws.length ∧ i = .int .i64 k ∧ v = .slice A1 (ownOf ws key k).length c1 ∧
          wr.ownsRow w.heap.size 3 1 (.slice A1 (ownOf ws key k).length c1) (ownOf ws key k).length (flat intv (ownOf ws key k)) ∧ Below w.heap.size w wr) (fun _ i _ => ws.length - (intOf i).toNat)
        case atStart =>
          refine ⟨0, some ⟨w.heap.size, 0, none⟩, 1, by omega, rfl, rfl, ?_, (Below.refl _ _).alloc (Nat.le_refl _) _⟩
          refine ⟨by rfl, .inr ⟨w.heap.size, 1, #[.int .i64 0], rfl, Nat.le_refl _, heap_alloc_new w _, ?_⟩⟩
          simp [ownOf, flat, intv, maxLen]
        case round =>
          obtain ⟨k, A1, c1, hk, rfl, rfl, ho, hb⟩ := hrel
          have hsz := hb.size
          obtain ⟨hl1, hl2⟩ := ownOf_len ws key k
          by_cases hlt : k < ws.length
          · obtain ⟨b, o, rfl, hbl, q0⟩ := (h1.below hb).int hlt
            cases hc : (nth ws k == key) with
            | true =>
              have Hs := Lib.hid (show ownOf ws key (k + 1) = ownOf ws key k ++ [(k : Int) + 1] by rw [ownOf, if_pos (by simpa using hc)])
              go_wp2_with (at_builtin; go_loud (refine wpList_app1 slInt ho rfl (.tmp 40) (.tmp 43) rfl rfl rfl rfl (by simp [Value.oneCell']) (by omega) (by omega) (by omega) ?_; intro A3 c3 w2 ho3 hb3 hg3 hl3))
              go_roundw
              case rel =>
                refine ⟨k + 1, A3, c3, by omega, by go_num, by rw [Hs.out]; simp, ?_, hb.trans hb3⟩
                rw [Hs.out, flat_append, flat_one]; simpa [intv] using ho3
              case measure => simp [intOf]; omega
            | false =>
              have Hs := Lib.hid (show ownOf ws key (k + 1) = ownOf ws key k by rw [ownOf, if_neg (by simpa using hc)])
              go_wp2_with fail
              go_roundw
              case rel => exact ⟨k + 1, A1, c1, by omega, by go_num, by rw [Hs.out], by rw [Hs.out]; exact ho, hb⟩
              case measure => simp [intOf]; omega
          · obtain rfl : k = ws.length := by omega
            obtain ⟨m, hm⟩ : ∃ m : Nat, m = (ownOf ws key ws.length).length := ⟨_, rfl⟩
            obtain ⟨q, hq⟩ : ∃ q : Nat, n / 2 % (m : Int) = q := ⟨(n / 2 % (m : Int)).toNat, by have := Int.emod_nonneg (n / 2) (show (m : Int) ≠ 0 by omega); omega⟩
            have hqm : q < m := by have := Int.emod_lt_of_pos (n / 2) (show (0 : Int) < (m : Int) by omega); omega
            obtain ⟨b2, o2, rfl, hbl2, q2⟩ := (Sl.of_own ho rfl).int (i := q) (by omega)
            have hq2 := HV.out
            rw [← hm, hq] at hq2
            simp only [Int.toNat_natCast] at hq2
            rw [hq2] at q2
            rw [← hm] at hl1 hl2 ⊢
            have Hq := Lib.hid hq
            have hm0 : (0 : Int) < (m : Int) := by omega
            have hm1 : (m : Int) ≤ 1000001 := by omega
            have hq0 : (0 : Int) ≤ (q : Int) := by omega
            have hqm' : (q : Int) < (m : Int) := by omega
            clear hm hq2 ho
            go_wp2_with fail
            go_ret
            exact ⟨rfl, hb⟩

/-! ### popped -/
def popFrom (pushed taken : List Int) (key : Int) (k : Nat) : Nat → Int
  | 0 => 0
  | m + 1 => if nth pushed k = key ∧ ¬ ((k : Int) + 1) ∈ taken then (k : Int) + 1 else popFrom pushed taken key (k + 1) m
def poppedV (pushed taken : List Int) (key n : Int) : Int :=
  if n % 9 = 8 then n / 9 % 9 else if 0 < n % 5 then popFrom pushed taken key 0 pushed.length else 0
theorem popFrom_in (pushed taken : List Int) (key : Int) : ∀ m k, 0 ≤ popFrom pushed taken key k m ∧ popFrom pushed taken key k m ≤ (k : Int) + m
  | 0, k => by unfold popFrom; omega
  | m + 1, k => by
    have := popFrom_in pushed taken key m (k + 1)
    unfold popFrom
    split
    · omega
    · omega
theorem poppedV_in (pushed taken : List Int) (key n : Int) : 0 ≤ poppedV pushed taken key n ∧ (poppedV pushed taken key n ≤ 8 ∨ poppedV pushed taken key n ≤ pushed.length) := by
  unfold poppedV
  have := popFrom_in pushed taken key pushed.length 0
  split
  · omega
  · split
    · omega
    · omega

set_option maxHeartbeats 1000000 in
set_option maxRecDepth 100000 in
theorem popped_any (A1 A2 : Option Addr) (c1 c2 : Nat) (pushed taken : List Int) (key n : Int) (w : World) (h1 : Sl intv w w.heap.size A1 pushed) (h2 : Sl intv w w.heap.size A2 taken) (hl1 : pushed.length ≤ 1000000) (hl2 : taken.length ≤ 1000000) (hn0 : 0 ≤ n) (hn1 : n ≤ 1000000) :
    Calls Try.prog 84 #[.slice A1 pushed.length c1, .slice A2 taken.length c2, .int .i64 key, .int .i64 n] w fun e w' => e = .returned (.int .i64 (poppedV pushed taken key n)) ∧ Below w.heap.size w w' := by
  obtain ⟨V, hV⟩ : ∃ V, poppedV pushed taken key n = V := ⟨_, rfl⟩
  have hV2 := hV
  rw [poppedV] at hV2
  rw [hV]
  clear hV
  by_cases hc : n % 9 = 8
  · rw [if_pos hc] at hV2
    have hc' : (n % 9 == 8) = true := by simpa using hc
    clear hc
    subst hV2
    go_enter Try.func84, Try.ntmps84
    go_wp2_with fail
    go_ret
    exact ⟨rfl, Below.refl _ _⟩
  · rw [if_neg hc] at hV2
    have hc' : (n % 9 == 8) = false := by simpa using hc
    clear hc
    by_cases h5 : 0 < n % 5
    · rw [if_pos h5] at hV2
      have HV := Lib.hid hV2
      clear hV2
      go_enter Try.func84, Try.ntmps84
      go_wp2_with fail
      go_loopw [9] (fun i wr => ∃ k : Nat, k ≤ pushed.length ∧ i = .int .i64 k ∧ Below w.heap.size w wr ∧ popFrom pushed taken key k (pushed.length - k) = V) (fun i _ => pushed.length - (intOf i).toNat)
      case atStart => exact ⟨0, by omega, rfl, Below.refl _ _, by simpa using HV.out⟩
      case round =>
        obtain ⟨k, hk, rfl, hb, hno⟩ := hrel
        have Hno := Lib.hid hno
        clear hno
        have hsz := hb.size
        by_cases hlt : k < pushed.length
        · obtain ⟨b, o, rfl, hbl, q0⟩ := (h1.below hb).int hlt
          have hstep := Hno.out
          rw [show pushed.length - k = (pushed.length - (k + 1)) + 1 by omega, popFrom] at hstep
          have Hstep := Lib.hid hstep
          clear hstep
          go_upto_region 6 with fail
          obtain ⟨d, hd⟩ : ∃ d, decide (nth pushed k = key ∧ ¬ ((k : Int) + 1) ∈ taken) = d := ⟨_, rfl⟩
          have Hd := Lib.hid hd
          clear hd
          go_cut [39] (fun s wx => s = .bool d ∧ Below w.heap.size w wx)
          case first =>
            cases hc : (nth pushed k == key) with
            | false =>
              go_wp2_with fail
              go_meet
              case rel => exact ⟨by rw [← Hd.out]; simp at hc; simp [hc], hb⟩
            | true =>
              go_wp2_with (go_at_call 44; refine (has_any _ _ _ _ _ ((h2.ext hb)) (by omega)).mono ?_; rintro e w' ⟨rfl, rfl⟩)
              go_meet
              case rel => exact ⟨by rw [← Hd.out]; simp at hc; simp [hc], hb⟩
          case rest =>
            obtain ⟨rfl, hb2⟩ := hcut
            cases d with
            | true =>
              have hh := Hstep.out
              rw [if_pos (by simpa using Hd.out)] at hh
              subst hh
              go_wp2_with fail
              go_ret
              exact ⟨rfl, hb2⟩
            | false =>
              have hh := Hstep.out
              rw [if_neg (by simpa using Hd.out)] at hh
              have Hh := Lib.hid hh
              clear hh
              go_wp2_with fail
              go_roundw
              case rel => exact ⟨k + 1, by omega, by go_num, hb2, Hh.out⟩
              case measure => simp [intOf]; omega
        · obtain rfl : k = pushed.length := by omega
          have hh := Hno.out
          simp [popFrom] at hh
          subst hh
          go_wp2_with fail
          go_ret
          exact ⟨rfl, hb⟩
    · rw [if_neg h5] at hV2
      subst hV2
      have h5' : ¬ 0 < n % 5 := h5
      go_enter Try.func84, Try.ntmps84
      go_wp2_with fail
      go_loop [9] (fun i => i = .int .i64 0) (fun _ => 0)
      case atStart => rfl
      case round =>
        subst hrel
        go_wp2_with fail
        all_goals go_ret
        all_goals exact ⟨rfl, Below.refl _ _⟩
end Go.Proofs.Ytflkbehbenlhaaa
/-
  Append of a whole list, which may be nil, to a row of one's own.
-/
namespace Go.Proofs.Ytflkbehbenlhaaa
set_option linter.unusedVariables false
open Go.RowKit

end Go.Proofs.Ytflkbehbenlhaaa
