/-
  history.Check: why a list of operations is not a history.
-/
import Derived.Test.YthijndjgchbeoaaMaps
import Derived.Deep.RegionHeld3
import Derived.Deep.DrawnRows
import Derived.Deep.DeepCutAuto
namespace Go.Proofs.Ythijndjgchbeoaa
set_option linter.unusedVariables false
open Go.RowKit
attribute [local go_sem ↓] Go.wp_at_zero Go.wp_at_succ

/-- all fields within int -/
def OpIn (o : OpV) : Prop := I64 o.p ∧ I64 o.k ∧ I64 o.key ∧ I64 o.arg ∧ I64 o.res ∧ I64 o.call ∧ I64 o.ret

/-- a set of numbers as a map to struct{} -/
noncomputable def setMap (B : Int → Bool) : Int → Option Value := fun x => if B x then some (.agg #[]) else none
theorem setMap_val (B : Int → Bool) (x : Int) : (setMap B x).getD (.agg #[]) = .agg #[] := by unfold setMap; split <;> rfl
theorem setMap_some (B : Int → Bool) (x : Int) : (setMap B x).isSome = B x := by unfold setMap; split <;> simp_all
theorem setMap_upd (B : Int → Bool) (x : Int) : upd (setMap B) x (.agg #[]) = setMap (fun y => B y || y == x) := by
  funext y
  by_cases hy : y = x
  · subst hy; rw [upd_same]; simp [setMap]
  · rw [upd_other _ _ hy]; simp [setMap, hy]
theorem setMap_none : (fun _ => none) = setMap (fun _ => false) := by funext y; simp [setMap]
/-- a map to operations -/
def opMap (g : Int → Option OpV) : Int → Option Value := fun x => (g x).map fun o => .agg o.vals.toArray
theorem opMap_val (g : Int → Option OpV) (x : Int) : (opMap g x).getD (.agg #[.int .i64 0, .int .i64 0, .int .i64 0, .int .i64 0, .int .i64 0, .int .i64 0, .int .i64 0, .bool false]) = .agg #[.int .i64 ((g x).getD default).p, .int .i64 ((g x).getD default).k, .int .i64 ((g x).getD default).key, .int .i64 ((g x).getD default).arg, .int .i64 ((g x).getD default).res, .int .i64 ((g x).getD default).call, .int .i64 ((g x).getD default).ret, .bool ((g x).getD default).done] := by
  unfold opMap; cases g x <;> rfl
theorem opMap_some (g : Int → Option OpV) (x : Int) : (opMap g x).isSome = (g x).isSome := by simp [opMap]
open Classical in
theorem opMap_upd (g : Int → Option OpV) (x : Int) (o : OpV) : upd (opMap g) x (.agg o.vals.toArray) = opMap (fun y => if y = x then some o else g y) := by
  funext y
  by_cases hy : y = x
  · subst hy; rw [upd_same]; simp [opMap]
  · rw [upd_other _ _ hy]; simp [opMap, hy]

/-- valid on its own -/
def wfB (o : OpV) : Bool := decide (0 ≤ o.p) && decide (0 ≤ o.k) && decide (o.k ≤ 4) && decide (0 ≤ o.call) && decide (o.call < o.ret) && (o.done || decide (o.res = 0))
/-- returned there before operation k -/
def retB (l : List OpV) (k : Nat) (x : Int) : Bool := (l.take k).any fun o => o.done && o.ret == x
def callB (l : List OpV) (k : Nat) (x : Int) : Bool := (l.take k).any fun o => o.call == x
/-- the latest operation of a process before operation k -/
def lastOf (l : List OpV) : Nat → Int → Option OpV
  | 0, _ => none
  | k + 1, p => if p = (nth l k).p then some (nth l k) else lastOf l k p
/-- the error of operation k, if those before it have none -/
def errK (l : List OpV) (k : Nat) : Int :=
  if wfB (nth l k) = false then 1
  else if 0 < k ∧ (nth l k).call ≤ (nth l (k - 1)).call then 5
  else if (retB l k (nth l k).call || (nth l k).done && (retB l k (nth l k).ret || callB l l.length (nth l k).ret)) = true then 4
  else if (lastOf l k (nth l k).p).isSome = true ∧ (((lastOf l k (nth l k).p).getD default).done = false ∨ (nth l k).call < ((lastOf l k (nth l k).p).getD default).ret) then 5
  else 0
def hCheckFrom (l : List OpV) (k : Nat) : Nat → Int
  | 0 => 0
  | n + 1 => if errK l k = 0 then hCheckFrom l (k + 1) n else errK l k
def hCheck (l : List OpV) : Int := if 300 < l.length then 2 else hCheckFrom l 0 l.length

theorem hCheckFrom_ok {l : List OpV} {k n : Nat} (h : errK l k = 0) : hCheckFrom l k (n + 1) = hCheckFrom l (k + 1) n := by simp [hCheckFrom, h]
theorem hCheckFrom_err {l : List OpV} {k n : Nat} (h : errK l k ≠ 0) : hCheckFrom l k (n + 1) = errK l k := by simp [hCheckFrom, h]
theorem callB_step {l : List OpV} {k : Nat} (hk : k < l.length) (x : Int) : callB l (k + 1) x = (callB l k x || x == (nth l k).call) := by
  unfold callB
  rw [List.take_succ_eq_append_getElem hk, List.any_append, nth_eq hk]
  simp [BEq.comm (a := x)]
theorem retB_step {l : List OpV} {k : Nat} (hk : k < l.length) (x : Int) : retB l (k + 1) x = (retB l k x || ((nth l k).done && x == (nth l k).ret)) := by
  unfold retB
  rw [List.take_succ_eq_append_getElem hk, List.any_append, nth_eq hk]
  simp [BEq.comm (a := x)]

theorem below8 {w : World} (o : Obj) : Below w.heap.size w (w.alloc o) := (Below.refl _ _).alloc (Nat.le_refl _) _

set_option maxHeartbeats 400000 in
theorem wellFormed_any (o : OpV) (w : World) : Calls Try.prog 38 #[.agg #[.int .i64 o.p, .int .i64 o.k, .int .i64 o.key, .int .i64 o.arg, .int .i64 o.res, .int .i64 o.call, .int .i64 o.ret, .bool o.done]] w fun e w' => e = .returned (.bool (wfB o)) ∧ Below w.heap.size w w' := by
  by_cases h1 : 0 ≤ o.p
  · by_cases h2 : 0 ≤ o.k
    · by_cases h3 : o.k ≤ 4
      · by_cases h4 : 0 ≤ o.call
        · by_cases h5 : o.call < o.ret
          · cases h6 : o.done with
            | true =>
              go_enter Try.func38, Try.ntmps38
              go_wp2
              go_ret
              exact ⟨by simp [wfB, h1, h2, h3, h4, h5, h6], below8 _⟩
            | false =>
              by_cases h7 : o.res = 0
              · have h7' : (o.res == 0) = true := by simpa using h7
                go_enter Try.func38, Try.ntmps38
                go_wp2
                go_ret
                exact ⟨by simp [wfB, h1, h2, h3, h4, h5, h6, h7], below8 _⟩
              · have h7' : (o.res == 0) = false := by simpa using h7
                go_enter Try.func38, Try.ntmps38
                go_wp2
                go_ret
                exact ⟨by simp [wfB, h1, h2, h3, h4, h5, h6, h7], below8 _⟩
          · go_enter Try.func38, Try.ntmps38
            go_wp2
            go_ret
            exact ⟨by simp [wfB, h1, h2, h3, h4]; intros; omega, below8 _⟩
        · go_enter Try.func38, Try.ntmps38
          go_wp2
          go_ret
          exact ⟨by simp [wfB, h1, h2, h3]; intros; omega, below8 _⟩
      · go_enter Try.func38, Try.ntmps38
        go_wp2
        go_ret
        exact ⟨by simp [wfB, h1, h2]; intros; omega, below8 _⟩
    · go_enter Try.func38, Try.ntmps38
      go_wp2
      go_ret
      exact ⟨by simp [wfB, h1]; intros; omega, below8 _⟩
  · go_enter Try.func38, Try.ntmps38
    go_wp2
    go_ret
    exact ⟨by simp [wfB]; intros; omega, below8 _⟩

theorem lastOf_step (l : List OpV) (k : Nat) : lastOf l (k + 1) = fun p => if p = (nth l k).p then some (nth l k) else lastOf l k p := rfl
theorem retB_zero (l : List OpV) : retB l 0 = fun _ => false := by funext x; simp [retB]
theorem callB_zero (l : List OpV) : callB l 0 = fun _ => false := by funext x; simp [callB]
theorem opMap_none : (fun _ => none) = opMap (fun _ => none) := by funext y; simp [opMap]
theorem retB_true {l : List OpV} {k : Nat} (hk : k < l.length) (h : (nth l k).done = true) : retB l (k + 1) = fun x => retB l k x || x == (nth l k).ret := by
  funext x; rw [retB_step hk, h]; simp
theorem retB_false {l : List OpV} {k : Nat} (hk : k < l.length) (h : (nth l k).done = false) : retB l (k + 1) = retB l k := by
  funext x; rw [retB_step hk, h]; simp
theorem callB_true {l : List OpV} {k : Nat} (hk : k < l.length) : callB l (k + 1) = fun x => callB l k x || x == (nth l k).call := by
  funext x; rw [callB_step hk]

theorem fin_err {l : List OpV} {k : Nat} {X e : Int} (h : hCheckFrom l k (l.length - k) = X) (hk : k < l.length) (he : errK l k = e) (h0 : e ≠ 0) : e = X := by
  rw [show l.length - k = (l.length - (k + 1)) + 1 by omega, hCheckFrom_err (by rw [he]; exact h0), he] at h
  exact h
theorem fin_ok {l : List OpV} {k : Nat} {X : Int} (h : hCheckFrom l k (l.length - k) = X) (hk : k < l.length) (he : errK l k = 0) : hCheckFrom l (k + 1) (l.length - (k + 1)) = X := by
  rw [show l.length - k = (l.length - (k + 1)) + 1 by omega, hCheckFrom_ok he] at h
  exact h

set_option maxHeartbeats 2000000 in
set_option maxRecDepth 100000 in
theorem hCheck_any (A : Option Addr) (c : Nat) (l : List OpV) (w : World) (h1 : Sl OpV.vals w w.heap.size A l) (hin : ∀ o ∈ l, OpIn o) (hlen : l.length ≤ 1000000000) :
    Calls Try.prog 20 #[.slice A l.length c] w fun e w' => e = .returned (.int .i64 (hCheck l)) ∧ Below w.heap.size w w' := by
  have hmm := @run_makeMap Try.prog
  by_cases hbig : 300 < l.length
  · go_enter Try.func20, Try.ntmps20
    go_wp2_with fail
    go_ret
    exact ⟨by simp [hCheck, hbig], Below.refl _ _⟩
  · have hc : hCheck l = hCheckFrom l 0 l.length := by simp [hCheck, hbig]
    rw [hc]
    go_enter Try.func20, Try.ntmps20
    go_wp2_with fail
    go_loopw [24] (fun i wr => ∃ k : Nat, k ≤ l.length ∧ i = .int .i64 k ∧ MapK ikey I64 wr w.heap.size k (setMap (callB l k)) ∧ Below w.heap.size w wr) (fun i _ => l.length - (intOf i).toNat)
    case atStart => exact ⟨0, by omega, rfl, by rw [callB_zero, ← setMap_none]; exact MapK.made w, below8 _⟩
    case round =>
      obtain ⟨k, hk, rfl, hmap, hb⟩ := hrel
      by_cases hlt : k < l.length
      · obtain ⟨b1, o1, rfl, hbl1, p0, p1, p2, p3, p4, p5, p6, p7⟩ := (h1.below hb).op hlt
        have hsz := hb.size
        have hb1 : b1 < wr.heap.size := by omega
        have hI := hin _ (nth_mem hlt)
        have Hs := Lib.hid (callB_true hlt)
        go_wp2_with (at_mapUpdate; go_loud (refine wpList_upd intKeys Try.underlying69 (hmap.alloc _) (nth l k).call hI.2.2.2.2.2.1 (.agg #[]) rfl (.tmp 28) (.tmp 30) (.tmp 31) rfl rfl rfl rfl ?_; intro w1 hm1 hg1))
        go_roundw
        case rel =>
          refine ⟨k + 1, by omega, by go_num, ?_, ?_⟩
          · rw [Hs.out, ← setMap_upd]; exact hm1
          · exact (hb.alloc hsz _).grown hg1 (by simp; omega) (by rintro k' ⟨⟩; exact Nat.le_refl _)
        case measure => simp [intOf]; omega
      · obtain rfl : k = l.length := by omega
        obtain ⟨wb, rfl⟩ : ∃ wb : World, wb = wr := ⟨_, rfl⟩
        have hszb := hb.size
        have hltb := hmap.lt
        go_wp2_with fail
        go_loopw [37] (fun i wr => ∃ k : Nat, k ≤ l.length ∧ i = .int .i64 k ∧ MapK ikey I64 wr w.heap.size l.length (setMap (callB l l.length)) ∧ MapK ikey I64 wr wb.heap.size k (setMap (retB l k)) ∧ MapK ikey I64 wr (wb.heap.size + 1) k (opMap (lastOf l k)) ∧ Below w.heap.size w wr ∧ wb.heap.size + 2 ≤ wr.heap.size ∧
          hCheckFrom l k (l.length - k) = hCheckFrom l 0 l.length) (fun i _ => l.length - (intOf i).toNat)
        case atStart =>
          refine ⟨0, by omega, rfl, (hmap.alloc _).alloc _, ?_, ?_, (hb.alloc hszb _).alloc (by simp; omega) _, by simp, by simp⟩
          · rw [retB_zero, ← setMap_none]; exact (MapK.made wb).alloc _
          · have := MapK.made (ek := ikey) (ok := I64) (wb.alloc (.map #[] 0))
            rw [show lastOf l 0 = fun _ => none from rfl, ← opMap_none]
            simpa using this
        case round =>
          obtain ⟨k, hk, rfl, hmc, hmr, hml, hb, hsz2, hno⟩ := hrel
          have Hno := Lib.hid hno
          clear hno hmap
          by_cases hlt : k < l.length
          · obtain ⟨b1, o1, rfl, hbl1, p0, p1, p2, p3, p4, p5, p6, p7⟩ := (h1.below hb).op hlt
            have hsz := hb.size
            have hb1 : b1 < wr.heap.size := by omega
            have hI := hin _ (nth_mem hlt)
            obtain ⟨o, ho⟩ : ∃ o, nth l k = o := ⟨_, rfl⟩
            rw [ho] at p0 p1 p2 p3 p4 p5 p6 p7 hI
            obtain ⟨pv, hpv⟩ : ∃ pv, (lastOf l k o.p).getD default = pv := ⟨_, rfl⟩
            obtain ⟨b4, hb4⟩ : ∃ b4, (lastOf l k o.p).isSome = b4 := ⟨_, rfl⟩
            obtain ⟨b5, hb5⟩ : ∃ b5, retB l k o.call = b5 := ⟨_, rfl⟩
            obtain ⟨b6, hb6⟩ : ∃ b6, retB l k o.ret = b6 := ⟨_, rfl⟩
            obtain ⟨b7, hb7⟩ : ∃ b7, callB l l.length o.ret = b7 := ⟨_, rfl⟩
            have Hpv := Lib.hid hpv
            have Hb4 := Lib.hid hb4
            have Hb5 := Lib.hid hb5
            have Hb6 := Lib.hid hb6
            have Hb7 := Lib.hid hb7
            clear hpv hb4 hb5 hb6 hb7
            go_upto_region 18 with (first | (at_lookup; refine wpList_look_ok intKeys Try.underlying69 (Try.zeroValue70 _) (hmr.alloc _) o.call hI.2.2.2.2.2.1 rfl (.tmp 43) (.tmp 45) rfl rfl rfl ?_; rw [setMap_val, setMap_some, Hb5.out]) | (at_lookup; refine wpList_look_ok intKeys Try.underlying69 (Try.zeroValue70 _) ((hmr.alloc _).alloc _) o.ret hI.2.2.2.2.2.2 rfl (.tmp 50) (.tmp 52) rfl rfl rfl ?_; rw [setMap_val, setMap_some, Hb6.out]) | (at_lookup; refine wpList_look_ok intKeys Try.underlying69 (Try.zeroValue70 _) (((hmc.alloc _).alloc _).alloc _) o.ret hI.2.2.2.2.2.2 rfl (.tmp 57) (.tmp 59) rfl rfl rfl ?_; rw [setMap_val, setMap_some, Hb7.out]) | (at_lookup; refine wpList_look_ok intKeys Try.underlying71 (Try.zeroValue33 _) ((((hml.alloc _).alloc _).alloc _).alloc _) o.p hI.1 rfl (.tmp 64) (.tmp 66) rfl rfl rfl ?_; rw [opMap_val, opMap_some, Hb4.out, Hpv.out]))
            obtain ⟨W, hW⟩ : ∃ W, W = (((((wr.alloc (.cells #[.int .i64 o.p, .int .i64 o.k, .int .i64 o.key, .int .i64 o.arg, .int .i64 o.res, .int .i64 o.call, .int .i64 o.ret, .bool o.done] 33)).alloc (.cells #[] 70)).alloc (.cells #[] 70)).alloc (.cells #[] 70)).alloc (.cells #[.int .i64 pv.p, .int .i64 pv.k, .int .i64 pv.key, .int .i64 pv.arg, .int .i64 pv.res, .int .i64 pv.call, .int .i64 pv.ret, .bool pv.done] 33)) := ⟨_, rfl⟩
            have B1 : Blk W wr.heap.size 33 o.vals := by rw [hW]; exact ((((Blk.new wr 33 o.vals).alloc _).alloc _).alloc _).alloc _
            have B2 : Blk W (wr.heap.size + 1 + 1 + 1 + 1) 33 pv.vals := by
              rw [hW]
              have := Blk.new ((((wr.alloc (.cells #[.int .i64 o.p, .int .i64 o.k, .int .i64 o.key, .int .i64 o.arg, .int .i64 o.res, .int .i64 o.call, .int .i64 o.ret, .bool o.done] 33)).alloc (.cells #[] 70)).alloc (.cells #[] 70)).alloc (.cells #[] 70)) 33 pv.vals
              simp only [World.size_alloc] at this
              exact this
            have hmc1 : MapK ikey I64 W w.heap.size l.length (setMap (callB l l.length)) := by rw [hW]; exact ((((hmc.alloc _).alloc _).alloc _).alloc _).alloc _
            have hmr1 : MapK ikey I64 W wb.heap.size k (setMap (retB l k)) := by rw [hW]; exact ((((hmr.alloc _).alloc _).alloc _).alloc _).alloc _
            have hml1 : MapK ikey I64 W (wb.heap.size + 1) k (opMap (lastOf l k)) := by rw [hW]; exact ((((hml.alloc _).alloc _).alloc _).alloc _).alloc _
            have hbW : Below wr.heap.size wr W := by rw [hW]; exact ((((below8 _).alloc (by simp) _).alloc (by simp; omega) _).alloc (by simp; omega) _).alloc (by simp; omega) _
            have q5 := hbW.cell (p := ⟨b1, o1 + k * 8 + 5, none⟩) hb1
            rw [← hW]
            clear hW hmc hmr hml
            obtain ⟨x0, x1, x2, x3, x4, x5, x6, x7⟩ := B1.op
            cases hwf : wfB o with
            | false =>
              go_wp2_with (go_at_call 38; refine (wellFormed_any o _).mono ?_; rintro e w2 ⟨rfl, hb2⟩)
              go_ret
              exact ⟨congrArg _ (congrArg _ (fin_err Hno.out hlt (by rw [errK, if_pos (by rw [ho]; exact hwf)]) (by decide))), hb.trans ((bext hbW hb2).mono hsz)⟩
            | true =>
              have hP := hbW.size
              go_upto_region 20 with (go_at_call 38; refine (wellFormed_any o _).mono ?_; rintro e w2 ⟨rfl, hb2⟩)
              have hbw2 := bext hbW hb2
              have C1 := B1.below hb2 B1.lt
              have C2 := B2.below hb2 B2.lt
              have hmc2 := hmc1.ext hb2
              have hmr2 := hmr1.ext hb2
              have hml2 := hml1.ext hb2
              clear B1 B2 hmc1 hmr1 hml1 x0 x1 x2 x3 x4 x5 x6 x7 hb2 hbW q5
              obtain ⟨x0, x1, x2, x3, x4, x5, x6, x7⟩ := C1.op
              obtain ⟨y0, y1, y2, y3, y4, y5, y6, y7⟩ := C2.op
              have Hwf := Lib.hid hwf
              clear hwf
              have hsz4 := hbw2.size
              by_cases hord : 0 < k ∧ o.call ≤ (nth l (k - 1)).call
              · obtain ⟨hk0, hord⟩ := hord
                have hk1 : k - 1 < l.length := by omega
                obtain ⟨_, _, _, _, _, q5, _, _⟩ := ((h1.below hb).below (hbw2.mono hsz)).op' hk1
                have hk2 : (0 : Int) < (k : Int) := by omega
                go_wp2_with fail
                go_quiet (fail)
                go_wp2_with fail
                go_ret
                exact ⟨congrArg _ (congrArg _ (fin_err Hno.out hlt (by rw [errK, if_neg (by rw [ho, Hwf.out]; simp), if_pos (by rw [ho]; exact ⟨hk0, hord⟩)]) (by decide))), bdrewN (hb.trans (hbw2.mono hsz)) _⟩
              · have Hord := Lib.hid hord
                go_cut [74] (fun s wx => s = .bool false ∧ ∃ n, wx = w2.drewN n)
                case first =>
                  by_cases hk0 : 0 < k
                  · have hk1 : k - 1 < l.length := by omega
                    obtain ⟨_, _, _, _, _, q5, _, _⟩ := ((h1.below hb).below (hbw2.mono hsz)).op' hk1
                    have hk2 : (0 : Int) < (k : Int) := by omega
                    have hle : (nth l (k - 1)).call < o.call := by
                      have := Hord.out
                      omega
                    clear hord
                    go_wp2_with fail
                    go_quiet (fail)
                    go_wp2_with fail
                    go_meet
                    case rel => exact ⟨by simp; omega, _, rfl⟩
                  · have hk2 : decide ((0 : Int) < (k : Int)) = false := by simp; omega
                    clear hord
                    go_wp2_with fail
                    go_quiet (fail)
                    go_wp2_with fail
                    go_meet
                    case rel => exact ⟨by simp, _, rfl⟩
                case rest =>
                  obtain ⟨rfl, n, rfl⟩ := hcut
                  clear hord
                  go_upto_region 22 with fail
                  go_cut [11, 13, 15, 88] (fun _ _ _ s wx => s = .bool (b5 || (o.done && (b6 || b7))) ∧ wx = w2.drewN n)
                  case first =>
                    go_wp2_with fail
                    all_goals go_meet
                    all_goals exact ⟨by simp [*], rfl⟩
                  case rest =>
                    obtain ⟨rfl, rfl⟩ := hcut
                    obtain ⟨b8, hb8⟩ : ∃ b8, (b5 || (o.done && (b6 || b7))) = b8 := ⟨_, rfl⟩
                    rw [hb8]
                    have Hb8 := Lib.hid hb8
                    clear hb8
                    have e1 : ¬ (wfB (nth l k) = false) := by rw [ho, Hwf.out]; simp
                    have e2 : ¬ (0 < k ∧ (nth l k).call ≤ (nth l (k - 1)).call) := by rw [ho]; exact Hord.out
                    have e3 : (retB l k (nth l k).call || (nth l k).done && (retB l k (nth l k).ret || callB l l.length (nth l k).ret)) = b8 := by rw [ho, Hb5.out, Hb6.out, Hb7.out]; exact Hb8.out
                    have E1 := Lib.hid e1
                    have E2 := Lib.hid e2
                    have E3 := Lib.hid e3
                    clear e1 e2 e3
                    cases b8 with
                    | true =>
                      go_wp2_with fail
                      go_ret
                      exact ⟨congrArg _ (congrArg _ (fin_err Hno.out hlt (by rw [errK, if_neg E1.out, if_neg E2.out, if_pos E3.out]) (by decide))), bdrewN (hb.trans (hbw2.mono hsz)) _⟩
                    | false =>
                      go_upto_region 24 with fail
                      go_cut [17, 100] (fun _ s wx => s = .bool (b4 && (!pv.done || decide (o.call < pv.ret))) ∧ wx = w2.drewN n)
                      case first =>
                        go_wp2_with fail
                        all_goals go_meet
                        all_goals exact ⟨by simp [*], rfl⟩
                      case rest =>
                        obtain ⟨rfl, rfl⟩ := hcut
                        obtain ⟨b9, hb9⟩ : ∃ b9, (b4 && (!pv.done || decide (o.call < pv.ret))) = b9 := ⟨_, rfl⟩
                        rw [hb9]
                        have e4 : ((lastOf l k (nth l k).p).isSome = true ∧ (((lastOf l k (nth l k).p).getD default).done = false ∨ (nth l k).call < ((lastOf l k (nth l k).p).getD default).ret)) ↔ b9 = true := by
                          rw [ho, Hb4.out, Hpv.out, ← hb9]; simp
                        have E4 := Lib.hid e4
                        clear hb9 e4
                        cases b9 with
                        | true =>
                          go_wp2_with fail
                          go_ret
                          exact ⟨congrArg _ (congrArg _ (fin_err Hno.out hlt (by rw [errK, if_neg E1.out, if_neg E2.out, if_neg (by rw [E3.out]; simp), if_pos (E4.out.mpr (by trivial))]) (by decide))), bdrewN (hb.trans (hbw2.mono hsz)) _⟩
                        | false =>
                          have hz := fin_ok Hno.out hlt (by rw [errK, if_neg E1.out, if_neg E2.out, if_neg (by rw [E3.out]; simp), if_neg (fun h => by have := E4.out.1 h; cases this)])
                          have Hz := Lib.hid hz
                          clear hz
                          have Hst := Lib.hid (show lastOf l (k + 1) = fun p => if p = o.p then some o else lastOf l k p by rw [lastOf_step, ho])
                          have hne1 := hmr2.ne_blk C1
                          have hne2 : wb.heap.size ≠ w.heap.size := by omega
                          have hne3 : wb.heap.size ≠ wb.heap.size + 1 := by omega
                          have hne4 := hml2.ne_blk C1
                          cases hdn : o.done with
                          | true =>
                            rw [hdn] at x7
                            have Hr := Lib.hid (retB_true hlt (by rw [ho]; exact hdn))
                            have Hdn := Lib.hid hdn
                            clear hdn
                            go_upto_region 28 with (at_mapUpdate; refine wpList_upd intKeys Try.underlying69 (hmr2.drewN n) o.ret hI.2.2.2.2.2.2 (.agg #[]) rfl (.tmp 116) (.tmp 118) (.tmp 119) rfl rfl rfl rfl ?_; intro w3 hm3 hg3)
                            have hsz5 : w2.heap.size ≤ w3.heap.size := hg3.size
                            have D1 := (C1.drewN n).grown hg3 (by simpa using fun e => hne1 e.symm)
                            have hml3 := (hml2.drewN n).grown hg3 (by simp)
                            have hmc3 := (hmc2.drewN n).grown hg3 (by simpa using fun e => hne2 e.symm)
                            have hb3 := (bdrewN (hb.trans (hbw2.mono hsz)) n).grown hg3 (by simp; omega) (by rintro k' ⟨⟩; omega)
                            clear x0 x1 x2 x3 x4 x5 x6 x7 hg3
                            obtain ⟨x0, x1, x2, x3, x4, x5, x6, x7⟩ := D1.op
                            go_wp2_with (at_mapUpdate; refine wpList_upd intKeys Try.underlying71 hml3 o.p hI.1 (.agg o.vals.toArray) rfl (.tmp 120) (.tmp 122) (.tmp 123) rfl rfl rfl rfl ?_; intro w4 hm4 hg4)
                            go_roundw
                            case rel =>
                              refine ⟨k + 1, by omega, by go_num, hmc3.grown hg4 (by simp; omega), ?_, ?_, hb3.grown hg4 (by omega) (by rintro k' ⟨⟩; omega), by have := hg4.size; omega, Hz.out⟩
                              · rw [Hr.out, ho, ← setMap_upd]; exact hm3.grown hg4 (by simp)
                              · rw [Hst.out, ← opMap_upd]; exact hm4
                            case measure => simp [intOf]; omega
                          | false =>
                            rw [hdn] at x7
                            have Hr := Lib.hid (retB_false hlt (by rw [ho]; exact hdn))
                            have Hv := Lib.hid (show (.agg o.vals.toArray : Value) = .agg #[.int .i64 o.p, .int .i64 o.k, .int .i64 o.key, .int .i64 o.arg, .int .i64 o.res, .int .i64 o.call, .int .i64 o.ret, .bool false] by simp [OpV.vals, hdn])
                            clear hdn
                            go_wp2_with (at_mapUpdate; refine wpList_upd intKeys Try.underlying71 (hml2.drewN n) o.p hI.1 (.agg #[.int .i64 o.p, .int .i64 o.k, .int .i64 o.key, .int .i64 o.arg, .int .i64 o.res, .int .i64 o.call, .int .i64 o.ret, .bool false]) rfl (.tmp 120) (.tmp 122) (.tmp 123) rfl rfl rfl rfl ?_; intro w4 hm4 hg4)
                            have hsz5 : w2.heap.size ≤ w4.heap.size := hg4.size
                            go_roundw
                            case rel =>
                              refine ⟨k + 1, by omega, by go_num, (hmc2.drewN n).grown hg4 (by simp; omega), ?_, ?_, (bdrewN (hb.trans (hbw2.mono hsz)) n).grown hg4 (by simp; omega) (by rintro k' ⟨⟩; omega), by omega, Hz.out⟩
                              · rw [Hr.out]; exact ((hmr2.drewN n).grown hg4 (by simp)).mono (by omega)
                              · rw [Hst.out, ← opMap_upd, Hv.out]; exact hm4
                            case measure => simp [intOf]; omega
          · go_wp2
            go_ret
            obtain rfl : k = l.length := by omega
            have e := Hno.out
            rw [Nat.sub_self] at e
            exact ⟨by rw [← e]; rfl, hb⟩
end Go.Proofs.Ythijndjgchbeoaa
