/-
  simproofref20.Check: why a list of operations is not a history, by the reference.
-/
import Derived.Test.YthijndjgchbeoaaHCheck
namespace Go.Proofs.Ythijndjgchbeoaa
set_option linter.unusedVariables false
open Go.RowKit
attribute [local go_sem ↓] Go.wp_at_zero Go.wp_at_succ

/-- operation j gives operation i a number twice: a return of an earlier one -/
def dup1 (l : List OpV) (o : OpV) (i j : Nat) : Bool := decide (j < i) && (nth l j).done && (o.call == (nth l j).ret || o.done && o.ret == (nth l j).ret)
def dup2 (l : List OpV) (o : OpV) (j : Nat) : Bool := o.done && o.ret == (nth l j).call
def dupTo (l : List OpV) (o : OpV) (i k : Nat) : Bool := (List.range k).any fun j => dup1 l o i j || dup2 l o j
/-- operation j of the process is not over when o is called -/
def busy (l : List OpV) (o : OpV) (j : Nat) : Bool := (nth l j).p == o.p && (!(nth l j).done || decide (o.call < (nth l j).ret))
def busyTo (l : List OpV) (o : OpV) (k : Nat) : Bool := (List.range k).any fun j => busy l o j
def errR (l : List OpV) (k : Nat) : Int :=
  if wfB (nth l k) = false then 1
  else if 0 < k ∧ (nth l k).call ≤ (nth l (k - 1)).call then 5
  else if dupTo l (nth l k) k l.length = true then 4
  else if busyTo l (nth l k) k = true then 5
  else 0
theorem dupTo_step (l : List OpV) (o : OpV) (i k : Nat) : dupTo l o i (k + 1) = (dupTo l o i k || (dup1 l o i k || dup2 l o k)) := by
  unfold dupTo; rw [List.range_succ, List.any_append]; simp
theorem busyTo_step (l : List OpV) (o : OpV) (k : Nat) : busyTo l o (k + 1) = (busyTo l o k || busy l o k) := by
  unfold busyTo; rw [List.range_succ, List.any_append]; simp
theorem dupTo_mono {l : List OpV} {o : OpV} {i k : Nat} (hk : k < l.length) (h : (dup1 l o i k || dup2 l o k) = true) : dupTo l o i l.length = true :=
  List.any_eq_true.2 ⟨k, by simpa using hk, h⟩
theorem busyTo_mono {l : List OpV} {o : OpV} {i k : Nat} (hk : k < i) (h : busy l o k = true) : busyTo l o i = true :=
  List.any_eq_true.2 ⟨k, by simpa using hk, h⟩

set_option maxHeartbeats 2000000 in
set_option maxRecDepth 100000 in
theorem wrong_any (A : Option Addr) (c : Nat) (l : List OpV) (i : Nat) (w : World) (h1 : Sl OpV.vals w w.heap.size A l) (hi : i < l.length) (hlen : l.length ≤ 1000000000) :
    Calls Try.prog 42 #[.slice A l.length c, .int .i64 i] w fun e w' => e = .returned (.int .i64 (errR l i)) ∧ Below w.heap.size w w' := by
  obtain ⟨o, ho⟩ : ∃ o, nth l i = o := ⟨_, rfl⟩
  obtain ⟨X, hX⟩ : ∃ X, errR l i = X := ⟨_, rfl⟩
  rw [hX]
  have HX := Lib.hid hX
  obtain ⟨b1, o1, rfl, hbl1, p0, p1, p2, p3, p4, p5, p6, p7⟩ := h1.op hi
  rw [ho] at p0 p1 p2 p3 p4 p5 p6 p7
  have Ho := Lib.hid ho
  clear ho hX
  have hb1 : b1 < w.heap.size := by omega
  go_enter Try.func42, Try.ntmps42
  go_upto_region 2 with fail
  have B1 : Blk (w.alloc (.cells #[.int .i64 o.p, .int .i64 o.k, .int .i64 o.key, .int .i64 o.arg, .int .i64 o.res, .int .i64 o.call, .int .i64 o.ret, .bool o.done] 33)) w.heap.size 33 o.vals := Blk.new w 33 o.vals
  have hbW : Below w.heap.size w (w.alloc (.cells #[.int .i64 o.p, .int .i64 o.k, .int .i64 o.key, .int .i64 o.arg, .int .i64 o.res, .int .i64 o.call, .int .i64 o.ret, .bool o.done] 33)) := below8 _
  have hsW : w.heap.size < (w.alloc (.cells #[.int .i64 o.p, .int .i64 o.k, .int .i64 o.key, .int .i64 o.arg, .int .i64 o.res, .int .i64 o.call, .int .i64 o.ret, .bool o.done] 33)).heap.size := by simp
  obtain ⟨W, hW⟩ : ∃ W, W = (w.alloc (.cells #[.int .i64 o.p, .int .i64 o.k, .int .i64 o.key, .int .i64 o.arg, .int .i64 o.res, .int .i64 o.call, .int .i64 o.ret, .bool o.done] 33)) := ⟨_, rfl⟩
  rw [← hW] at B1 hbW hsW ⊢
  clear hW p0 p1 p2 p3 p4 p5 p6 p7
  have h2 := h1.below hbW
  have hWs := hbW.size
  obtain ⟨x0, x1, x2, x3, x4, x5, x6, x7⟩ := B1.op
  go_cut [46] (fun s wx => s = .bool (!wfB o) ∧ W = wx)
  case first =>
    by_cases g1 : 0 ≤ o.p
    · by_cases g2 : 0 ≤ o.k
      · by_cases g3 : o.k ≤ 4
        · by_cases g4 : 0 ≤ o.call
          · by_cases g5 : o.call < o.ret
            · cases g6 : o.done with
              | true =>
                rw [g6] at x7
                go_wp2_with fail
                go_meet
                case rel => exact ⟨by simp [wfB, g1, g2, g3, g4, g5, g6], rfl⟩
              | false =>
                rw [g6] at x7
                by_cases g7 : o.res = 0
                · have g7' : (o.res != 0) = false := by simpa using g7
                  go_wp2_with fail
                  go_meet
                  case rel => exact ⟨by simp [wfB, g1, g2, g3, g4, g5, g6, g7], rfl⟩
                · have g7' : (o.res != 0) = true := by simpa using g7
                  go_wp2_with fail
                  go_meet
                  case rel => exact ⟨by simp [wfB, g1, g2, g3, g4, g5, g6, g7], rfl⟩
            · go_wp2_with fail
              go_meet
              case rel => exact ⟨by simp [wfB, g5], rfl⟩
          · go_wp2_with fail
            go_meet
            case rel => exact ⟨by simp [wfB, g4], rfl⟩
        · go_wp2_with fail
          go_meet
          case rel => exact ⟨by simp [wfB, g3], rfl⟩
      · go_wp2_with fail
        go_meet
        case rel => exact ⟨by simp [wfB, g2], rfl⟩
    · go_wp2_with fail
      go_meet
      case rel => exact ⟨by simp [wfB, g1], rfl⟩
  case rest =>
    obtain ⟨rfl, rfl⟩ := hcut
    cases hwf : wfB o with
    | false =>
      have e : errR l i = 1 := by rw [errR, if_pos (by rw [Ho.out]; exact hwf)]
      rw [HX.out] at e
      subst e
      go_wp2_with fail
      go_ret
      exact ⟨rfl, hbW⟩
    | true =>
      have Hwf := Lib.hid (show ¬ (wfB (nth l i) = false) by rw [Ho.out, hwf]; simp)
      clear hwf
      by_cases hord : 0 < i ∧ o.call ≤ (nth l (i - 1)).call
      · have e : errR l i = 5 := by rw [errR, if_neg Hwf.out, if_pos (by rw [Ho.out]; exact hord)]
        rw [HX.out] at e
        subst e
        obtain ⟨hi0, hord⟩ := hord
        have hi1 : i - 1 < l.length := by omega
        obtain ⟨_, _, _, _, _, q5, _, _⟩ := h2.op' hi1
        have hi2 : (0 : Int) < (i : Int) := by omega
        go_wp2_with fail
        go_quiet (fail)
        go_wp2_with fail
        go_ret
        exact ⟨rfl, bdrewN hbW _⟩
      · have Hord := Lib.hid (show ¬ (0 < i ∧ (nth l i).call ≤ (nth l (i - 1)).call) by rw [Ho.out]; exact hord)
        clear hord
        go_upto_region 4 with fail
        go_cut [59] (fun s wx => s = .bool false ∧ ∃ n, wx = W.drewN n)
        case first =>
          by_cases hk0 : 0 < i
          · have hk1 : i - 1 < l.length := by omega
            obtain ⟨_, _, _, _, _, q5, _, _⟩ := h2.op' hk1
            have hk2 : (0 : Int) < (i : Int) := by omega
            have hle : (nth l (i - 1)).call < o.call := by have := Hord.out; rw [Ho.out] at this; omega
            go_wp2_with fail
            go_quiet (fail)
            go_wp2_with fail
            go_meet
            case rel => exact ⟨by simp; omega, _, rfl⟩
          · have hk2 : decide ((0 : Int) < (i : Int)) = false := by simp; omega
            go_wp2_with fail
            go_quiet (fail)
            go_wp2_with fail
            go_meet
            case rel => exact ⟨by simp, _, rfl⟩
        case rest =>
          obtain ⟨rfl, n, rfl⟩ := hcut
          have hbn := bdrewN hbW n
          have B2 := B1.drewN n
          clear x0 x1 x2 x3 x4 x5 x6 x7 B1
          obtain ⟨V, hV⟩ : ∃ V, V = W.drewN n := ⟨_, rfl⟩
          rw [← hV] at hbn B2 ⊢
          have hVs : W.heap.size = V.heap.size := by rw [hV]; rfl
          clear hV hbW h2
          go_wp2_with fail
          go_loopw [6] (fun v wr => ∃ k : Nat, k ≤ l.length ∧ v = .int .i64 k ∧ Blk wr w.heap.size 33 o.vals ∧ Below w.heap.size w wr ∧ dupTo l o i k = false) (fun v _ => l.length - (intOf v).toNat)
          case atStart => exact ⟨0, by omega, rfl, B2, hbn, rfl⟩
          case round =>
            obtain ⟨k, hk, rfl, B3, hb, hno⟩ := hrel
            have Hno := Lib.hid hno
            clear hno
            by_cases hlt : k < l.length
            · obtain ⟨q0, q1, q2, q3, q4, q5, q6, q7⟩ := (h1.below hb).op' hlt
              obtain ⟨x0, x1, x2, x3, x4, x5, x6, x7⟩ := B3.op
              obtain ⟨d1, hd1⟩ : ∃ d1, dup1 l o i k = d1 := ⟨_, rfl⟩
              have Hd1 := Lib.hid hd1
              clear hd1
              go_upto_region 9 with fail
              go_cut [99] (fun s wx => s = .bool d1 ∧ ∃ n, wx = wr.drewN n)
              case first =>
                have hd := Hd1.out
                unfold dup1 at hd
                by_cases c1 : k < i
                · have c1' : (k : Int) < (i : Int) := by omega
                  cases c2 : (nth l k).done with
                  | false =>
                    rw [c2] at q7
                    go_wp2_with fail
                    go_quiet (fail)
                    go_wp2_with fail
                    go_meet
                    case rel => exact ⟨by simp [← hd, c1, c2], _, rfl⟩
                  | true =>
                    rw [c2] at q7
                    cases c3 : (o.call == (nth l k).ret) with
                    | true =>
                      go_wp2_with fail
                      go_quiet (fail)
                      go_wp2_with fail
                      go_meet
                      case rel => exact ⟨by simp [← hd, c1, c2, c3], _, rfl⟩
                    | false =>
                      cases c4 : o.done with
                      | false =>
                        rw [c4] at x7
                        go_wp2_with fail
                        go_quiet (fail)
                        go_wp2_with fail
                        go_meet
                        case rel => exact ⟨by simp [← hd, c1, c2, c3, c4], _, rfl⟩
                      | true =>
                        rw [c4] at x7
                        cases c5 : (o.ret == (nth l k).ret) with
                        | true =>
                          go_wp2_with fail
                          go_quiet (fail)
                          go_wp2_with fail
                          go_meet
                          case rel => exact ⟨by simp [← hd, c1, c2, c3, c4, c5], _, rfl⟩
                        | false =>
                          go_wp2_with fail
                          go_quiet (fail)
                          go_wp2_with fail
                          go_meet
                          case rel => exact ⟨by simp [← hd, c1, c2, c3, c4, c5], _, rfl⟩
                · have c1' : decide ((k : Int) < (i : Int)) = false := by simp; omega
                  go_wp2_with fail
                  go_quiet (fail)
                  go_wp2_with fail
                  go_meet
                  case rel => exact ⟨by simp [← hd, c1], _, rfl⟩
              case rest =>
                obtain ⟨rfl, n, rfl⟩ := hcut
                cases d1 with
                | true =>
                  have e : errR l i = 4 := by rw [errR, if_neg Hwf.out, if_neg Hord.out, if_pos (by rw [Ho.out]; exact dupTo_mono hlt (by rw [Hd1.out]; rfl))]
                  rw [HX.out] at e
                  subst e
                  go_wp2_with fail
                  go_ret
                  exact ⟨rfl, bdrewN hb _⟩
                | false =>
                  obtain ⟨d2, hd2⟩ : ∃ d2, dup2 l o k = d2 := ⟨_, rfl⟩
                  have Hd2 := Lib.hid hd2
                  clear hd2
                  have hs2 : (wr.drewN n).heap.size = wr.heap.size := rfl
                  go_upto_region 11 with fail
                  go_cut [111] (fun s wx => s = .bool d2 ∧ ∃ m, wx = (wr.drewN n).drewN m)
                  case first =>
                    have hd := Hd2.out
                    unfold dup2 at hd
                    cases c4 : o.done with
                    | false =>
                      rw [c4] at x7
                      go_wp2_with fail
                      go_quiet (fail)
                      go_wp2_with fail
                      go_meet
                      case rel => exact ⟨by simp [← hd, c4], _, rfl⟩
                    | true =>
                      rw [c4] at x7
                      go_wp2_with fail
                      go_quiet (fail)
                      go_wp2_with fail
                      go_meet
                      case rel => exact ⟨by simp [← hd, c4], _, rfl⟩
                  case rest =>
                    obtain ⟨rfl, m, rfl⟩ := hcut
                    cases d2 with
                    | true =>
                      have e : errR l i = 4 := by rw [errR, if_neg Hwf.out, if_neg Hord.out, if_pos (by rw [Ho.out]; exact dupTo_mono hlt (by rw [Hd2.out]; simp))]
                      rw [HX.out] at e
                      subst e
                      go_wp2_with fail
                      go_ret
                      exact ⟨rfl, bdrewN (bdrewN hb _) _⟩
                    | false =>
                      go_wp2_with fail
                      go_roundw
                      case rel => exact ⟨k + 1, by omega, by go_num, B3.drewN _, bdrewN hb _, by rw [dupTo_step, Hno.out, Hd1.out, Hd2.out]; rfl⟩
                      case measure => simp [intOf]; omega
            · obtain rfl : k = l.length := by omega
              have Hdup := Lib.hid (show ¬ (dupTo l (nth l i) i l.length = true) by rw [Ho.out, Hno.out]; simp)
              have B4 := B3
              have hb4 := hb
              obtain ⟨V2, rfl⟩ : ∃ V2 : World, V2 = wr := ⟨_, rfl⟩
              go_wp2_with fail
              go_loopw [7] (fun v wr => ∃ k : Nat, k ≤ i ∧ v = .int .i64 k ∧ Blk wr w.heap.size 33 o.vals ∧ Below w.heap.size w wr ∧ busyTo l o k = false) (fun v _ => i - (intOf v).toNat)
              case atStart => exact ⟨0, by omega, rfl, B4, hb4, rfl⟩
              case round =>
                obtain ⟨k, hk, rfl, B3, hb, hno⟩ := hrel
                have Hnb := Lib.hid hno
                clear hno B4 hb4
                by_cases hlt : k < i
                · have hkl : k < l.length := by omega
                  have hint : (k : Int) < (i : Int) := by omega
                  obtain ⟨q0, q1, q2, q3, q4, q5, q6, q7⟩ := (h1.below hb).op' hkl
                  obtain ⟨x0, x1, x2, x3, x4, x5, x6, x7⟩ := B3.op
                  obtain ⟨d1, hd1⟩ : ∃ d1, busy l o k = d1 := ⟨_, rfl⟩
                  have Hd1 := Lib.hid hd1
                  clear hd1
                  go_upto_region 16 with fail
                  go_cut [142] (fun s wx => s = .bool d1 ∧ ∃ n, wx = wr.drewN n)
                  case first =>
                    have hd := Hd1.out
                    unfold busy at hd
                    cases c1 : ((nth l k).p == o.p) with
                    | false =>
                      go_wp2_with fail
                      go_quiet (fail)
                      go_wp2_with fail
                      go_meet
                      case rel => exact ⟨by simp [← hd, c1], _, rfl⟩
                    | true =>
                      cases c2 : (nth l k).done with
                      | false =>
                        rw [c2] at q7
                        go_wp2_with fail
                        go_quiet (fail)
                        go_wp2_with fail
                        go_meet
                        case rel => exact ⟨by simp [← hd, c1, c2], _, rfl⟩
                      | true =>
                        rw [c2] at q7
                        go_wp2_with fail
                        go_quiet (fail)
                        go_wp2_with fail
                        go_meet
                        case rel => exact ⟨by simp [← hd, c1, c2], _, rfl⟩
                  case rest =>
                    obtain ⟨rfl, n, rfl⟩ := hcut
                    cases d1 with
                    | true =>
                      have e : errR l i = 5 := by rw [errR, if_neg Hwf.out, if_neg Hord.out, if_neg Hdup.out, if_pos (by rw [Ho.out]; exact busyTo_mono hlt Hd1.out)]
                      rw [HX.out] at e
                      subst e
                      go_wp2_with fail
                      go_ret
                      exact ⟨rfl, bdrewN hb _⟩
                    | false =>
                      go_wp2_with fail
                      go_roundw
                      case rel => exact ⟨k + 1, by omega, by go_num, B3.drewN _, bdrewN hb _, by rw [busyTo_step, Hnb.out, Hd1.out]; rfl⟩
                      case measure => simp [intOf]; omega
                · obtain rfl : k = i := by omega
                  have e : errR l k = 0 := by rw [errR, if_neg Hwf.out, if_neg Hord.out, if_neg Hdup.out, if_neg (by rw [Ho.out, Hnb.out]; simp)]
                  rw [HX.out] at e
                  subst e
                  go_wp2_with fail
                  go_ret
                  exact ⟨rfl, hb⟩

def rCheckFrom (l : List OpV) (k : Nat) : Nat → Int
  | 0 => 0
  | n + 1 => if errR l k = 0 then rCheckFrom l (k + 1) n else errR l k
def rCheck (l : List OpV) : Int := if 300 < l.length then 2 else rCheckFrom l 0 l.length
theorem rCheckFrom_ok {l : List OpV} {k n : Nat} (h : errR l k = 0) : rCheckFrom l k (n + 1) = rCheckFrom l (k + 1) n := by simp [rCheckFrom, h]
theorem rCheckFrom_err {l : List OpV} {k n : Nat} (h : errR l k ≠ 0) : rCheckFrom l k (n + 1) = errR l k := by simp [rCheckFrom, h]
theorem errR_small (l : List OpV) (k : Nat) : 0 ≤ errR l k ∧ errR l k ≤ 5 := by
  unfold errR
  repeat' split
  all_goals omega

set_option maxHeartbeats 1000000 in
set_option maxRecDepth 100000 in
theorem rCheck_any (A : Option Addr) (c : Nat) (l : List OpV) (w : World) (h1 : Sl OpV.vals w w.heap.size A l) (hlen : l.length ≤ 1000000000) :
    Calls Try.prog 24 #[.slice A l.length c] w fun e w' => e = .returned (.int .i64 (rCheck l)) ∧ Below w.heap.size w w' := by
  by_cases hbig : 300 < l.length
  · go_enter Try.func24, Try.ntmps24
    go_wp2_with fail
    go_ret
    exact ⟨by simp [rCheck, hbig], Below.refl _ _⟩
  · have hc : rCheck l = rCheckFrom l 0 l.length := by simp [rCheck, hbig]
    rw [hc]
    go_enter Try.func24, Try.ntmps24
    go_wp2_with fail
    go_loopw [3, 4] (fun v _ wr => ∃ k : Nat, k ≤ l.length ∧ v = .int .i64 k ∧ Below w.heap.size w wr ∧ rCheckFrom l k (l.length - k) = rCheckFrom l 0 l.length) (fun v _ _ => l.length - (intOf v).toNat)
    case atStart => exact ⟨0, by omega, rfl, Below.refl _ _, by simp⟩
    case round =>
      obtain ⟨k, hk, rfl, hb, hno⟩ := hrel
      obtain ⟨X, hX⟩ : ∃ X, rCheckFrom l 0 l.length = X := ⟨_, rfl⟩
      rw [hX] at hno ⊢
      have HX := Lib.hid hX
      have Hno := Lib.hid hno
      clear hno hX
      by_cases hlt : k < l.length
      · obtain ⟨E, hE⟩ : ∃ E, errR l k = E := ⟨_, rfl⟩
        have HE := Lib.hid hE
        clear hE
        have hsl := (h1.ext hb)
        go_wp2_with (go_at_call 42; refine (wrong_any _ _ l k _ hsl hlt hlen).mono ?_; rintro e w2 ⟨rfl, hb2⟩; rw [HE.out])
        · have hne : ¬ E = 0 := by simpa using ‹(E != 0) = true›
          have hh := Hno.out
          rw [show l.length - k = (l.length - (k + 1)) + 1 by omega, rCheckFrom_err (by rw [HE.out]; exact hne), HE.out] at hh
          subst hh
          go_ret
          exact ⟨by first | (rw [HX.out]; done) | (rw [HX.out]; rfl), bext hb hb2⟩
        · have hz : E = 0 := by simpa using ‹(E != 0) = false›
          have hh := Hno.out
          rw [show l.length - k = (l.length - (k + 1)) + 1 by omega, rCheckFrom_ok (by rw [HE.out]; exact hz)] at hh
          go_roundw
          case rel => exact ⟨k + 1, by omega, by go_num, bext hb hb2, by rw [hh]⟩
          case measure => simp [intOf]; omega
      · obtain rfl : k = l.length := by omega
        have hh := Hno.out
        simp [rCheckFrom] at hh
        have h0 : X = 0 := by omega
        subst h0
        go_wp2_with fail
        go_ret
        exact ⟨by first | (rw [HX.out]; done) | (rw [HX.out]; rfl), hb⟩
end Go.Proofs.Ythijndjgchbeoaa
