/-
  simproofref20.events: calls and returns of sequential processes, made from numbers.
-/
import Derived.Test.YthijndjgchbeoaaAround
import Derived.Test.YthijndjgchbeoaaObserved
import Derived.Deep.RegionHeld3
import Derived.Deep.DrawnRows
import Derived.Deep.DeepCutAuto
namespace Go.Proofs.Ythijndjgchbeoaa
set_option linter.unusedVariables false
open Go.RowKit
attribute [local go_sem ↓] Go.wp_at_zero Go.wp_at_succ

structure EvV where
  p : Int
  inv : Bool
  n : Int
  deriving DecidableEq, Inhabited
def EvV.vals (o : EvV) : List Value := [.int .i64 o.p, .bool o.inv, .int .i64 o.n]
theorem EvV.wide : Wide 3 EvV.vals := fun _ => rfl
theorem EvV.one (o : EvV) : ∀ u ∈ o.vals, u.oneCell' = true := by intro u hu; simp [EvV.vals] at hu; rcases hu with rfl | rfl | rfl <;> rfl
theorem slEv : SliceT Try.prog 91 95 3 24 := ⟨Try.underlying91, by
  obtain ⟨i, h0, h1, h2, h3⟩ := info_parts (P := Try.prog) (e := 95) (z := .agg #[.int .i64 0, .bool false, .int .i64 0]) (size := 3) (bytes := 24) (by kernel_rfl)
  exact ⟨i, _, h0, h1, h2, h3, rfl⟩, by omega⟩
section
variable {w : World} {B : Nat} {A : Option Addr}
theorem Sl.ev {l : List EvV} (h : Sl EvV.vals w B A l) {i : Nat} (hi : i < l.length) : ∃ b off, A = some ⟨b, off, none⟩ ∧ b < B ∧
    w.cell? ⟨b, off + i * 3, none⟩ = some (.int .i64 (nth l i).p) ∧ w.cell? ⟨b, off + i * 3 + 1, none⟩ = some (.bool (nth l i).inv) ∧ w.cell? ⟨b, off + i * 3 + 2, none⟩ = some (.int .i64 (nth l i).n) := by
  obtain ⟨b, off, rfl, hb, hc⟩ := h.get EvV.wide hi
  rw [← nth_eq hi] at hc
  exact ⟨b, off, rfl, hb, hc 0 _ (by omega) rfl, hc 1 _ (by omega) rfl, hc 2 _ (by omega) rfl⟩
end

structure EvSt where
  out : List EvV
  pend : List Int
  calls : Nat
def evInit : EvSt := ⟨[], [0, 0, 0, 0], 0⟩
/-- one number -/
def evNum (most n : Int) (p : Nat) (s : EvSt) : EvSt :=
  if nth s.pend p = 0 ∧ (s.calls : Int) < most then ⟨s.out ++ [⟨p, true, n / 4⟩], s.pend.set p 1, s.calls + 1⟩
  else if nth s.pend p = 1 ∧ n / 4 % 11 = 10 then { s with pend := s.pend.set p 2 }
  else if nth s.pend p = 1 then { s with pend := s.pend.set p 0, out := s.out ++ [⟨p, false, n / 4⟩] }
  else s
def evStep (l : List Int) (most : Int) (i : Nat) (s : EvSt) : EvSt := evNum most (around (nth l i) 1000000) (around (nth l i) 1000000 % 4).toNat s
def evTo (l : List Int) (most : Int) (k : Nat) : EvSt := loopN (evStep l most) evInit k
def events (l : List Int) (most : Int) : List EvV := (evTo l most (min l.length 40)).out
structure EvOk (k : Nat) (s : EvSt) : Prop where
  lo : s.out.length ≤ k
  lp : s.pend.length = 4
  lc : s.calls ≤ k
theorem evTo_ok (l : List Int) (most : Int) (k : Nat) : EvOk k (evTo l most k) := by
  induction k with
  | zero => exact ⟨by simp [evTo, loopN, evInit], rfl, by simp [evTo, loopN, evInit]⟩
  | succ k ih =>
    have hs : evTo l most (k + 1) = evStep l most k (evTo l most k) := rfl
    rw [hs]
    generalize evTo l most k = s at ih
    obtain ⟨h1, h2, h3⟩ := ih
    unfold evStep evNum
    split
    · exact ⟨by simp; omega, by simp; omega, by simp; omega⟩
    · split
      · exact ⟨by simp; omega, by simp; omega, by simp; omega⟩
      · split
        · exact ⟨by simp; omega, by simp; omega, by simp; omega⟩
        · exact ⟨by omega, h2, by omega⟩
theorem evNum_call {most n : Int} {p : Nat} {s : EvSt} (h : nth s.pend p = 0) (h2 : (s.calls : Int) < most) : evNum most n p s = ⟨s.out ++ [⟨p, true, n / 4⟩], s.pend.set p 1, s.calls + 1⟩ := by simp [evNum, h, h2]
theorem evNum_stay {most n : Int} {p : Nat} {s : EvSt} (h : nth s.pend p = 1) (h2 : n / 4 % 11 = 10) : evNum most n p s = { s with pend := s.pend.set p 2 } := by simp [evNum, h, h2]
theorem evNum_ret {most n : Int} {p : Nat} {s : EvSt} (h : nth s.pend p = 1) (h2 : ¬ n / 4 % 11 = 10) : evNum most n p s = { s with pend := s.pend.set p 0, out := s.out ++ [⟨p, false, n / 4⟩] } := by simp [evNum, h, h2]
theorem evNum_full {most n : Int} {p : Nat} {s : EvSt} (h : nth s.pend p = 0) (h2 : ¬ (s.calls : Int) < most) : evNum most n p s = s := by simp [evNum, h, h2]
theorem evNum_gone {most n : Int} {p : Nat} {s : EvSt} (h : ¬ nth s.pend p = 0) (h2 : ¬ nth s.pend p = 1) : evNum most n p s = s := by simp [evNum, h, h2]
theorem own_low {w : World} {base : Nat} {e : TypeId} {sz n c : Nat} {A : Option Addr} {xs : List Value} (h : w.ownsRow base e sz (.slice A n c) n xs) {p : Addr} (hp : p.block < base) (u : Value) : (w.setCell p u).ownsRow base e sz (.slice A n c) n xs := by
  refine ownsRow_setCell_far h ?_ u
  rcases h.2 with ⟨hv, _⟩ | ⟨g, cap, cur, hv, hb, _⟩
  · rw [hv]; simp [Value.ownBlock]
  · rw [hv]
    simp [Value.ownBlock]
    omega

set_option maxHeartbeats 1000000 in
set_option maxRecDepth 100000 in
theorem events_any (A : Option Addr) (c : Nat) (l : List Int) (most : Int) (w : World) (h1 : Sl intv w w.heap.size A l) (hl : ∀ x ∈ l, I64 x) (hlen : l.length ≤ 9223372036854775807) (hmost : I64 most) :
    Calls Try.prog 51 #[.slice A l.length c, .int .i64 most] w fun e w' => ∃ A1 c1, e = .returned (.slice A1 (events l most).length c1) ∧
      w'.ownsRow w.heap.size 95 3 (.slice A1 (events l most).length c1) (events l most).length (flat EvV.vals (events l most)) ∧ Below w.heap.size w w' := by
  have hmk : ∀ w, (Instr.makeSlice 22 (.int .i64 4) (.int .i64 4)).run Try.prog w = .ok (.slice (some ⟨w.heap.size, 0, none⟩) 4 4) (w.alloc (.cells #[.int .i64 0, .int .i64 0, .int .i64 0, .int .i64 0] 3)) := fun _ => by kernel_rfl
  go_enter Try.func51, Try.ntmps51
  go_wp2_with fail
  go_loopw [5, 7, 8] (fun v5 v7 i wr => ∃ (k : Nat) (A1 : Option Addr) (c1 : Nat), k ≤ l.length ∧ k ≤ 40 ∧ i = .int .i64 k ∧ v5 = .slice A1 (evTo l most k).out.length c1 ∧ v7 = .int .i64 (evTo l most k).calls ∧
      wr.ownsRow (w.heap.size + 1) 95 3 (.slice A1 (evTo l most k).out.length c1) (evTo l most k).out.length (flat EvV.vals (evTo l most k).out) ∧
      Blk wr w.heap.size 3 (flat intv (evTo l most k).pend) ∧ Below w.heap.size w wr ∧ w.heap.size + 1 ≤ wr.heap.size) (fun _ _ i _ => 40 - (intOf i).toNat)
  case atStart =>
    exact ⟨0, none, 0, by omega, by omega, rfl, rfl, rfl, World.ownsRow_nil _ _ _ _, Blk.new w 3 [.int .i64 0, .int .i64 0, .int .i64 0, .int .i64 0], (Below.refl _ _).alloc (Nat.le_refl _) _, by simp⟩
  case round =>
    obtain ⟨k, A1, c1, hk1, hk2, rfl, rfl, rfl, ho1, hbe, hb, hsz⟩ := hrel
    by_cases hlt : k < l.length ∧ k < 40
    · obtain ⟨hlt1, hlt2⟩ := hlt
      obtain ⟨s, hs⟩ : ∃ s, s = evTo l most k := ⟨_, rfl⟩
      have ok := evTo_ok l most k
      have Hs := Lib.hid (show evTo l most (k + 1) = evStep l most k (evTo l most k) from rfl)
      rw [← hs] at ho1 hbe ok Hs
      rw [← hs]
      have hI := hl _ (nth_mem hlt1)
      obtain ⟨n, hn⟩ : ∃ n, around (nth l k) 1000000 = n := ⟨_, rfl⟩
      have hn0 : 0 ≤ n := hn ▸ around_lo (by omega)
      have hn1 : n < 1000000 := hn ▸ around_hi (by omega)
      obtain ⟨p, hp⟩ : ∃ p : Nat, n % 4 = p := ⟨(n % 4).toNat, by omega⟩
      have hp2 : p < 4 := by omega
      have hp3 : (0 : Int) ≤ (p : Int) := by omega
      have hp4 : (p : Int) < 4 := by omega
      have hstep : evStep l most k s = evNum most n p s := by unfold evStep; rw [hn, hp]; rfl
      rw [hstep] at Hs
      clear hstep hs
      obtain ⟨b, o, rfl, hbl, q0⟩ := (h1.below hb).int hlt1
      have hlo := ok.lo
      have hlc := ok.lc
      have hp5 : p < s.pend.length := by have := ok.lp; omega
      have x1 := hbe.int (i := p) hp5
      have z1 := hbe.frozen p
      clear ok
      by_cases c1' : nth s.pend p = 0
      · rw [c1'] at x1
        by_cases c2 : (s.calls : Int) < most
        · have Hs2 := Lib.hid (Hs.out.trans (evNum_call c1' c2))
          clear c1' Hs
          have hbe2 := hbe.setInt p 1
          have ho2 := own_low ho1 (p := ⟨w.heap.size, p, none⟩) (by simp) (.int .i64 1)
          have hb2 := hb.setCell (p := ⟨w.heap.size, p, none⟩) (by simp) (.int .i64 1)
          have hsz2 : (wr.setCell ⟨w.heap.size, p, none⟩ (.int .i64 1)).heap.size = wr.heap.size := by simp
          go_wp2_with (first | (go_at_call 23; refine (around_any _ _ _ hI (by omega) (by omega)).mono ?_; rintro e w' ⟨rfl, rfl⟩; rw [hn]) | (at_builtin; go_loud (refine wpList_app1 slEv ho2 rfl (.tmp 44) (.tmp 49) rfl rfl (by rw [hsz2]; rfl) rfl (by simp [Value.oneCell']) (by omega) (by omega) (by omega) ?_; intro A3 c3 w2 ho3 hb3 hg3 hl3)))
          go_roundw
          case rel =>
            refine ⟨k + 1, A3, c3, by omega, by omega, by go_num, by rw [Hs2.out]; simp, by rw [Hs2.out]; simp, ?_, ?_, ?_, ?_⟩
            · rw [Hs2.out, flat_append, flat_one]; simpa [EvV.vals] using ho3
            · rw [Hs2.out]; exact hbe2.below hb3 (by simp)
            · exact hb2.trans (hb3.mono (by omega))
            · have := hb3.size; omega
          case measure => simp [intOf]; omega
        · have Hs2 := Lib.hid (Hs.out.trans (evNum_full c1' c2))
          clear c1' Hs
          go_wp2_with (go_at_call 23; refine (around_any _ _ _ hI (by omega) (by omega)).mono ?_; rintro e w' ⟨rfl, rfl⟩; rw [hn])
          go_roundw
          case rel => exact ⟨k + 1, A1, c1, by omega, by omega, by go_num, by rw [Hs2.out], by rw [Hs2.out], by rw [Hs2.out]; exact ho1, by rw [Hs2.out]; exact hbe, hb, hsz⟩
          case measure => simp [intOf]; omega
      · by_cases c3 : nth s.pend p = 1
        · rw [c3] at x1
          by_cases c4 : n / 4 % 11 = 10
          · have Hs2 := Lib.hid (Hs.out.trans (evNum_stay c3 c4))
            have c4' : (n / 4 % 11 == 10) = true := by simpa using c4
            clear c1' c3 c4 Hs
            go_wp2_with (go_at_call 23; refine (around_any _ _ _ hI (by omega) (by omega)).mono ?_; rintro e w' ⟨rfl, rfl⟩; rw [hn])
            go_roundw
            case rel => exact ⟨k + 1, A1, c1, by omega, by omega, by go_num, by rw [Hs2.out], by rw [Hs2.out], by rw [Hs2.out]; exact own_low ho1 (by simp) _, by rw [Hs2.out]; exact hbe.setInt p _, hb.setCell (by simp) _, by simpa using hsz⟩
            case measure => simp [intOf]; omega
          · have Hs2 := Lib.hid (Hs.out.trans (evNum_ret c3 c4))
            have c4' : (n / 4 % 11 == 10) = false := by simpa using c4
            clear c1' c3 c4 Hs
            have hbe2 := hbe.setInt p 0
            have ho2 := own_low ho1 (p := ⟨w.heap.size, p, none⟩) (by simp) (.int .i64 0)
            have hb2 := hb.setCell (p := ⟨w.heap.size, p, none⟩) (by simp) (.int .i64 0)
            have hsz2 : (wr.setCell ⟨w.heap.size, p, none⟩ (.int .i64 0)).heap.size = wr.heap.size := by simp
            go_wp2_with (first | (go_at_call 23; refine (around_any _ _ _ hI (by omega) (by omega)).mono ?_; rintro e w' ⟨rfl, rfl⟩; rw [hn]) | (at_builtin; go_loud (refine wpList_app1 slEv ho2 rfl (.tmp 73) (.tmp 78) rfl rfl (by rw [hsz2]; rfl) rfl (by simp [Value.oneCell']) (by omega) (by omega) (by omega) ?_; intro A3 c3 w2 ho3 hb3 hg3 hl3)))
            go_roundw
            case rel =>
              refine ⟨k + 1, A3, c3, by omega, by omega, by go_num, by rw [Hs2.out]; simp, by rw [Hs2.out], ?_, ?_, ?_, ?_⟩
              · rw [Hs2.out, flat_append, flat_one]; simpa [EvV.vals] using ho3
              · rw [Hs2.out]; exact hbe2.below hb3 (by simp)
              · exact hb2.trans (hb3.mono (by omega))
              · have := hb3.size; omega
            case measure => simp [intOf]; omega
        · have Hs2 := Lib.hid (Hs.out.trans (evNum_gone c1' c3))
          have c1'' : (nth s.pend p == 0) = false := by simpa using c1'
          have c3' : (nth s.pend p == 1) = false := by simpa using c3
          clear c1' c3 Hs
          go_wp2_with (go_at_call 23; refine (around_any _ _ _ hI (by omega) (by omega)).mono ?_; rintro e w' ⟨rfl, rfl⟩; rw [hn])
          go_roundw
          case rel => exact ⟨k + 1, A1, c1, by omega, by omega, by go_num, by rw [Hs2.out], by rw [Hs2.out], by rw [Hs2.out]; exact ho1, by rw [Hs2.out]; exact hbe, hb, hsz⟩
          case measure => simp [intOf]; omega
    · have e : k = min l.length 40 := by omega
      by_cases hlt1 : k < l.length
      · have hk3 : ¬ k < 40 := fun h => hlt ⟨hlt1, h⟩
        go_wp2_with fail
        go_ret
        subst e
        exact ⟨A1, c1, rfl, own_mono ho1 (by omega), hb⟩
      · go_wp2_with fail
        go_ret
        subst e
        exact ⟨A1, c1, rfl, own_mono ho1 (by omega), hb⟩
end Go.Proofs.Ythijndjgchbeoaa
