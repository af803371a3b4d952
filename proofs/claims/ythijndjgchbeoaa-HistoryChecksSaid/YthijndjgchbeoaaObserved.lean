/-
  simproofref20.Observed: observations of sequential processes, made from numbers.
-/
import Derived.Test.YthijndjgchbeoaaAround
import Derived.Deep.RegionHeld3
import Derived.Deep.DrawnRows
import Derived.Deep.DeepCutAuto
namespace Go.Proofs.Ythijndjgchbeoaa
set_option linter.unusedVariables false
open Go.RowKit
attribute [local go_sem ↓] Go.wp_at_zero Go.wp_at_succ

structure ObSt where
  obs : List ObsV
  reqs : List ReqV
  ep : List Int
  wt : List Int
def obInit : ObSt := ⟨[], [], [0, 0], [-1, -1]⟩
/-- one number -/
def obNum (n : Int) (p : Nat) (s : ObSt) : ObSt :=
  if n / 2 % 9 = 8 then { s with ep := s.ep.set p (nth s.ep p + 1), wt := s.wt.set p (-1) }
  else if nth s.wt p < 0 then { s with obs := s.obs ++ [⟨false, s.reqs.length, p, nth s.ep p, 0⟩], reqs := s.reqs ++ [⟨p, n / 18 % 5, n / 90 % 4, n / 360 % 6⟩], wt := s.wt.set p s.reqs.length }
  else { s with obs := s.obs ++ [⟨true, nth s.wt p, p, nth s.ep p, n / 18 % 7⟩], wt := s.wt.set p (-1) }
def obStep (l : List Int) (i : Nat) (s : ObSt) : ObSt := obNum (around (nth l i) 1000000) (around (nth l i) 1000000 % 2).toNat s
def obTo (l : List Int) (k : Nat) : ObSt := loopN (obStep l) obInit k
def observed (l : List Int) : ObSt := obTo l (min l.length 30)

/-- what holds after k numbers -/
structure ObOk (k : Nat) (s : ObSt) : Prop where
  lo : s.obs.length ≤ k
  lr : s.reqs.length ≤ k
  e2 : s.ep.length = 2
  w2 : s.wt.length = 2
  ep : ∀ x ∈ s.ep, 0 ≤ x ∧ x ≤ k
  wt : ∀ x ∈ s.wt, -1 ≤ x ∧ x < s.reqs.length
theorem obTo_ok (l : List Int) (k : Nat) : ObOk k (obTo l k) := by
  induction k with
  | zero => exact ⟨by simp [obTo, loopN, obInit], by simp [obTo, loopN, obInit], rfl, rfl, by simp [obTo, loopN, obInit], by simp [obTo, loopN, obInit]⟩
  | succ k ih =>
    have hs : obTo l (k + 1) = obStep l k (obTo l k) := rfl
    rw [hs]
    generalize obTo l k = s at ih
    obtain ⟨h1, h2, h3, h4, h5, h6⟩ := ih
    unfold obStep
    generalize around (nth l k) 1000000 = n
    have hp : (n % 2).toNat < 2 := by omega
    generalize (n % 2).toNat = p at hp
    have hep := h5 _ (nth_mem (l := s.ep) (i := p) (by omega))
    have hset : ∀ (l : List Int) (i : Nat) (v x : Int), x ∈ l.set i v → x ∈ l ∨ x = v := fun l i v x hx => List.mem_or_eq_of_mem_set hx
    unfold obNum
    split
    · refine ⟨by simp; omega, by simp; omega, by simpa using h3, by simpa using h4, fun x hx => ?_, fun x hx => ?_⟩
      · rcases hset _ _ _ _ hx with h | h
        · have := h5 x h; omega
        · omega
      · rcases hset _ _ _ _ hx with h | h
        · have := h6 x h; simp; omega
        · simp; omega
    · split
      · refine ⟨by simp; omega, by simp; omega, by simpa using h3, by simpa using h4, fun x hx => ?_, fun x hx => ?_⟩
        · have := h5 x hx; omega
        · rcases hset _ _ _ _ hx with h | h
          · have := h6 x h; simp; omega
          · simp; omega
      · refine ⟨by simp; omega, by simp; omega, by simpa using h3, by simpa using h4, fun x hx => ?_, fun x hx => ?_⟩
        · have := h5 x hx; omega
        · rcases hset _ _ _ _ hx with h | h
          · have := h6 x h; simp; omega
          · simp; omega

theorem ownsRow_setCell_far {w : World} {base : Nat} {e : TypeId} {sz n : Nat} {v : Value} {xs : List Value} (h : w.ownsRow base e sz v n xs) {p : Addr} (hp : some p.block ≠ v.ownBlock) (u : Value) : (w.setCell p u).ownsRow base e sz v n xs := by
  refine ⟨h.1, ?_⟩
  rcases h.2 with hn | ⟨g, cap, cur, rfl, hb', hgg, rest⟩
  · exact .inl hn
  · exact .inr ⟨g, cap, cur, rfl, hb', (Below.heap_setCell w p u g (fun e => hp (by simp [Value.ownBlock, e]))).trans hgg, rest⟩

theorem obNum_crash {n : Int} {p : Nat} {s : ObSt} (h : n / 2 % 9 = 8) : obNum n p s = { s with ep := s.ep.set p (nth s.ep p + 1), wt := s.wt.set p (-1) } := by simp [obNum, h]
theorem obNum_call {n : Int} {p : Nat} {s : ObSt} (h : ¬ n / 2 % 9 = 8) (h2 : nth s.wt p < 0) : obNum n p s = { s with obs := s.obs ++ [⟨false, s.reqs.length, p, nth s.ep p, 0⟩], reqs := s.reqs ++ [⟨p, n / 18 % 5, n / 90 % 4, n / 360 % 6⟩], wt := s.wt.set p s.reqs.length } := by simp [obNum, h, h2]
theorem obNum_reply {n : Int} {p : Nat} {s : ObSt} (h : ¬ n / 2 % 9 = 8) (h2 : ¬ nth s.wt p < 0) : obNum n p s = { s with obs := s.obs ++ [⟨true, nth s.wt p, p, nth s.ep p, n / 18 % 7⟩], wt := s.wt.set p (-1) } := by simp [obNum, h, h2]

set_option maxHeartbeats 1000000 in
set_option maxRecDepth 100000 in
theorem observed_any (A : Option Addr) (c : Nat) (l : List Int) (w : World) (h1 : Sl intv w w.heap.size A l) (hl : ∀ x ∈ l, I64 x) (hlen : l.length ≤ 9223372036854775807) :
    Calls Try.prog 15 #[.slice A l.length c] w fun e w' => ∃ A1 c1 A2 c2, e = .returned (.tuple #[.slice A1 (observed l).obs.length c1, .slice A2 (observed l).reqs.length c2]) ∧
      w'.ownsRow w.heap.size 35 5 (.slice A1 (observed l).obs.length c1) (observed l).obs.length (flat ObsV.vals (observed l).obs) ∧
      w'.ownsRow w.heap.size 37 4 (.slice A2 (observed l).reqs.length c2) (observed l).reqs.length (flat ReqV.vals (observed l).reqs) ∧ Below w.heap.size w w' := by
  have hmk : ∀ w, (Instr.makeSlice 22 (.int .i64 2) (.int .i64 2)).run Try.prog w = .ok (.slice (some ⟨w.heap.size, 0, none⟩) 2 2) (w.alloc (.cells #[.int .i64 0, .int .i64 0] 3)) := fun _ => by kernel_rfl
  go_enter Try.func15, Try.ntmps15
  go_wp2_with fail
  go_loopw [4, 5, 8] (fun v4 v5 i wr => ∃ (k : Nat) (A1 : Option Addr) (c1 : Nat) (A2 : Option Addr) (c2 : Nat), k ≤ l.length ∧ k ≤ 30 ∧ i = .int .i64 k ∧ v4 = .slice A1 (obTo l k).obs.length c1 ∧ v5 = .slice A2 (obTo l k).reqs.length c2 ∧
      wr.ownsRow w.heap.size 35 5 (.slice A1 (obTo l k).obs.length c1) (obTo l k).obs.length (flat ObsV.vals (obTo l k).obs) ∧
      wr.ownsRow w.heap.size 37 4 (.slice A2 (obTo l k).reqs.length c2) (obTo l k).reqs.length (flat ReqV.vals (obTo l k).reqs) ∧
      Blk wr w.heap.size 3 (flat intv (obTo l k).ep) ∧ Blk wr (w.heap.size + 1) 3 (flat intv (obTo l k).wt) ∧ Below w.heap.size w wr) (fun _ _ i _ => 30 - (intOf i).toNat)
  case atStart =>
    refine ⟨0, none, 0, none, 0, by omega, by omega, rfl, rfl, rfl, World.ownsRow_nil _ _ _ _, World.ownsRow_nil _ _ _ _, ?_, ?_, ((Below.refl _ _).alloc (Nat.le_refl _) _).alloc (by simp) _⟩
    · exact (Blk.new w 3 [.int .i64 0, .int .i64 0]).alloc _
    · have := Blk.new (w.alloc (.cells #[.int .i64 0, .int .i64 0] 3)) 3 [.int .i64 (-1), .int .i64 (-1)]
      simp only [World.size_alloc] at this
      exact this
  case round =>
    obtain ⟨k, A1, c1, A2, c2, hk1, hk2, rfl, rfl, rfl, ho1, ho2, hbe, hbw, hb⟩ := hrel
    by_cases hlt : k < l.length ∧ k < 30
    · obtain ⟨hlt1, hlt2⟩ := hlt
      obtain ⟨s, hs⟩ : ∃ s, s = obTo l k := ⟨_, rfl⟩
      have ok := obTo_ok l k
      have Hs := Lib.hid (show obTo l (k + 1) = obStep l k (obTo l k) from rfl)
      rw [← hs] at ho1 ho2 hbe hbw ok Hs
      rw [← hs]
      have hI := hl _ (nth_mem hlt1)
      obtain ⟨n, hn⟩ : ∃ n, around (nth l k) 1000000 = n := ⟨_, rfl⟩
      have hn0 : 0 ≤ n := hn ▸ around_lo (by omega)
      have hn1 : n < 1000000 := hn ▸ around_hi (by omega)
      obtain ⟨p, hp⟩ : ∃ p : Nat, n % 2 = p := ⟨(n % 2).toNat, by omega⟩
      have hp2 : p < 2 := by omega
      have hp3 : (0 : Int) ≤ (p : Int) := by omega
      have hp4 : (p : Int) < 2 := by omega
      have hstep : obStep l k s = obNum n p s := by unfold obStep; rw [hn, hp]; rfl
      rw [hstep] at Hs
      clear hstep hs
      obtain ⟨b, o, rfl, hbl, q0⟩ := (h1.below hb).int hlt1
      have hlo := ok.lo
      have hlr := ok.lr
      have he2 : 2 ≤ s.ep.length := by have := ok.e2; omega
      have hw2 : 2 ≤ s.wt.length := by have := ok.w2; omega
      have x1 := hbe.int (i := p) (by omega)
      have x2 := hbw.int (i := p) (by omega)
      have y1 := ok.ep _ (nth_mem (l := s.ep) (i := p) (by omega))
      have y2 := ok.wt _ (nth_mem (l := s.wt) (i := p) (by omega))
      have z1 := hbe.frozen p
      have z2 := hbw.frozen p
      have hsz := hb.size
      by_cases hc : n / 2 % 9 = 8
      · have hd : (n / 2 % 9 == 8) = true := by simpa using hc
        have Hs2 := Lib.hid (Hs.out.trans (obNum_crash hc))
        clear hc Hs ok
        go_wp2_with (go_at_call 23; refine (around_any _ _ _ hI (by omega) (by omega)).mono ?_; rintro e w' ⟨rfl, rfl⟩)
        go_roundw
        case rel =>
          refine ⟨k + 1, A1, c1, A2, c2, by omega, by omega, by go_num, by rw [Hs2.out], by rw [Hs2.out], ?_, ?_, ?_, ?_, ?_⟩
          · rw [Hs2.out]; exact ownsRow_setCell_far (ownsRow_setCell_far ho1 (own_blk_ne ho1 hbe (by decide)) _) (own_blk_ne ho1 hbw (by decide)) _
          · rw [Hs2.out]; exact ownsRow_setCell_far (ownsRow_setCell_far ho2 (own_blk_ne ho2 hbe (by decide)) _) (own_blk_ne ho2 hbw (by decide)) _
          · rw [Hs2.out]; exact (hbe.setInt p _).far (by simp) _
          · rw [Hs2.out]; exact (hbw.far (by simp) _).setInt p _
          · exact (hb.setCell (by simp) _).setCell (by simp) _
        case measure => simp [intOf]; omega
      · have hd : (n / 2 % 9 == 8) = false := by simpa using hc
        by_cases hwt : nth s.wt p < 0
        · have Hs2 := Lib.hid (Hs.out.trans (obNum_call hc hwt))
          clear hc Hs ok
          go_upto_region 15 with (go_at_call 23; refine (around_any _ _ _ hI (by omega) (by omega)).mono ?_; rintro e w' ⟨rfl, rfl⟩)
          obtain ⟨w1, hw1⟩ : ∃ w1, w1 = wr.setCell ⟨w.heap.size + 1, p, none⟩ (.int .i64 s.reqs.length) := ⟨_, rfl⟩
          have hbw1 := hbw.setInt p s.reqs.length
          have hbe1 := hbe.far (p := ⟨w.heap.size + 1, p, none⟩) (by simp) (.int .i64 s.reqs.length)
          have ho11 := ownsRow_setCell_far ho1 (own_blk_ne ho1 hbw (by decide)) (p := ⟨w.heap.size + 1, p, none⟩) (.int .i64 s.reqs.length)
          have ho21 := ownsRow_setCell_far ho2 (own_blk_ne ho2 hbw (by decide)) (p := ⟨w.heap.size + 1, p, none⟩) (.int .i64 s.reqs.length)
          have hb1 := hb.setCell (p := ⟨w.heap.size + 1, p, none⟩) (by simp) (.int .i64 s.reqs.length)
          rw [← hw1] at hbw1 hbe1 ho11 ho21 hb1
          rw [← hw1]
          clear hw1 hbw hbe ho1 ho2 hb x1 x2 z1 z2 q0
          have hsz := hb1.size
          go_upto_region 16 with (at_builtin; go_loud (refine wpList_app1 slReq ho21 rfl (.tmp 53) (.tmp 65) rfl rfl rfl rfl (by simp [Value.oneCell']) (by omega) (by omega) (by omega) ?_; intro A3 c3 w2 ho3 hb3 hg3 hl3))
          have hbw2 := hbw1.grown hg3 (own_blk_ne ho21 hbw1 (by decide))
          have hbe2 := hbe1.grown hg3 (own_blk_ne ho21 hbe1 (by decide))
          have ho12 := ho11.kept hg3 (own_own_ne ho11 ho21 (by decide))
          have hb2 := hb1.trans hb3
          have x1 := hbe2.int (i := p) (by omega)
          have x2 := hbw2.int (i := p) (by simp; omega)
          rw [nth_set_same (by omega)] at x2
          have n1 := World.new_ne _ _ x1
          have n2 := World.new_ne _ _ x2
          have hsz2 := hb2.size
          clear ho11 ho21 hbw1 hbe1 hg3 hl3 hb3 hb1
          go_region_held3 (fun w' => w'.cell? ⟨w.heap.size, p, none⟩ = some (.int .i64 (nth s.ep p)) ∧ w'.cell? ⟨w.heap.size + 1, p, none⟩ = some (.int .i64 s.reqs.length))
            (first | go_keep | (refine ⟨?_, ?_⟩ <;> assumption))
            ((refine step_app1 slObs ho12 (by rfl) (.tmp 67) (.tmp 78) (by rfl) (by rfl) (by rfl) (by rfl) (by simp [Value.oneCell']) (by omega) (by omega) (by omega) ?_; intro A4 c4 w3 ho4 hb4 hg4 hl4; have x14 := (hbe2.grown hg4 (own_blk_ne ho12 hbe2 (by decide))).int (i := p) (by omega); have x24 := (hbw2.grown hg4 (own_blk_ne ho12 hbw2 (by decide))).int (i := p) (by simp; omega); rw [nth_set_same (by omega)] at x24))
          go_wp2
          go_roundw
          case rel =>
            refine ⟨k + 1, A4, c4, A3, c3, by omega, by omega, by go_num, by rw [Hs2.out]; simp, by rw [Hs2.out]; simp, ?_, ?_, ?_, ?_, hb2.trans hb4⟩
            · rw [Hs2.out, flat_append, flat_one]; simpa [ObsV.vals] using ho4
            · rw [Hs2.out, flat_append, flat_one]; simpa [ReqV.vals] using ho3.kept hg4 (own_own_ne ho3 ho12 (by decide))
            · rw [Hs2.out]; exact hbe2.grown hg4 (own_blk_ne ho12 hbe2 (by decide))
            · rw [Hs2.out]; exact hbw2.grown hg4 (own_blk_ne ho12 hbw2 (by decide))
          case measure => simp [intOf]; omega
        · have Hs2 := Lib.hid (Hs.out.trans (obNum_reply hc hwt))
          clear hc Hs ok
          go_upto_region 17 with (go_at_call 23; refine (around_any _ _ _ hI (by omega) (by omega)).mono ?_; rintro e w' ⟨rfl, rfl⟩)
          have n1 := World.new_ne _ _ x1
          have n2 := World.new_ne _ _ x2
          have ho12 := ho1
          go_region_held3 (fun w' => w'.cell? ⟨w.heap.size, p, none⟩ = some (.int .i64 (nth s.ep p)) ∧ w'.cell? ⟨w.heap.size + 1, p, none⟩ = some (.int .i64 (nth s.wt p)))
            (first | go_keep | (refine ⟨?_, ?_⟩ <;> assumption))
            ((refine step_app1 slObs ho12 (by rfl) (.tmp 80) (.tmp 94) (by rfl) (by rfl) (by rfl) (by rfl) (by simp [Value.oneCell']) (by omega) (by omega) (by omega) ?_; intro A4 c4 w3 ho4 hb4 hg4 hl4; have x14 := (hbe.grown hg4 (own_blk_ne ho12 hbe (by decide))).int (i := p) (by omega); have x24 := (hbw.grown hg4 (own_blk_ne ho12 hbw (by decide))).int (i := p) (by omega)))
          have hbw3 := hbw.grown hg4 (own_blk_ne ho12 hbw (by decide))
          have hbe3 := hbe.grown hg4 (own_blk_ne ho12 hbe (by decide))
          have z3 := hbw3.frozen p
          go_wp2
          go_roundw
          case rel =>
            refine ⟨k + 1, A4, c4, A2, c2, by omega, by omega, by go_num, by rw [Hs2.out]; simp, by rw [Hs2.out], ?_, ?_, ?_, ?_, (hb.trans hb4).setCell (by simp) _⟩
            · have e : (IntKind.i64.wrap (n.tdiv 18)).tmod 7 = n / 18 % 7 := by rw [Int.tdiv_eq_ediv_of_nonneg hn0, wrap_small _ (by omega) (by omega), Int.tmod_eq_emod_of_nonneg (by omega)]
              rw [e] at ho4
              rw [Hs2.out, flat_append, flat_one]; simpa [ObsV.vals] using ownsRow_setCell_far ho4 (own_blk_ne ho4 hbw3 (by decide)) (p := ⟨w.heap.size + 1, p, none⟩) (.int .i64 (-1))
            · rw [Hs2.out]; have ho5 := ho2.kept hg4 (own_own_ne ho2 ho12 (by decide)); exact ownsRow_setCell_far ho5 (own_blk_ne ho5 hbw3 (by decide)) (p := ⟨w.heap.size + 1, p, none⟩) _
            · rw [Hs2.out]; exact hbe3.far (by simp) _
            · rw [Hs2.out]; exact hbw3.setInt p _
          case measure => simp [intOf]; omega
    · by_cases hlt1 : k < l.length
      · have hk3 : ¬ k < 30 := fun h => hlt ⟨hlt1, h⟩
        go_wp2
        go_ret2
        have e : k = min l.length 30 := by omega
        subst e
        exact ⟨A1, c1, A2, c2, rfl, ho1, ho2, hb⟩
      · go_wp2
        go_ret2
        have e : k = min l.length 30 := by omega
        subst e
        exact ⟨A1, c1, A2, c2, rfl, ho1, ho2, hb⟩
end Go.Proofs.Ythijndjgchbeoaa
