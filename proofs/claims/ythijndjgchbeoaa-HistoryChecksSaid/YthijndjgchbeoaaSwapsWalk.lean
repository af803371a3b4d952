/-
  simproofref20.Swaps, walked.
-/
import Derived.Test.YthijndjgchbeoaaSwaps
namespace Go.Proofs.Ythijndjgchbeoaa
set_option linter.unusedVariables false
open Go.RowKit
attribute [local go_sem ↓] Go.wp_at_zero Go.wp_at_succ

set_option maxHeartbeats 2000000 in
set_option maxRecDepth 100000 in
theorem swaps_any (A : Option Addr) (c : Nat) (l : List Int) (most : Int) (w : World) (h1 : Sl intv w w.heap.size A l) (hl : ∀ x ∈ l, I64 x) (hlen : l.length ≤ 9223372036854775807) (hmost : I64 most) :
    Calls Try.prog 40 #[.slice A l.length c, .int .i64 most] w fun e w' => ∃ A1 c1, e = .returned (.slice A1 (swaps l most).length c1) ∧
      w'.ownsRow w.heap.size 33 8 (.slice A1 (swaps l most).length c1) (swaps l most).length (flat OpV.vals (swaps l most)) ∧ Below w.heap.size w w' := by
  have hmk4 : ∀ w, (Instr.makeSlice 22 (.int .i64 4) (.int .i64 4)).run Try.prog w = .ok (.slice (some ⟨w.heap.size, 0, none⟩) 4 4) (w.alloc (.cells #[.int .i64 0, .int .i64 0, .int .i64 0, .int .i64 0] 3)) := fun _ => by kernel_rfl
  have hmk3 : ∀ w, (Instr.makeSlice 22 (.int .i64 3) (.int .i64 3)).run Try.prog w = .ok (.slice (some ⟨w.heap.size, 0, none⟩) 3 3) (w.alloc (.cells #[.int .i64 0, .int .i64 0, .int .i64 0] 3)) := fun _ => by kernel_rfl
  obtain ⟨ev, hev⟩ : ∃ ev, events l most = ev := ⟨_, rfl⟩
  obtain ⟨fr, hfr⟩ : ∃ fr, freshOf l = fr := ⟨_, rfl⟩
  have hreg : swaps l most = (swTo ev fr ev.length).out := by rw [swaps, hev, hfr]
  rw [hreg]
  have hgood := events_good l most
  have hevl := events_len l most
  rw [hev] at hgood hevl
  have hpk := pick0_in l (most := 100) (by omega)
  obtain ⟨pk, hpk2⟩ : ∃ pk, pick0 l 100 = pk := ⟨_, rfl⟩
  rw [hpk2] at hpk
  obtain ⟨hpk0, hpk1⟩ := hpk
  have hfrv : (pk % 2 == 1) = fr := by rw [← hfr, freshOf, hpk2]; rw [Bool.eq_iff_iff]; simp
  have Hgood := Lib.hid hgood
  clear hgood hfr hreg
  go_enter Try.func40, Try.ntmps40
  go_upto_region 4 with (go_at_call 51; refine (events_any _ _ _ _ _ h1 hl hlen hmost).mono ?_; rintro e wa ⟨Ae, ce, rfl, hoe, hba⟩; rw [hev] at hoe ⊢)
  have hse := Sl.of_own hoe rfl
  have h1a := h1.below hba
  have hsza := hba.size
  go_wp2_with (go_at_call 52; refine (pick0_any _ _ _ _ _ (((h1a.more hsza).keep fun p hp => by rw [World.cell?_alloc_lt _ _ _ (by simp; omega), World.cell?_alloc_lt _ _ _ hp]).more (by simp; omega)) hl hlen (by omega) (by omega)).mono ?_; rintro e w' ⟨rfl, rfl⟩; rw [hpk2])
  have Hh1 := Lib.hid h1
  clear h1 h1a hl
  go_loopw [6, 7, 11] (fun v6 v7 i wr => ∃ (k : Nat) (A1 : Option Addr) (c1 : Nat) (A2 : Option Addr) (c2 : Nat), k ≤ ev.length ∧ i = .int .i64 k ∧ v6 = .slice A1 (swTo ev fr k).out.length c1 ∧ v7 = .slice A2 (swTo ev fr k).ws.length c2 ∧
      GW wa wr (swTo ev fr k).out (swTo ev fr k).ws (swTo ev fr k).opn (swTo ev fr k).lat A1 c1 A2 c2) (fun _ _ i _ => ev.length - (intOf i).toNat)
  case atStart =>
    refine ⟨0, none, 0, none, 0, by omega, rfl, rfl, rfl, World.ownsRow_nil _ _ _ _, World.ownsRow_nil _ _ _ _, (Blk.new wa 3 [.int .i64 0, .int .i64 0, .int .i64 0, .int .i64 0]).alloc _, ?_, ((Below.refl _ _).alloc (Nat.le_refl _) _).alloc (by simp) _, by simp⟩
    have := Blk.new (wa.alloc (.cells #[.int .i64 0, .int .i64 0, .int .i64 0, .int .i64 0] 3)) 3 [.int .i64 0, .int .i64 0, .int .i64 0]
    simp only [World.size_alloc] at this
    exact this
  case round =>
    obtain ⟨k, A1, c1, A2, c2, hk, rfl, rfl, rfl, gw⟩ := hrel
    have hsz := gw.sz
    by_cases hlt : k < ev.length
    · have inv := swTo_inv fr Hgood.out hevl k (by omega)
      have Hs := Lib.hid (show swTo ev fr (k + 1) = swStep ev fr k (swTo ev fr k) from rfl)
      obtain ⟨s, hs⟩ : ∃ s, s = swTo ev fr k := ⟨_, rfl⟩
      rw [← hs] at gw inv Hs ⊢
      clear hs
      obtain ⟨be, oe, rfl, hbe, q0, q1, q2⟩ := (hse.below gw.bel).ev hlt
      obtain ⟨⟨g1, g2⟩, ⟨g3, g4⟩, _⟩ := Hgood.out k hlt
      obtain ⟨p, hp⟩ : ∃ p : Nat, (nth ev k).p = p := ⟨(nth ev k).p.toNat, by omega⟩
      obtain ⟨n, hn⟩ : ∃ n, (nth ev k).n = n := ⟨_, rfl⟩
      rw [hp] at q0 g1 g2
      rw [hn] at q2 g3 g4
      have hp0 : (0 : Int) ≤ (p : Int) := by omega
      have hp4 : (p : Int) < 4 := by omega
      have hpn : (nth ev k).p.toNat = p := by omega
      have ok := inv.ok
      have hlop : p < s.opn.length := by have := ok.lop; omega
      have hlat := inv.lat
      have hwsl := inv.ws
      have hol : s.out.length ≤ 100 := by
        rcases Nat.eq_zero_or_pos s.out.length with h0 | h0
        · omega
        · obtain ⟨c', _, c'2, _⟩ := ok.call (s.out.length - 1) (by omega)
          have key : ∀ j, j < s.out.length → ∃ c : Nat, (nth s.out j).call = c ∧ c < k ∧ j ≤ c := by
            intro j
            induction j with
            | zero => intro hj; obtain ⟨c, a, b, _⟩ := ok.call 0 hj; exact ⟨c, a, b, Nat.zero_le _⟩
            | succ j ih =>
              intro hj
              obtain ⟨c, a, b, d⟩ := ih (by omega)
              obtain ⟨c2, a2, b2, _⟩ := ok.call (j + 1) hj
              have := ok.mono j (j + 1) (by omega) hj
              exact ⟨c2, a2, b2, by omega⟩
          obtain ⟨c, _, b, d⟩ := key (s.out.length - 1) (by omega)
          omega
      cases hi : (nth ev k).inv with
      | true =>
        rw [hi] at q1
        obtain ⟨key, hkey⟩ : ∃ key : Nat, 1 + n / 2 % 2 = (key : Int) := ⟨(1 + n / 2 % 2).toNat, by omega⟩
        have hkey0 : (0 : Int) ≤ (key : Int) := by omega
        have hkey3 : (key : Int) < 3 := by omega
        have hstep : swTo ev fr (k + 1) = swCall ev k (nth ev k) s := by rw [Hs.out, swStep, hi]; rfl
        unfold swCall at hstep
        rw [hn, hp, hkey] at hstep
        simp only [Int.toNat_natCast] at hstep
        obtain ⟨o', ws', lat', hst, hcase⟩ : ∃ o' ws' lat', swTo ev fr (k + 1) = ⟨s.out ++ [o'], ws', s.opn.set p s.out.length, lat'⟩ ∧
            ((0 < n % 3 ∧ o' = ⟨p, 2, key, (s.ws.length : Int) + 1, 0, k, ev.length, false⟩ ∧ ws' = s.ws ++ [(key : Int)] ∧ lat' = s.lat) ∨ (n % 3 = 0 ∧ o' = ⟨p, 0, key, 0, 0, k, ev.length, false⟩ ∧ ws' = s.ws ∧ lat' = s.lat)) := by
          by_cases h2 : 0 < n % 3
          · rw [if_pos h2] at hstep
            exact ⟨_, _, _, hstep, .inl ⟨h2, rfl, rfl, rfl⟩⟩
          · have h3 : n % 3 = 0 := by omega
            rw [if_neg h2] at hstep
            exact ⟨_, _, _, hstep, .inr ⟨h3, rfl, rfl, rfl⟩⟩
        have Hst := Lib.hid hst
        clear hst hstep Hs ok inv
        have hE := hsz
        go_upto_if 51 with fail
        have gwx := gw.below (w' := (wr.alloc (.cells #[.int .i64 p, .bool true, .int .i64 n] 95)).alloc (.cells #[.int .i64 p, .int .i64 0, .int .i64 key, .int .i64 0, .int .i64 0, .int .i64 k, .int .i64 ev.length, .bool false] 33)) (((Below.refl _ _).alloc (Nat.le_refl _) _).alloc (by simp) _)
        have gws : ∀ v, GW wa ((((wr.alloc (.cells #[.int .i64 p, .bool true, .int .i64 n] 95)).alloc (.cells #[.int .i64 p, .int .i64 0, .int .i64 key, .int .i64 0, .int .i64 0, .int .i64 k, .int .i64 ev.length, .bool false] 33)).setCell ⟨wr.heap.size + 1, 1, none⟩ (.int .i64 2)).setCell ⟨wr.heap.size + 1, 3, none⟩ v) s.out s.ws s.opn s.lat A1 c1 A2 c2 := fun v => gw.below (((((Below.refl _ _).alloc (Nat.le_refl _) _).alloc (by simp) _).setCell (by simp) _).setCell (by simp) _)
        have be1 : Blk ((wr.alloc (.cells #[.int .i64 p, .bool true, .int .i64 n] 95)).alloc (.cells #[.int .i64 p, .int .i64 0, .int .i64 key, .int .i64 0, .int .i64 0, .int .i64 k, .int .i64 ev.length, .bool false] 33)) wr.heap.size 95 (EvV.vals ⟨p, true, n⟩) := (Blk.new wr 95 (EvV.vals ⟨p, true, n⟩)).alloc _
        have bo1 : Blk ((wr.alloc (.cells #[.int .i64 p, .bool true, .int .i64 n] 95)).alloc (.cells #[.int .i64 p, .int .i64 0, .int .i64 key, .int .i64 0, .int .i64 0, .int .i64 k, .int .i64 ev.length, .bool false] 33)) (wr.heap.size + 1) 33 (OpV.vals ⟨p, 0, key, 0, 0, k, ev.length, false⟩) := by
          have := Blk.new (wr.alloc (.cells #[.int .i64 p, .bool true, .int .i64 n] 95)) 33 (OpV.vals ⟨p, 0, key, 0, 0, k, ev.length, false⟩)
          simp only [World.size_alloc] at this
          exact this
        have sz1 : wr.heap.size + 2 ≤ ((wr.alloc (.cells #[.int .i64 p, .bool true, .int .i64 n] 95)).alloc (.cells #[.int .i64 p, .int .i64 0, .int .i64 key, .int .i64 0, .int .i64 0, .int .i64 k, .int .i64 ev.length, .bool false] 33)).heap.size := by simp
        obtain ⟨w1, hw1⟩ : ∃ w1, w1 = (wr.alloc (.cells #[.int .i64 p, .bool true, .int .i64 n] 95)).alloc (.cells #[.int .i64 p, .int .i64 0, .int .i64 key, .int .i64 0, .int .i64 0, .int .i64 k, .int .i64 ev.length, .bool false] 33) := ⟨_, rfl⟩
        rw [← hw1] at gwx gws be1 bo1 sz1
        rw [← hw1]
        clear hw1 gw q0 q1 q2
        obtain ⟨E, hE2⟩ : ∃ E, E = wr.heap.size := ⟨_, rfl⟩
        rw [← hE2] at gws be1 bo1 sz1 hsz hE ⊢
        clear hE2
        obtain ⟨x0, x1, x2, x3, x4, x5, x6, x7⟩ := bo1.op
        go_cut [7] (fun v7 wx => ∃ A3 c3, v7 = .slice A3 ws'.length c3 ∧ GW wa wx s.out ws' s.opn lat' A1 c1 A3 c3 ∧ Blk wx E 95 (EvV.vals ⟨p, true, n⟩) ∧ Blk wx (E + 1) 33 o'.vals ∧ E + 2 ≤ wx.heap.size)
        case first =>
          rcases hcase with ⟨h2, rfl, rfl, rfl⟩ | ⟨h2, rfl, rfl, rfl⟩
          · have f1 := bo1.frozen 1
            have f3 := bo1.frozen 3
            have bo3 := (bo1.set_ 1 (.int .i64 2)).set_ 3 (.int .i64 ((s.ws.length : Int) + 1))
            have be3 := (be1.far (p := ⟨E + 1, 1, none⟩) (by simp) (.int .i64 2)).far (p := ⟨E + 1, 3, none⟩) (by simp) (.int .i64 ((s.ws.length : Int) + 1))
            have gw3 := gws (.int .i64 ((s.ws.length : Int) + 1))
            have hsz3 : ((w1.setCell ⟨E + 1, 1, none⟩ (.int .i64 2)).setCell ⟨E + 1, 3, none⟩ (.int .i64 ((s.ws.length : Int) + 1))).heap.size = w1.heap.size := by simp
            have y0 : w1.cell? ⟨E, 2, none⟩ = some (.int .i64 n) := be1.cell 2
            have y2 : ((w1.setCell ⟨E + 1, 1, none⟩ (.int .i64 2)).setCell ⟨E + 1, 3, none⟩ (.int .i64 ((s.ws.length : Int) + 1))).cell? ⟨E + 1, 2, none⟩ = some (.int .i64 key) := bo3.cell 2
            clear gws gwx
            go_wp2_with (at_builtin; go_loud (refine wpList_app1 slInt gw3.ws rfl (.tmp 57) (.tmp 60) rfl rfl (by rw [hsz3]; rfl) rfl (by simp [Value.oneCell']) (by omega) (by omega) (by omega) ?_; intro A5 c5 w5 ho5 hb5 hg5 hl5; have gw5 := gw3.appWs ho5 hb5 hg5; have bo5 := bo3.grown hg5 (own_blk_ne gw3.ws bo3 (by decide)); have be5 := be3.grown hg5 (own_blk_ne gw3.ws be3 (by decide)); have hsz5 := hb5.size))
            go_meet
            case rel => exact ⟨A5, c5, by simp, gw5, be5, bo5, by simp at hsz5; omega⟩
          · have h2' : ¬ (0 : Int) < n % 3 := by omega
            go_wp2_with fail
            go_meet
            case rel => exact ⟨A2, c2, rfl, gwx, be1, bo1, by omega⟩
        case rest =>
          obtain ⟨A3, c3, rfl, gx, be2, bo2, sz2⟩ := hcut
          clear hcase gwx be1 bo1 x0 x1 x2 x3 x4 x5 x6 x7
          obtain ⟨x0, x1, x2, x3, x4, x5, x6, x7⟩ := bo2.op
          have y0 : wc.cell? ⟨E, 0, none⟩ = some (.int .i64 p) := be2.cell 0
          have fo := gx.opn.frozen p
          have xo := gx.opn.int (i := p) hlop
          have g2 := gx.setOpn p s.out.length
          have bo3 := bo2.far (p := ⟨wa.heap.size, p, none⟩) (by simp; omega) (.int .i64 s.out.length)
          obtain ⟨z0, z1, z2, z3, z4, z5, z6, z7⟩ := bo3.op
          have hsz2 : (wc.setCell ⟨wa.heap.size, p, none⟩ (.int .i64 s.out.length)).heap.size = wc.heap.size := by simp
          have hszc := gx.sz
          go_wp2_with (at_builtin; go_loud (refine wpList_app1 slOp g2.out rfl (.tmp 68) (.tmp 70) rfl rfl (by rw [hsz2]; rfl) (cs := o'.vals) rfl o'.one (by omega) (by omega) (by omega) ?_; intro A4 c4 w4 ho4 hb4 hg4 hl4))
          go_roundw
          case rel => exact ⟨k + 1, A4, c4, A3, c3, by omega, by go_num, by rw [Hst.out]; simp, by rw [Hst.out], by rw [Hst.out]; exact g2.appOut ho4 hb4 hg4⟩
          case measure => simp [intOf]; omega
      | false =>
        rw [hi] at q1
        have hpe : (nth ev k).p = (p : Int) := hp
        obtain ⟨j, j1, j2, j3, j4⟩ := ok.at_ Hgood.out hlt hi hpe
        have hj0 : (0 : Int) ≤ (j : Int) := by omega
        have hjl : (j : Int) < (s.out.length : Int) := by omega
        obtain ⟨oj, hoj⟩ : ∃ oj, nth s.out j = oj := ⟨_, rfl⟩
        have hsm := inv.sm _ (nth_mem j2)
        rw [hoj] at hsm
        obtain ⟨key, hkey⟩ : ∃ key : Nat, oj.key = (key : Int) := ⟨oj.key.toNat, by have := hsm.2.1; omega⟩
        have hkey3 : (key : Int) < 3 := by have := hsm.2.1; omega
        have hkey0 : (0 : Int) ≤ (key : Int) := by omega
        obtain ⟨o', ho'⟩ : ∃ o' : OpV, o' = { oj with done := true, ret := (k : Int), res := chosenV s.ws oj.key n (nth s.lat key) fr } := ⟨_, rfl⟩
        have hst : swTo ev fr (k + 1) = ⟨s.out.set j o', s.ws, s.opn, if oj.k = 2 then s.lat.set key oj.arg else s.lat⟩ := by
          have hjn : (nth s.opn p).toNat = j := by omega
          have hkn : oj.key.toNat = key := by omega
          rw [Hs.out, swStep, hi]
          simp only [Bool.false_eq_true, if_false]
          unfold swRet
          rw [hpn, hjn, hn, hoj, hkn, ho']
        have Hst := Lib.hid hst
        clear hst Hs
        obtain ⟨g, rfl, hg2, hgw⟩ := own_addr gw.out (by omega)
        obtain ⟨⟨e0, e1, e2, e3, e4, e5, e6, e7⟩, _⟩ := gw.cells j2
        rw [hoj] at e0 e1 e2 e3 e4 e5 e6 e7
        have xo := gw.opn.int (i := p) hlop
        rw [j1] at xo
        have xl := gw.lat.int (i := key) (by omega)
        have hws := Sl.of_own gw.ws rfl
        have Hsm := Lib.hid hsm
        have Hoj := Lib.hid hoj
        have Hj := Lib.hid (And.intro j1 (And.intro j3 j4))
        have Hkey := Lib.hid hkey
        have hlatl : key < s.lat.length := by omega
        clear ok inv hsm hoj j1 j3 j4 hkey hpe
        have hlt1 : wa.heap.size < wr.heap.size := by omega
        have hlt2 : wa.heap.size + 1 < wr.heap.size := by omega
        go_upto_region 21 with fail
        have be1 : Blk ((wr.alloc (.cells #[.int .i64 p, .bool false, .int .i64 n] 95)).alloc (.cells #[.int .i64 oj.p, .int .i64 oj.k, .int .i64 oj.key, .int .i64 oj.arg, .int .i64 oj.res, .int .i64 oj.call, .int .i64 oj.ret, .bool oj.done] 33)) wr.heap.size 95 (EvV.vals ⟨p, false, n⟩) := (Blk.new wr 95 (EvV.vals ⟨p, false, n⟩)).alloc _
        have bo1 : Blk ((wr.alloc (.cells #[.int .i64 p, .bool false, .int .i64 n] 95)).alloc (.cells #[.int .i64 oj.p, .int .i64 oj.k, .int .i64 oj.key, .int .i64 oj.arg, .int .i64 oj.res, .int .i64 oj.call, .int .i64 oj.ret, .bool oj.done] 33)) (wr.heap.size + 1) 33 oj.vals := by
          have := Blk.new (wr.alloc (.cells #[.int .i64 p, .bool false, .int .i64 n] 95)) 33 oj.vals
          simp only [World.size_alloc] at this
          exact this
        have B1 : Below wr.heap.size wr ((wr.alloc (.cells #[.int .i64 p, .bool false, .int .i64 n] 95)).alloc (.cells #[.int .i64 oj.p, .int .i64 oj.k, .int .i64 oj.key, .int .i64 oj.arg, .int .i64 oj.res, .int .i64 oj.call, .int .i64 oj.ret, .bool oj.done] 33)) := ((Below.refl _ _).alloc (Nat.le_refl _) _).alloc (by simp) _
        have sz1 : wr.heap.size + 2 ≤ ((wr.alloc (.cells #[.int .i64 p, .bool false, .int .i64 n] 95)).alloc (.cells #[.int .i64 oj.p, .int .i64 oj.k, .int .i64 oj.key, .int .i64 oj.arg, .int .i64 oj.res, .int .i64 oj.call, .int .i64 oj.ret, .bool oj.done] 33)).heap.size := by simp
        obtain ⟨w1, hw1⟩ : ∃ w1, w1 = (wr.alloc (.cells #[.int .i64 p, .bool false, .int .i64 n] 95)).alloc (.cells #[.int .i64 oj.p, .int .i64 oj.k, .int .i64 oj.key, .int .i64 oj.arg, .int .i64 oj.res, .int .i64 oj.call, .int .i64 oj.ret, .bool oj.done] 33) := ⟨_, rfl⟩
        rw [← hw1] at be1 bo1 B1 sz1
        rw [← hw1]
        clear hw1 q0 q1 q2 e0 e1 e2 e3 e4 e5 e6 e7 xo
        have f7 := bo1.frozen 7
        have f6 := bo1.frozen 6
        obtain ⟨x0, x1, x2, x3, x4, x5, x6, x7⟩ := bo1.op
        go_upto_region 23 with fail
        have bo2 := (bo1.set_ 7 (.bool true)).set_ 6 (.int .i64 k)
        have be2 := (be1.far (p := ⟨wr.heap.size + 1, 7, none⟩) (by simp) (.bool true)).far (p := ⟨wr.heap.size + 1, 6, none⟩) (by simp) (.int .i64 k)
        have B2 := (B1.setCell (p := ⟨wr.heap.size + 1, 7, none⟩) (by simp) (.bool true)).setCell (p := ⟨wr.heap.size + 1, 6, none⟩) (by simp) (.int .i64 k)
        have sz2 : wr.heap.size + 2 ≤ ((w1.setCell ⟨wr.heap.size + 1, 7, none⟩ (.bool true)).setCell ⟨wr.heap.size + 1, 6, none⟩ (.int .i64 k)).heap.size := by simpa using sz1
        obtain ⟨w2, hw2⟩ : ∃ w2, w2 = (w1.setCell ⟨wr.heap.size + 1, 7, none⟩ (.bool true)).setCell ⟨wr.heap.size + 1, 6, none⟩ (.int .i64 k) := ⟨_, rfl⟩
        rw [← hw2] at be2 bo2 B2 sz2
        rw [← hw2]
        clear hw2 x0 x1 x2 x3 x4 x5 x6 x7 f7 f6 be1 bo1 B1 sz1
        have bo2' : Blk w2 (wr.heap.size + 1) 33 (OpV.vals { oj with done := true, ret := (k : Int) }) := bo2
        clear bo2
        go_cut [15] (fun v15 wx => v15 = .pointer (some ⟨wr.heap.size + 1, 0, none⟩) ∧ Below wr.heap.size wr wx ∧ Blk wx (wr.heap.size + 1) 33 o'.vals)
        case first =>
          have Ho' := Lib.hid ho'
          clear ho'
          have gw2 := gw.below B2
          have c2' : w2.cell? ⟨wr.heap.size + 1, 2, none⟩ = some (.int .i64 oj.key) := bo2'.cell 2
          rw [Hkey.out] at c2'
          have cn : w2.cell? ⟨wr.heap.size, 2, none⟩ = some (.int .i64 n) := be2.cell 2
          have cl := gw2.lat.int (i := key) hlatl
          have hws2 := Sl.of_own gw2.ws rfl
          have hwl : s.ws.length ≤ 1000000 := by omega
          go_region_held3 (fun w' => w'.cell? ⟨wr.heap.size + 1, 2, none⟩ = some (.int .i64 key) ∧ w'.cell? ⟨wr.heap.size, 2, none⟩ = some (.int .i64 n) ∧ w'.cell? ⟨wa.heap.size + 1, key, none⟩ = some (.int .i64 (nth s.lat key)))
            (first | (refine ⟨?_, ?_, ?_⟩ <;> assumption) | (go_keep; done) | (refine ⟨(World.cell?_setCell_other _ _ _ _ (by simp)).trans ?_, (World.cell?_setCell_other _ _ _ _ (by simp)).trans ?_, (World.cell?_setCell_other _ _ _ _ (by simp)).trans ?_⟩ <;> assumption))
            ((go_at_call 53; refine (chosen_any _ _ _ _ _ _ _ _ (by exact hws2) hwl g3 (by omega)).mono ?_; rintro e w3 ⟨rfl, hb3⟩; have d1 := (hb3.cell (p := ⟨wr.heap.size + 1, 2, none⟩) (by show wr.heap.size + 1 < w2.heap.size; omega)).trans c2'; have d2 := (hb3.cell (p := ⟨wr.heap.size, 2, none⟩) (by show wr.heap.size < w2.heap.size; omega)).trans cn; have d3 := (hb3.cell (p := ⟨wa.heap.size + 1, key, none⟩) (by show wa.heap.size + 1 < w2.heap.size; omega)).trans cl; have bo3 := bo2'.drew.below hb3 (by show wr.heap.size + 1 < w2.heap.size; omega); have f4 := bo3.frozen 4; have k4 := bo3.cell 4))
          go_wp2_with fail
          go_meet
          case rel =>
            refine ⟨rfl, ((bdrew B2).trans (hb3.mono (by show wr.heap.size ≤ w2.heap.size; omega))).setCell (by simp) _, ?_⟩
            have hfin := bo3.set_ 4 (.int .i64 (chosenV s.ws oj.key n (nth s.lat key) fr))
            rw [Ho'.out]
            rw [Hkey.out] at hfin ⊢
            exact hfin
        case rest =>
          obtain ⟨rfl, B3, bo3⟩ := hcut
          have gx := gw.below B3
          have hok : o'.k = oj.k := by rw [ho']
          have hoa : o'.arg = oj.arg := by rw [ho']
          have hoy : o'.key = key := by rw [ho']; exact Hkey.out
          clear ho'
          by_cases h2 : oj.k = 2
          · have h2' : (o'.k == 2) = true := by rw [hok]; simpa using h2
            have hst2 : swTo ev fr (k + 1) = ⟨s.out.set j o', s.ws, s.opn, s.lat.set key oj.arg⟩ := by rw [Hst.out, if_pos h2]
            rw [← hoa] at hst2
            have Hst2 := Lib.hid hst2
            clear hst2 h2 hok hoa
            have gl := gx.setLat key o'.arg
            have fl := gx.lat.frozen key
            have xl2 := gx.lat.int (i := key) hlatl
            have bo4 := bo3.far (p := ⟨wa.heap.size + 1, key, none⟩) (by simp; omega) (.int .i64 o'.arg)
            obtain ⟨⟨e0, e1, e2, e3, e4, e5, e6, e7⟩, f0, f1, f2, f3, f4, f5, f6, f7⟩ := gl.cells j2
            obtain ⟨x0, x1, x2, x3, x4, x5, x6, x7⟩ := bo3.op
            obtain ⟨z0, z1, z2, z3, z4, z5, z6, z7⟩ := bo4.op
            rw [hoy] at x2
            go_wp2_with fail
            go_roundw
            case rel => exact ⟨k + 1, some ⟨g, 0, none⟩, c1, A2, c2, by omega, by go_num, by rw [Hst2.out]; simp, by rw [Hst2.out], by rw [Hst2.out]; have hput := gl.putOp hg2 j2 o'; rw [hoy] at hput; exact hput⟩
            case measure => simp [intOf]; omega
          · have h2' : (o'.k == 2) = false := by rw [hok]; simpa using h2
            have hst2 : swTo ev fr (k + 1) = ⟨s.out.set j o', s.ws, s.opn, s.lat⟩ := by rw [Hst.out, if_neg h2]
            have Hst2 := Lib.hid hst2
            clear hst2 h2 hok hoa hoy
            obtain ⟨⟨e0, e1, e2, e3, e4, e5, e6, e7⟩, f0, f1, f2, f3, f4, f5, f6, f7⟩ := gx.cells j2
            obtain ⟨x0, x1, x2, x3, x4, x5, x6, x7⟩ := bo3.op
            go_wp2_with fail
            go_roundw
            case rel => exact ⟨k + 1, some ⟨g, 0, none⟩, c1, A2, c2, by omega, by go_num, by rw [Hst2.out]; simp, by rw [Hst2.out], by rw [Hst2.out]; exact gx.putOp hg2 j2 o'⟩
            case measure => simp [intOf]; omega
    · obtain rfl : k = ev.length := by omega
      go_wp2_with fail
      go_ret
      have hszw := hba.size
      exact ⟨A1, c1, rfl, own_mono gw.out (by omega), hba.trans (gw.bel.mono hszw)⟩
end Go.Proofs.Ythijndjgchbeoaa
