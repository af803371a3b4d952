/-
  simproofref20.Queues, walked.
-/
import Derived.Test.YthijndjgchbeoaaQueues
namespace Go.Proofs.Ythijndjgchbeoaa
set_option linter.unusedVariables false
open Go.RowKit
attribute [local go_sem ↓] Go.wp_at_zero Go.wp_at_succ

set_option maxHeartbeats 2000000 in
set_option maxRecDepth 100000 in
theorem queues_any (A : Option Addr) (c : Nat) (l : List Int) (most : Int) (w : World) (h1 : Sl intv w w.heap.size A l) (hl : ∀ x ∈ l, I64 x) (hlen : l.length ≤ 9223372036854775807) (hmost : I64 most) :
    Calls Try.prog 41 #[.slice A l.length c, .int .i64 most] w fun e w' => ∃ A1 c1, e = .returned (.slice A1 (queues l most).length c1) ∧
      w'.ownsRow w.heap.size 33 8 (.slice A1 (queues l most).length c1) (queues l most).length (flat OpV.vals (queues l most)) ∧ Below w.heap.size w w' := by
  have hmk4 : ∀ w, (Instr.makeSlice 22 (.int .i64 4) (.int .i64 4)).run Try.prog w = .ok (.slice (some ⟨w.heap.size, 0, none⟩) 4 4) (w.alloc (.cells #[.int .i64 0, .int .i64 0, .int .i64 0, .int .i64 0] 3)) := fun _ => by kernel_rfl
  obtain ⟨ev, hev⟩ : ∃ ev, events l most = ev := ⟨_, rfl⟩
  have hreg : queues l most = (quTo ev ev.length).out := by rw [queues, hev]
  rw [hreg]
  have hgood := events_good l most
  have hevl := events_len l most
  rw [hev] at hgood hevl
  have Hgood := Lib.hid hgood
  clear hgood hreg
  go_enter Try.func41, Try.ntmps41
  go_upto_region 4 with (go_at_call 51; refine (events_any _ _ _ _ _ h1 hl hlen hmost).mono ?_; rintro e wa ⟨Ae, ce, rfl, hoe, hba⟩; rw [hev] at hoe ⊢)
  have hse := Sl.of_own hoe rfl
  have hsza := hba.size
  go_wp2_with fail
  have Hh1 := Lib.hid h1
  clear h1 hl
  go_loopw [6, 7, 8, 10] (fun v6 v7 v8 i wr => ∃ (k : Nat) (A1 : Option Addr) (c1 : Nat) (A2 : Option Addr) (c2 : Nat) (A9 : Option Addr) (c9 : Nat), k ≤ ev.length ∧ i = .int .i64 k ∧ v6 = .slice A1 (quTo ev k).out.length c1 ∧ v7 = .slice A2 (quTo ev k).ws.length c2 ∧ v8 = .slice A9 (quTo ev k).lat.length c9 ∧
      GQ wa wr (quTo ev k).out (quTo ev k).ws (quTo ev k).opn (quTo ev k).lat A1 c1 A2 c2 A9 c9) (fun _ _ _ i _ => ev.length - (intOf i).toNat)
  case atStart =>
    exact ⟨0, none, 0, none, 0, none, 0, by omega, rfl, rfl, rfl, rfl, World.ownsRow_nil _ _ _ _, World.ownsRow_nil _ _ _ _, World.ownsRow_nil _ _ _ _, .inl rfl, Blk.new wa 3 [.int .i64 0, .int .i64 0, .int .i64 0, .int .i64 0], (Below.refl _ _).alloc (Nat.le_refl _) _, by simp⟩
  case round =>
    obtain ⟨k, A1, c1, A2, c2, A9, c9, hk, rfl, rfl, rfl, rfl, gw⟩ := hrel
    have hsz := gw.sz
    by_cases hlt : k < ev.length
    · have inv := quTo_inv Hgood.out hevl k (by omega)
      have Hs := Lib.hid (show quTo ev (k + 1) = quStep ev k (quTo ev k) from rfl)
      obtain ⟨s, hs⟩ : ∃ s, s = quTo ev k := ⟨_, rfl⟩
      rw [← hs] at gw inv Hs ⊢
      clear hs
      obtain ⟨be, oe, rfl, hbe, q0, q1, q2⟩ := (hse.below gw.bel).ev hlt
      obtain ⟨⟨g1, g2⟩, ⟨g3, g4⟩, _⟩ := Hgood.out k hlt
      obtain ⟨p, hp⟩ : ∃ p : Nat, (nth ev k).p = p := ⟨(nth ev k).p.toNat, by omega⟩
      obtain ⟨n, hn⟩ : ∃ n, (nth ev k).n = n := ⟨_, rfl⟩
      rw [hp] at q0 g1 g2
      rw [hn] at q2 g3 g4
      have hp0 : (0 : Int) ≤ (p : Int) := by omega
      have hp4 : (p : Int) < 4 := by omega
      have hpn : (nth ev k).p.toNat = p := by omega
      have ok := inv.ok
      have hlop : p < s.opn.length := by have := ok.lop; omega
      have htkl := inv.lat
      have hwsl := inv.ws
      have hol : s.out.length ≤ 100 := by
        rcases Nat.eq_zero_or_pos s.out.length with h0 | h0
        · omega
        · obtain ⟨c', _, c'2, _⟩ := ok.call (s.out.length - 1) (by omega)
          have key : ∀ j, j < s.out.length → ∃ c : Nat, (nth s.out j).call = c ∧ c < k ∧ j ≤ c := by
            intro j
            induction j with
            | zero => intro hj; obtain ⟨c, a, b, _⟩ := ok.call 0 hj; exact ⟨c, a, b, Nat.zero_le _⟩
            | succ j ih =>
              intro hj
              obtain ⟨c, a, b, d⟩ := ih (by omega)
              obtain ⟨c2, a2, b2, _⟩ := ok.call (j + 1) hj
              have := ok.mono j (j + 1) (by omega) hj
              exact ⟨c2, a2, b2, by omega⟩
          obtain ⟨c, _, b, d⟩ := key (s.out.length - 1) (by omega)
          omega
      cases hi : (nth ev k).inv with
      | true =>
        rw [hi] at q1
        obtain ⟨key, hkey⟩ : ∃ key : Nat, 1 + n / 2 % 2 = (key : Int) := ⟨(1 + n / 2 % 2).toNat, by omega⟩
        have hkey0 : (0 : Int) ≤ (key : Int) := by omega
        have hkey3 : (key : Int) < 3 := by omega
        have hstep : quTo ev (k + 1) = quCall ev k (nth ev k) s := by rw [Hs.out, quStep, hi]; rfl
        unfold quCall at hstep
        rw [hn, hp, hkey] at hstep
        simp only [Int.toNat_natCast] at hstep
        obtain ⟨o', ws', lat', hst, hcase⟩ : ∃ o' ws' lat', quTo ev (k + 1) = ⟨s.out ++ [o'], ws', s.opn.set p s.out.length, lat'⟩ ∧
            ((n % 2 = 0 ∧ o' = ⟨p, 3 + n % 2, key, (s.ws.length : Int) + 1, 0, k, ev.length, false⟩ ∧ ws' = s.ws ++ [(key : Int)] ∧ lat' = s.lat) ∨ (n % 2 = 1 ∧ o' = ⟨p, 3 + n % 2, key, 0, 0, k, ev.length, false⟩ ∧ ws' = s.ws ∧ lat' = s.lat)) := by
          by_cases h2 : n % 2 = 0
          · rw [if_pos h2] at hstep
            exact ⟨_, _, _, hstep, .inl ⟨h2, by rw [h2]; rfl, rfl, rfl⟩⟩
          · have h3 : n % 2 = 1 := by omega
            rw [if_neg h2] at hstep
            exact ⟨_, _, _, hstep, .inr ⟨h3, by rw [h3]; rfl, rfl, rfl⟩⟩
        have Hst := Lib.hid hst
        clear hst hstep Hs ok inv
        have hE := hsz
        go_upto_if 48 with fail
        have gwx := gw.below (w' := (wr.alloc (.cells #[.int .i64 p, .bool true, .int .i64 n] 95)).alloc (.cells #[.int .i64 p, .int .i64 (3 + n % 2), .int .i64 key, .int .i64 0, .int .i64 0, .int .i64 k, .int .i64 ev.length, .bool false] 33)) (((Below.refl _ _).alloc (Nat.le_refl _) _).alloc (by simp) _)
        have gws : ∀ v, GQ wa (((wr.alloc (.cells #[.int .i64 p, .bool true, .int .i64 n] 95)).alloc (.cells #[.int .i64 p, .int .i64 (3 + n % 2), .int .i64 key, .int .i64 0, .int .i64 0, .int .i64 k, .int .i64 ev.length, .bool false] 33)).setCell ⟨wr.heap.size + 1, 3, none⟩ v) s.out s.ws s.opn s.lat A1 c1 A2 c2 A9 c9 := fun v => gw.below ((((Below.refl _ _).alloc (Nat.le_refl _) _).alloc (by simp) _).setCell (by simp) _)
        have be1 : Blk ((wr.alloc (.cells #[.int .i64 p, .bool true, .int .i64 n] 95)).alloc (.cells #[.int .i64 p, .int .i64 (3 + n % 2), .int .i64 key, .int .i64 0, .int .i64 0, .int .i64 k, .int .i64 ev.length, .bool false] 33)) wr.heap.size 95 (EvV.vals ⟨p, true, n⟩) := (Blk.new wr 95 (EvV.vals ⟨p, true, n⟩)).alloc _
        have bo1 : Blk ((wr.alloc (.cells #[.int .i64 p, .bool true, .int .i64 n] 95)).alloc (.cells #[.int .i64 p, .int .i64 (3 + n % 2), .int .i64 key, .int .i64 0, .int .i64 0, .int .i64 k, .int .i64 ev.length, .bool false] 33)) (wr.heap.size + 1) 33 (OpV.vals ⟨p, 3 + n % 2, key, 0, 0, k, ev.length, false⟩) := by
          have := Blk.new (wr.alloc (.cells #[.int .i64 p, .bool true, .int .i64 n] 95)) 33 (OpV.vals ⟨p, 3 + n % 2, key, 0, 0, k, ev.length, false⟩)
          simp only [World.size_alloc] at this
          exact this
        have sz1 : wr.heap.size + 2 ≤ ((wr.alloc (.cells #[.int .i64 p, .bool true, .int .i64 n] 95)).alloc (.cells #[.int .i64 p, .int .i64 (3 + n % 2), .int .i64 key, .int .i64 0, .int .i64 0, .int .i64 k, .int .i64 ev.length, .bool false] 33)).heap.size := by simp
        obtain ⟨w1, hw1⟩ : ∃ w1, w1 = (wr.alloc (.cells #[.int .i64 p, .bool true, .int .i64 n] 95)).alloc (.cells #[.int .i64 p, .int .i64 (3 + n % 2), .int .i64 key, .int .i64 0, .int .i64 0, .int .i64 k, .int .i64 ev.length, .bool false] 33) := ⟨_, rfl⟩
        rw [← hw1] at gwx gws be1 bo1 sz1
        rw [← hw1]
        clear hw1 gw q0 q1 q2
        obtain ⟨E, hE2⟩ : ∃ E, E = wr.heap.size := ⟨_, rfl⟩
        rw [← hE2] at gws be1 bo1 sz1 hsz hE ⊢
        clear hE2
        obtain ⟨x0, x1, x2, x3, x4, x5, x6, x7⟩ := bo1.op
        go_cut [7] (fun v7 wx => ∃ A3 c3, v7 = .slice A3 ws'.length c3 ∧ GQ wa wx s.out ws' s.opn lat' A1 c1 A3 c3 A9 c9 ∧ Blk wx E 95 (EvV.vals ⟨p, true, n⟩) ∧ Blk wx (E + 1) 33 o'.vals ∧ E + 2 ≤ wx.heap.size)
        case first =>
          rcases hcase with ⟨h2, rfl, rfl, rfl⟩ | ⟨h2, rfl, rfl, rfl⟩
          · have h2' : ((3 + n % 2) == 3) = true := by simp; omega
            have f3 := bo1.frozen 3
            have bo3 := bo1.set_ 3 (.int .i64 ((s.ws.length : Int) + 1))
            have be3 := be1.far (p := ⟨E + 1, 3, none⟩) (by simp) (.int .i64 ((s.ws.length : Int) + 1))
            have gw3 := gws (.int .i64 ((s.ws.length : Int) + 1))
            have hsz3 : (w1.setCell ⟨E + 1, 3, none⟩ (.int .i64 ((s.ws.length : Int) + 1))).heap.size = w1.heap.size := by simp
            have y2 : (w1.setCell ⟨E + 1, 3, none⟩ (.int .i64 ((s.ws.length : Int) + 1))).cell? ⟨E + 1, 2, none⟩ = some (.int .i64 key) := bo3.cell 2
            clear gws gwx
            go_wp2_with (at_builtin; go_loud (refine wpList_app1 slInt gw3.pu rfl (.tmp 53) (.tmp 56) rfl rfl (by rw [hsz3]; rfl) rfl (by simp [Value.oneCell']) (by omega) (by omega) (by omega) ?_; intro A5 c5 w5 ho5 hb5 hg5 hl5; have gw5 := gw3.appWs ho5 hb5 hg5 hl5; have bo5 := bo3.grown hg5 (own_blk_ne gw3.pu bo3 (by decide)); have be5 := be3.grown hg5 (own_blk_ne gw3.pu be3 (by decide)); have hsz5 := hb5.size))
            go_meet
            case rel => exact ⟨A5, c5, by simp, gw5, be5, bo5, by simp at hsz5; omega⟩
          · have h2' : ((3 + n % 2) == 3) = false := by simp; omega
            go_wp2_with fail
            go_meet
            case rel => exact ⟨A2, c2, rfl, gwx, be1, bo1, by omega⟩
        case rest =>
          obtain ⟨A3, c3, rfl, gx, be2, bo2, sz2⟩ := hcut
          obtain rfl : lat' = s.lat := by rcases hcase with ⟨_, _, _, h⟩ | ⟨_, _, _, h⟩ <;> exact h
          clear hcase gwx be1 bo1 x0 x1 x2 x3 x4 x5 x6 x7
          obtain ⟨x0, x1, x2, x3, x4, x5, x6, x7⟩ := bo2.op
          have y0 : wc.cell? ⟨E, 0, none⟩ = some (.int .i64 p) := be2.cell 0
          have fo := gx.opn.frozen p
          have xo := gx.opn.int (i := p) hlop
          have g2 := gx.setOpn p s.out.length
          have bo3 := bo2.far (p := ⟨wa.heap.size, p, none⟩) (by simp; omega) (.int .i64 s.out.length)
          obtain ⟨z0, z1, z2, z3, z4, z5, z6, z7⟩ := bo3.op
          have hsz2 : (wc.setCell ⟨wa.heap.size, p, none⟩ (.int .i64 s.out.length)).heap.size = wc.heap.size := by simp
          have hszc := gx.sz
          go_wp2_with (at_builtin; go_loud (refine wpList_app1 slOp g2.out rfl (.tmp 64) (.tmp 66) rfl rfl (by rw [hsz2]; rfl) (cs := o'.vals) rfl o'.one (by omega) (by omega) (by omega) ?_; intro A4 c4 w4 ho4 hb4 hg4 hl4))
          go_roundw
          case rel => exact ⟨k + 1, A4, c4, A3, c3, A9, c9, by omega, by go_num, by rw [Hst.out]; simp, by rw [Hst.out], by rw [Hst.out], by rw [Hst.out]; exact g2.appOut ho4 hb4 hg4⟩
          case measure => simp [intOf]; omega
      | false =>
        rw [hi] at q1
        have hpe : (nth ev k).p = (p : Int) := hp
        obtain ⟨j, j1, j2, j3, j4⟩ := ok.at_ Hgood.out hlt hi hpe
        have hj0 : (0 : Int) ≤ (j : Int) := by omega
        have hjl : (j : Int) < (s.out.length : Int) := by omega
        obtain ⟨oj, hoj⟩ : ∃ oj, nth s.out j = oj := ⟨_, rfl⟩
        have hsm := inv.sm _ (nth_mem j2)
        rw [hoj] at hsm
        obtain ⟨key, hkey⟩ : ∃ key : Nat, oj.key = (key : Int) := ⟨oj.key.toNat, by have := hsm.2.1; omega⟩
        have hkey3 : (key : Int) < 3 := by have := hsm.2.1; omega
        have hkey0 : (0 : Int) ≤ (key : Int) := by omega
        obtain ⟨o', lat', hst, hcase⟩ : ∃ (o' : OpV) (lat' : List Int), quTo ev (k + 1) = ⟨s.out.set j o', s.ws, s.opn, lat'⟩ ∧ ((oj.k = 4 ∧ o' = { oj with done := true, ret := (k : Int), res := poppedV s.ws s.lat oj.key n } ∧ lat' = s.lat ++ [poppedV s.ws s.lat oj.key n]) ∨ (¬ oj.k = 4 ∧ o' = { oj with done := true, ret := (k : Int) } ∧ lat' = s.lat)) := by
          have hjn : (nth s.opn p).toNat = j := by omega
          have e : quTo ev (k + 1) = quRet k (nth ev k) s := by rw [Hs.out, quStep, hi]; simp only [Bool.false_eq_true, if_false]
          unfold quRet at e
          rw [hpn, hjn, hn, hoj] at e
          by_cases h4 : oj.k = 4
          · rw [if_pos h4] at e; exact ⟨_, _, e, .inl ⟨h4, rfl, rfl⟩⟩
          · rw [if_neg h4] at e; exact ⟨_, _, e, .inr ⟨h4, rfl, rfl⟩⟩
        have Hst := Lib.hid hst
        clear hst Hs
        obtain ⟨g, rfl, hg2, hgw⟩ := own_addr gw.out (by omega)
        obtain ⟨⟨e0, e1, e2, e3, e4, e5, e6, e7⟩, _⟩ := gw.cells j2
        rw [hoj] at e0 e1 e2 e3 e4 e5 e6 e7
        have xo := gw.opn.int (i := p) hlop
        rw [j1] at xo
        have Hsm := Lib.hid hsm
        have Hoj := Lib.hid hoj
        have Hj := Lib.hid (And.intro j1 (And.intro j3 j4))
        have Hkey := Lib.hid hkey
        clear ok inv hsm hoj j1 j3 j4 hkey hpe
        have hlt1 : wa.heap.size < wr.heap.size := by omega
        go_upto_region 19 with fail
        have be1 : Blk ((wr.alloc (.cells #[.int .i64 p, .bool false, .int .i64 n] 95)).alloc (.cells #[.int .i64 oj.p, .int .i64 oj.k, .int .i64 oj.key, .int .i64 oj.arg, .int .i64 oj.res, .int .i64 oj.call, .int .i64 oj.ret, .bool oj.done] 33)) wr.heap.size 95 (EvV.vals ⟨p, false, n⟩) := (Blk.new wr 95 (EvV.vals ⟨p, false, n⟩)).alloc _
        have bo1 : Blk ((wr.alloc (.cells #[.int .i64 p, .bool false, .int .i64 n] 95)).alloc (.cells #[.int .i64 oj.p, .int .i64 oj.k, .int .i64 oj.key, .int .i64 oj.arg, .int .i64 oj.res, .int .i64 oj.call, .int .i64 oj.ret, .bool oj.done] 33)) (wr.heap.size + 1) 33 oj.vals := by
          have := Blk.new (wr.alloc (.cells #[.int .i64 p, .bool false, .int .i64 n] 95)) 33 oj.vals
          simp only [World.size_alloc] at this
          exact this
        have B1 : Below wr.heap.size wr ((wr.alloc (.cells #[.int .i64 p, .bool false, .int .i64 n] 95)).alloc (.cells #[.int .i64 oj.p, .int .i64 oj.k, .int .i64 oj.key, .int .i64 oj.arg, .int .i64 oj.res, .int .i64 oj.call, .int .i64 oj.ret, .bool oj.done] 33)) := ((Below.refl _ _).alloc (Nat.le_refl _) _).alloc (by simp) _
        have sz1 : wr.heap.size + 2 ≤ ((wr.alloc (.cells #[.int .i64 p, .bool false, .int .i64 n] 95)).alloc (.cells #[.int .i64 oj.p, .int .i64 oj.k, .int .i64 oj.key, .int .i64 oj.arg, .int .i64 oj.res, .int .i64 oj.call, .int .i64 oj.ret, .bool oj.done] 33)).heap.size := by simp
        obtain ⟨w1, hw1⟩ : ∃ w1, w1 = (wr.alloc (.cells #[.int .i64 p, .bool false, .int .i64 n] 95)).alloc (.cells #[.int .i64 oj.p, .int .i64 oj.k, .int .i64 oj.key, .int .i64 oj.arg, .int .i64 oj.res, .int .i64 oj.call, .int .i64 oj.ret, .bool oj.done] 33) := ⟨_, rfl⟩
        rw [← hw1] at be1 bo1 B1 sz1
        rw [← hw1]
        clear hw1 q0 q1 q2 e0 e1 e2 e3 e4 e5 e6 e7 xo
        have f7 := bo1.frozen 7
        have f6 := bo1.frozen 6
        obtain ⟨x0, x1, x2, x3, x4, x5, x6, x7⟩ := bo1.op
        go_upto_if 82 with fail
        have bo2 := (bo1.set_ 7 (.bool true)).set_ 6 (.int .i64 k)
        have be2 := (be1.far (p := ⟨wr.heap.size + 1, 7, none⟩) (by simp) (.bool true)).far (p := ⟨wr.heap.size + 1, 6, none⟩) (by simp) (.int .i64 k)
        have B2 := (B1.setCell (p := ⟨wr.heap.size + 1, 7, none⟩) (by simp) (.bool true)).setCell (p := ⟨wr.heap.size + 1, 6, none⟩) (by simp) (.int .i64 k)
        have sz2 : wr.heap.size + 2 ≤ ((w1.setCell ⟨wr.heap.size + 1, 7, none⟩ (.bool true)).setCell ⟨wr.heap.size + 1, 6, none⟩ (.int .i64 k)).heap.size := by simpa using sz1
        obtain ⟨w2, hw2⟩ : ∃ w2, w2 = (w1.setCell ⟨wr.heap.size + 1, 7, none⟩ (.bool true)).setCell ⟨wr.heap.size + 1, 6, none⟩ (.int .i64 k) := ⟨_, rfl⟩
        rw [← hw2] at be2 bo2 B2 sz2
        rw [← hw2]
        clear hw2 x0 x1 x2 x3 x4 x5 x6 x7 f7 f6 be1 bo1 B1 sz1
        have bo2' : Blk w2 (wr.heap.size + 1) 33 (OpV.vals { oj with done := true, ret := (k : Int) }) := bo2
        clear bo2
        go_cut [8] (fun v8 wx => ∃ A5 c5, v8 = .slice A5 lat'.length c5 ∧ GQ wa wx s.out s.ws s.opn lat' (some ⟨g, 0, none⟩) c1 A2 c2 A5 c5 ∧ Blk wx (wr.heap.size + 1) 33 o'.vals)
        case first =>
          rcases hcase with ⟨h4, rfl, rfl⟩ | ⟨h4, rfl, rfl⟩
          · have h4' : (oj.k == 4) = true := by simpa using h4
            clear h4
            have gw2 := gw.below B2
            have c2' : w2.cell? ⟨wr.heap.size + 1, 2, none⟩ = some (.int .i64 oj.key) := bo2'.cell 2
            have cn : w2.cell? ⟨wr.heap.size, 2, none⟩ = some (.int .i64 n) := be2.cell 2
            have hws2 := Sl.of_own gw2.pu rfl
            have htk2 := Sl.of_own gw2.tk rfl
            have hwl : s.ws.length ≤ 1000000 := by omega
            have htl : s.lat.length ≤ 1000000 := by omega
            have g3' : 0 ≤ n := g3
            have g4' : n ≤ 1000000 := by omega
            clear gw2
            go_upto_region 23 with (go_at_call 54; refine (popped_any _ _ _ _ _ _ _ _ _ hws2 htk2 hwl htl g3' g4').mono ?_; rintro e w3 ⟨rfl, hb3⟩; have bo3 := bo2'.below hb3 (by omega); have f4 := bo3.frozen 4; have k4 := bo3.cell 4)
            have B4 := (B2.trans (hb3.mono (by omega))).setCell (p := ⟨wr.heap.size + 1, 4, none⟩) (by simp) (.int .i64 (poppedV s.ws s.lat oj.key n))
            have gw4 := gw.below B4
            have bo4 := bo3.set_ 4 (.int .i64 (poppedV s.ws s.lat oj.key n))
            have k4' : (w3.setCell ⟨wr.heap.size + 1, 4, none⟩ (.int .i64 (poppedV s.ws s.lat oj.key n))).cell? ⟨wr.heap.size + 1, 4, none⟩ = some (.int .i64 (poppedV s.ws s.lat oj.key n)) := bo4.cell 4
            have hsz3 := hb3.size
            have hsz4 : (w3.setCell ⟨wr.heap.size + 1, 4, none⟩ (.int .i64 (poppedV s.ws s.lat oj.key n))).heap.size = w3.heap.size := by simp
            go_wp2_with (at_builtin; go_loud (refine wpList_app1 slInt gw4.tk rfl (.tmp 91) (.tmp 94) rfl rfl (by rw [hsz4]; rfl) rfl (by simp [Value.oneCell']) (by omega) (by omega) (by omega) ?_; intro A5 c5 w5 ho5 hb5 hg5 hl5; have gw5 := gw4.appTk ho5 hb5 hg5 hl5; have bo5 := bo4.grown hg5 (own_blk_ne gw4.tk bo4 (by decide))))
            go_meet
            case rel => exact ⟨A5, c5, by simp, gw5, bo5⟩
          · have h4' : (oj.k == 4) = false := by simpa using h4
            have gw2 := gw.below B2
            go_wp2_with fail
            go_meet
            case rel => exact ⟨A9, c9, rfl, gw2, bo2'⟩
        case rest =>
          obtain ⟨A5, c5, rfl, gx, bo3⟩ := hcut
          clear hcase
          obtain ⟨⟨e0, e1, e2, e3, e4, e5, e6, e7⟩, f0, f1, f2, f3, f4, f5, f6, f7⟩ := gx.cells j2
          obtain ⟨x0, x1, x2, x3, x4, x5, x6, x7⟩ := bo3.op
          go_wp2_with fail
          go_roundw
          case rel => exact ⟨k + 1, some ⟨g, 0, none⟩, c1, A2, c2, A5, c5, by omega, by go_num, by rw [Hst.out]; simp, by rw [Hst.out], by rw [Hst.out], by rw [Hst.out]; exact gx.putOp hg2 j2 o'⟩
          case measure => simp [intOf]; omega
    · obtain rfl : k = ev.length := by omega
      go_wp2_with fail
      go_ret
      have hszw := hba.size
      exact ⟨A1, c1, rfl, own_mono gw.out (by omega), hba.trans (gw.bel.mono hszw)⟩
end Go.Proofs.Ythijndjgchbeoaa
