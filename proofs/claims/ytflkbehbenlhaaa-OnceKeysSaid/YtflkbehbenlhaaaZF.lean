/-
  Some texts as one: Regs, RegsWalk, Swaps, SwapsWalk, Queues, QueuesWalk, Bent20.
-/
import Derived.Test.YtflkbehbenlhaaaZE
import Derived.Deep.RegionHeld3
import Derived.Deep.DrawnRows
import Derived.Deep.DeepCutAuto
/-
  simproofref20.Registers: a history of reads and writes, made from numbers.
-/
namespace Go.Proofs.Ytflkbehbenlhaaa
set_option linter.unusedVariables false
open Go.RowKit
attribute [local go_sem ↓] Go.wp_at_zero Go.wp_at_succ

structure GenSt where
  out : List OpV
  ws : List Int
  opn : List Int
  lat : List Int
  deriving Inhabited
def genInit : GenSt := ⟨[], [], [0, 0, 0, 0], [0, 0, 0]⟩
def regCall (ev : List EvV) (i : Nat) (e : EvV) (s : GenSt) : GenSt :=
  if e.n % 2 = 1 then ⟨s.out ++ [⟨e.p, 1, 1 + e.n / 2 % 2, (s.ws.length : Int) + 1, 0, i, ev.length, false⟩], s.ws ++ [1 + e.n / 2 % 2], s.opn.set e.p.toNat s.out.length, s.lat.set (1 + e.n / 2 % 2).toNat ((s.ws.length : Int) + 1)⟩
  else ⟨s.out ++ [⟨e.p, 0, 1 + e.n / 2 % 2, 0, 0, i, ev.length, false⟩], s.ws, s.opn.set e.p.toNat s.out.length, s.lat⟩
def regRet (fresh : Bool) (i : Nat) (e : EvV) (s : GenSt) : GenSt :=
  { s with out := s.out.set (nth s.opn e.p.toNat).toNat { nth s.out (nth s.opn e.p.toNat).toNat with done := true, ret := i, res := if (nth s.out (nth s.opn e.p.toNat).toNat).k = 0 then chosenV s.ws (nth s.out (nth s.opn e.p.toNat).toNat).key e.n (nth s.lat (nth s.out (nth s.opn e.p.toNat).toNat).key.toNat) fresh else (nth s.out (nth s.opn e.p.toNat).toNat).res } }
def regStep (ev : List EvV) (fresh : Bool) (i : Nat) (s : GenSt) : GenSt :=
  if (nth ev i).inv then regCall ev i (nth ev i) s else regRet fresh i (nth ev i) s
def regTo (ev : List EvV) (fresh : Bool) (k : Nat) : GenSt := loopN (regStep ev fresh) genInit k
def freshOf (l : List Int) : Bool := decide (pick0 l 100 % 2 = 1)
def registers (l : List Int) (most : Int) : List OpV := (regTo (events l most) (freshOf l) (events l most).length).out

structure GW (wa w : World) (out : List OpV) (ws opn lat : List Int) (A1 : Option Addr) (c1 : Nat) (A2 : Option Addr) (c2 : Nat) : Prop where
  out : w.ownsRow (wa.heap.size + 2) 37 8 (.slice A1 out.length c1) out.length (flat OpV.vals out)
  ws : w.ownsRow (wa.heap.size + 2) 3 1 (.slice A2 ws.length c2) ws.length (flat intv ws)
  opn : Blk w wa.heap.size 3 (flat intv opn)
  lat : Blk w (wa.heap.size + 1) 3 (flat intv lat)
  bel : Below wa.heap.size wa w
  sz : wa.heap.size + 2 ≤ w.heap.size
section
variable {wa w w' : World} {out : List OpV} {ws opn lat : List Int} {A1 A2 : Option Addr} {c1 c2 : Nat}
theorem GW.below (h : GW wa w out ws opn lat A1 c1 A2 c2) (hb : Below w.heap.size w w') : GW wa w' out ws opn lat A1 c1 A2 c2 :=
  ⟨own_below h.out hb, own_below h.ws hb, h.opn.below hb (by have := h.sz; omega), h.lat.below hb (by have := h.sz; omega), h.bel.trans (hb.mono (by have := h.sz; omega)), by have := h.sz; have := hb.size; omega⟩
theorem GW.cells {g : Nat} (h : GW wa w out ws opn lat (some ⟨g, 0, none⟩) c1 A2 c2) {j : Nat} (hj : j < out.length) :
    (w.cell? ⟨g, j * 8, none⟩ = some (.int .i64 (nth out j).p) ∧ w.cell? ⟨g, j * 8 + 1, none⟩ = some (.int .i64 (nth out j).k) ∧ w.cell? ⟨g, j * 8 + 2, none⟩ = some (.int .i64 (nth out j).key) ∧ w.cell? ⟨g, j * 8 + 3, none⟩ = some (.int .i64 (nth out j).arg) ∧
     w.cell? ⟨g, j * 8 + 4, none⟩ = some (.int .i64 (nth out j).res) ∧ w.cell? ⟨g, j * 8 + 5, none⟩ = some (.int .i64 (nth out j).call) ∧ w.cell? ⟨g, j * 8 + 6, none⟩ = some (.int .i64 (nth out j).ret) ∧ w.cell? ⟨g, j * 8 + 7, none⟩ = some (.bool (nth out j).done)) ∧
    (w.frozen? ⟨g, j * 8, none⟩ = false ∧ w.frozen? ⟨g, j * 8 + 1, none⟩ = false ∧ w.frozen? ⟨g, j * 8 + 2, none⟩ = false ∧ w.frozen? ⟨g, j * 8 + 3, none⟩ = false ∧ w.frozen? ⟨g, j * 8 + 4, none⟩ = false ∧ w.frozen? ⟨g, j * 8 + 5, none⟩ = false ∧ w.frozen? ⟨g, j * 8 + 6, none⟩ = false ∧ w.frozen? ⟨g, j * 8 + 7, none⟩ = false) := by
  have hs := (Sl.of_own h.out rfl).op' hj
  simp only [Nat.zero_add] at hs
  exact ⟨hs, h.out.frozenAt _, h.out.frozenAt _, h.out.frozenAt _, h.out.frozenAt _, h.out.frozenAt _, h.out.frozenAt _, h.out.frozenAt _, h.out.frozenAt _⟩
end
end Go.Proofs.Ytflkbehbenlhaaa
/-
  simproofref20.Registers, walked.
-/
namespace Go.Proofs.Ytflkbehbenlhaaa
set_option linter.unusedVariables false
open Go.RowKit
attribute [local go_sem ↓] Go.wp_at_zero Go.wp_at_succ

end Go.Proofs.Ytflkbehbenlhaaa
/-
  simproofref20.Swaps: a history of reads and swaps, made from numbers.
-/
namespace Go.Proofs.Ytflkbehbenlhaaa
set_option linter.unusedVariables false
open Go.RowKit
attribute [local go_sem ↓] Go.wp_at_zero Go.wp_at_succ

def swCall (ev : List EvV) (i : Nat) (e : EvV) (s : GenSt) : GenSt :=
  if 0 < e.n % 3 then ⟨s.out ++ [⟨e.p, 2, 1 + e.n / 2 % 2, (s.ws.length : Int) + 1, 0, i, ev.length, false⟩], s.ws ++ [1 + e.n / 2 % 2], s.opn.set e.p.toNat s.out.length, s.lat⟩
  else ⟨s.out ++ [⟨e.p, 0, 1 + e.n / 2 % 2, 0, 0, i, ev.length, false⟩], s.ws, s.opn.set e.p.toNat s.out.length, s.lat⟩
def swRet (fresh : Bool) (i : Nat) (e : EvV) (s : GenSt) : GenSt :=
  { s with out := s.out.set (nth s.opn e.p.toNat).toNat { nth s.out (nth s.opn e.p.toNat).toNat with done := true, ret := i, res := chosenV s.ws (nth s.out (nth s.opn e.p.toNat).toNat).key e.n (nth s.lat (nth s.out (nth s.opn e.p.toNat).toNat).key.toNat) fresh }
           lat := if (nth s.out (nth s.opn e.p.toNat).toNat).k = 2 then s.lat.set (nth s.out (nth s.opn e.p.toNat).toNat).key.toNat (nth s.out (nth s.opn e.p.toNat).toNat).arg else s.lat }
def swStep (ev : List EvV) (fresh : Bool) (i : Nat) (s : GenSt) : GenSt :=
  if (nth ev i).inv then swCall ev i (nth ev i) s else swRet fresh i (nth ev i) s
def swTo (ev : List EvV) (fresh : Bool) (k : Nat) : GenSt := loopN (swStep ev fresh) genInit k
def swaps (l : List Int) (most : Int) : List OpV := (swTo (events l most) (freshOf l) (events l most).length).out

end Go.Proofs.Ytflkbehbenlhaaa
/-
  simproofref20.Swaps, walked.
-/
namespace Go.Proofs.Ytflkbehbenlhaaa
set_option linter.unusedVariables false
open Go.RowKit
attribute [local go_sem ↓] Go.wp_at_zero Go.wp_at_succ

end Go.Proofs.Ytflkbehbenlhaaa
/-
  simproofref20.Queues: a history of pushes and pops, made from numbers.
-/
namespace Go.Proofs.Ytflkbehbenlhaaa
set_option linter.unusedVariables false
open Go.RowKit
attribute [local go_sem ↓] Go.wp_at_zero Go.wp_at_succ

def quCall (ev : List EvV) (i : Nat) (e : EvV) (s : GenSt) : GenSt :=
  if e.n % 2 = 0 then ⟨s.out ++ [⟨e.p, 3, 1 + e.n / 2 % 2, (s.ws.length : Int) + 1, 0, i, ev.length, false⟩], s.ws ++ [1 + e.n / 2 % 2], s.opn.set e.p.toNat s.out.length, s.lat⟩
  else ⟨s.out ++ [⟨e.p, 4, 1 + e.n / 2 % 2, 0, 0, i, ev.length, false⟩], s.ws, s.opn.set e.p.toNat s.out.length, s.lat⟩
def quRet (i : Nat) (e : EvV) (s : GenSt) : GenSt :=
  if (nth s.out (nth s.opn e.p.toNat).toNat).k = 4 then { s with out := s.out.set (nth s.opn e.p.toNat).toNat { nth s.out (nth s.opn e.p.toNat).toNat with done := true, ret := i, res := poppedV s.ws s.lat (nth s.out (nth s.opn e.p.toNat).toNat).key e.n }, lat := s.lat ++ [poppedV s.ws s.lat (nth s.out (nth s.opn e.p.toNat).toNat).key e.n] }
  else { s with out := s.out.set (nth s.opn e.p.toNat).toNat { nth s.out (nth s.opn e.p.toNat).toNat with done := true, ret := i } }
def quStep (ev : List EvV) (i : Nat) (s : GenSt) : GenSt :=
  if (nth ev i).inv then quCall ev i (nth ev i) s else quRet i (nth ev i) s
def quTo (ev : List EvV) (k : Nat) : GenSt := loopN (quStep ev) ⟨[], [], [0, 0, 0, 0], []⟩ k
def queues (l : List Int) (most : Int) : List OpV := (quTo (events l most) (events l most).length).out
structure GQ (wa w : World) (out : List OpV) (ws opn lat : List Int) (A1 : Option Addr) (c1 : Nat) (A2 : Option Addr) (c2 : Nat) (A9 : Option Addr) (c9 : Nat) : Prop where
  out : w.ownsRow (wa.heap.size + 1) 37 8 (.slice A1 out.length c1) out.length (flat OpV.vals out)
  pu : w.ownsRow (wa.heap.size + 1) 3 1 (.slice A2 ws.length c2) ws.length (flat intv ws)
  tk : w.ownsRow (wa.heap.size + 1) 3 1 (.slice A9 lat.length c9) lat.length (flat intv lat)
  ne : (Value.slice A2 ws.length c2).ownBlock = none ∨ (Value.slice A2 ws.length c2).ownBlock ≠ (Value.slice A9 lat.length c9).ownBlock
  opn : Blk w wa.heap.size 3 (flat intv opn)
  bel : Below wa.heap.size wa w
  sz : wa.heap.size + 1 ≤ w.heap.size
section
variable {wa w w' : World} {out : List OpV} {ws opn lat : List Int} {A1 A2 A9 : Option Addr} {c1 c2 c9 : Nat}
theorem GQ.below (h : GQ wa w out ws opn lat A1 c1 A2 c2 A9 c9) (hb : Below w.heap.size w w') : GQ wa w' out ws opn lat A1 c1 A2 c2 A9 c9 :=
  ⟨own_below h.out hb, own_below h.pu hb, own_below h.tk hb, h.ne, h.opn.below hb (by have := h.sz; omega), h.bel.trans (hb.mono (by have := h.sz; omega)), by have := h.sz; have := hb.size; omega⟩
theorem GQ.cells {g : Nat} (h : GQ wa w out ws opn lat (some ⟨g, 0, none⟩) c1 A2 c2 A9 c9) {j : Nat} (hj : j < out.length) :
    (w.cell? ⟨g, j * 8, none⟩ = some (.int .i64 (nth out j).p) ∧ w.cell? ⟨g, j * 8 + 1, none⟩ = some (.int .i64 (nth out j).k) ∧ w.cell? ⟨g, j * 8 + 2, none⟩ = some (.int .i64 (nth out j).key) ∧ w.cell? ⟨g, j * 8 + 3, none⟩ = some (.int .i64 (nth out j).arg) ∧
     w.cell? ⟨g, j * 8 + 4, none⟩ = some (.int .i64 (nth out j).res) ∧ w.cell? ⟨g, j * 8 + 5, none⟩ = some (.int .i64 (nth out j).call) ∧ w.cell? ⟨g, j * 8 + 6, none⟩ = some (.int .i64 (nth out j).ret) ∧ w.cell? ⟨g, j * 8 + 7, none⟩ = some (.bool (nth out j).done)) ∧
    (w.frozen? ⟨g, j * 8, none⟩ = false ∧ w.frozen? ⟨g, j * 8 + 1, none⟩ = false ∧ w.frozen? ⟨g, j * 8 + 2, none⟩ = false ∧ w.frozen? ⟨g, j * 8 + 3, none⟩ = false ∧ w.frozen? ⟨g, j * 8 + 4, none⟩ = false ∧ w.frozen? ⟨g, j * 8 + 5, none⟩ = false ∧ w.frozen? ⟨g, j * 8 + 6, none⟩ = false ∧ w.frozen? ⟨g, j * 8 + 7, none⟩ = false) := by
  have hs := (Sl.of_own h.out rfl).op' hj
  simp only [Nat.zero_add] at hs
  exact ⟨hs, h.out.frozenAt _, h.out.frozenAt _, h.out.frozenAt _, h.out.frozenAt _, h.out.frozenAt _, h.out.frozenAt _, h.out.frozenAt _, h.out.frozenAt _⟩
end
end Go.Proofs.Ytflkbehbenlhaaa
/-
  simproofref20.Queues, walked.
-/
namespace Go.Proofs.Ytflkbehbenlhaaa
set_option linter.unusedVariables false
open Go.RowKit
attribute [local go_sem ↓] Go.wp_at_zero Go.wp_at_succ

end Go.Proofs.Ytflkbehbenlhaaa
/-
  simproofref20.Mixed and simproofref20.Bent.
-/
namespace Go.Proofs.Ytflkbehbenlhaaa
set_option linter.unusedVariables false
open Go.RowKit
attribute [local go_sem ↓] Go.wp_at_zero Go.wp_at_succ

def mixed (l : List Int) (which : Int) : List OpV :=
  if around which 3 = 0 then registers l 12 else if around which 3 = 1 then swaps l 12 else queues l 12

/-! ### what the generated operations are -/
/-! ### Bent -/
end Go.Proofs.Ytflkbehbenlhaaa
