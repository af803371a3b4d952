/-
  simproofref20.Queues: a history of pushes and pops, made from numbers.
-/
import Derived.Test.YthijndjgchbeoaaRegs
import Derived.Test.YthijndjgchbeoaaPicks
namespace Go.Proofs.Ythijndjgchbeoaa
set_option linter.unusedVariables false
open Go.RowKit
attribute [local go_sem ↓] Go.wp_at_zero Go.wp_at_succ

/-- lat: the elements taken -/
def quCall (ev : List EvV) (i : Nat) (e : EvV) (s : GenSt) : GenSt :=
  if e.n % 2 = 0 then ⟨s.out ++ [⟨e.p, 3, 1 + e.n / 2 % 2, (s.ws.length : Int) + 1, 0, i, ev.length, false⟩], s.ws ++ [1 + e.n / 2 % 2], s.opn.set e.p.toNat s.out.length, s.lat⟩
  else ⟨s.out ++ [⟨e.p, 4, 1 + e.n / 2 % 2, 0, 0, i, ev.length, false⟩], s.ws, s.opn.set e.p.toNat s.out.length, s.lat⟩
def quRet (i : Nat) (e : EvV) (s : GenSt) : GenSt :=
  if (nth s.out (nth s.opn e.p.toNat).toNat).k = 4 then { s with out := s.out.set (nth s.opn e.p.toNat).toNat { nth s.out (nth s.opn e.p.toNat).toNat with done := true, ret := i, res := poppedV s.ws s.lat (nth s.out (nth s.opn e.p.toNat).toNat).key e.n }, lat := s.lat ++ [poppedV s.ws s.lat (nth s.out (nth s.opn e.p.toNat).toNat).key e.n] }
  else { s with out := s.out.set (nth s.opn e.p.toNat).toNat { nth s.out (nth s.opn e.p.toNat).toNat with done := true, ret := i } }
def quStep (ev : List EvV) (i : Nat) (s : GenSt) : GenSt :=
  if (nth ev i).inv then quCall ev i (nth ev i) s else quRet i (nth ev i) s
def quTo (ev : List EvV) (k : Nat) : GenSt := loopN (quStep ev) ⟨[], [], [0, 0, 0, 0], []⟩ k
def queues (l : List Int) (most : Int) : List OpV := (quTo (events l most) (events l most).length).out
structure QuInv (ev : List EvV) (k : Nat) (s : GenSt) : Prop where
  ok : GenOk ev k s.out s.opn
  sm : ∀ o ∈ s.out, OpSm o
  lat : s.lat.length ≤ k
  ws : s.ws.length ≤ k
  wsx : ∀ x ∈ s.ws, 1 ≤ x ∧ x ≤ 2

theorem quTo_inv {ev : List EvV} (hg : EvGood ev) (hl : ev.length ≤ 40) : ∀ k, k ≤ ev.length → QuInv ev k (quTo ev k)
  | 0, _ => ⟨GenOk.zero ev, fun _ h => by simp [quTo, loopN] at h, Nat.zero_le _, Nat.zero_le _, fun _ h => by simp [quTo, loopN] at h⟩
  | k + 1, hk => by
    have ih := quTo_inv hg hl k (by omega)
    have hs : quTo ev (k + 1) = quStep ev k (quTo ev k) := rfl
    rw [hs]
    generalize quTo ev k = s at ih
    obtain ⟨g1, g2, g3⟩ := hg k (by omega)
    obtain ⟨ok, sm, lat, ws, wsx⟩ := ih
    obtain ⟨p, hp⟩ : ∃ p : Nat, (nth ev k).p = p := ⟨(nth ev k).p.toNat, by omega⟩
    unfold quStep
    cases hi : (nth ev k).inv with
    | true =>
      simp only [if_true]
      unfold quCall
      have hpn : (nth ev k).p.toNat = p := by omega
      rw [hpn]
      split
      · refine ⟨ok.add hg (by omega) hi rfl rfl rfl rfl rfl hp, fun o ho => ?_, by dsimp only; omega, by simp; omega, fun x hx => ?_⟩
        · rcases List.mem_append.1 ho with h | h
          · exact sm o h
          · simp only [List.mem_singleton] at h; subst h; unfold OpSm; dsimp only; omega
        · rcases List.mem_append.1 hx with h | h
          · exact wsx x h
          · simp only [List.mem_singleton] at h; omega
      · refine ⟨ok.add hg (by omega) hi rfl rfl rfl rfl rfl hp, fun o ho => ?_, by dsimp only; omega, by dsimp only; omega, wsx⟩
        rcases List.mem_append.1 ho with h | h
        · exact sm o h
        · simp only [List.mem_singleton] at h; subst h; unfold OpSm; dsimp only; omega
    | false =>
      simp only [Bool.false_eq_true, if_false]
      unfold quRet
      have hpn : (nth ev k).p.toNat = p := by omega
      rw [hpn]
      obtain ⟨j, j1, j2, j3, j4⟩ := ok.at_ hg (by omega) hi hp
      have hjn : (nth s.opn p).toNat = j := by omega
      rw [hjn]
      have hj := sm _ (nth_mem j2)
      unfold OpSm at hj
      have hpop := poppedV_in s.ws s.lat (nth s.out j).key (nth ev k).n
      split
      · refine ⟨ok.put (by omega) hi j2 (by omega) j4 rfl rfl rfl rfl, fun o ho => ?_, by simp; omega, by dsimp only; omega, wsx⟩
        rcases mem_set_or ho with h | h
        · exact sm o h
        · subst h
          unfold OpSm
          dsimp only
          exact ⟨hj.1, hj.2.1, hj.2.2.1, by omega⟩
      · refine ⟨ok.put (by omega) hi j2 (by omega) j4 rfl rfl rfl rfl, fun o ho => ?_, by dsimp only; omega, by dsimp only; omega, wsx⟩
        rcases mem_set_or ho with h | h
        · exact sm o h
        · subst h; exact hj

theorem own_lt {w : World} {base : Nat} {e : TypeId} {sz n : Nat} {v : Value} {xs : List Value} (h : w.ownsRow base e sz v n xs) {g : Nat} (hg : v.ownBlock = some g) : g < w.heap.size := by
  rcases h.2 with ⟨rfl, _⟩ | ⟨g', cap, cur, rfl, _, hh, _⟩
  · simp [Value.ownBlock] at hg
  · have : g' = g := by simpa [Value.ownBlock] using hg
    subst this
    exact (Array.getElem?_eq_some_iff.1 hh).1
theorem apart_new {w : World} {base base' : Nat} {e e' : TypeId} {sz sz' n n' : Nat} {v v' v2 : Value} {xs xs' : List Value} (h : w.ownsRow base e sz v n xs) (h' : w.ownsRow base' e' sz' v' n' xs') (hne : v.ownBlock = none ∨ v.ownBlock ≠ v'.ownBlock) (hl : v2.ownBlock = v'.ownBlock ∨ ∃ g, v2.ownBlock = some g ∧ w.heap.size ≤ g) : v.ownBlock = none ∨ v.ownBlock ≠ v2.ownBlock := by
  rcases hl with hl | ⟨g, hl, hge⟩
  · rw [hl]; exact hne
  · right
    intro he
    have := own_lt h (he.trans hl)
    omega
theorem apart_sym {a b : Option Nat} (h : a = none ∨ a ≠ b) : b = none ∨ b ≠ a := by
  rcases h with rfl | h
  · cases b with
    | none => exact .inl rfl
    | some x => right; simp
  · exact .inr fun e => h e.symm

/-- what the loop holds: the operations, the keys pushed, the elements taken, the open calls -/
structure GQ (wa w : World) (out : List OpV) (ws opn lat : List Int) (A1 : Option Addr) (c1 : Nat) (A2 : Option Addr) (c2 : Nat) (A9 : Option Addr) (c9 : Nat) : Prop where
  out : w.ownsRow (wa.heap.size + 1) 33 8 (.slice A1 out.length c1) out.length (flat OpV.vals out)
  pu : w.ownsRow (wa.heap.size + 1) 3 1 (.slice A2 ws.length c2) ws.length (flat intv ws)
  tk : w.ownsRow (wa.heap.size + 1) 3 1 (.slice A9 lat.length c9) lat.length (flat intv lat)
  ne : (Value.slice A2 ws.length c2).ownBlock = none ∨ (Value.slice A2 ws.length c2).ownBlock ≠ (Value.slice A9 lat.length c9).ownBlock
  opn : Blk w wa.heap.size 3 (flat intv opn)
  bel : Below wa.heap.size wa w
  sz : wa.heap.size + 1 ≤ w.heap.size
section
variable {wa w w' : World} {out : List OpV} {ws opn lat : List Int} {A1 A2 A9 : Option Addr} {c1 c2 c9 : Nat}
theorem GQ.below (h : GQ wa w out ws opn lat A1 c1 A2 c2 A9 c9) (hb : Below w.heap.size w w') : GQ wa w' out ws opn lat A1 c1 A2 c2 A9 c9 :=
  ⟨own_below h.out hb, own_below h.pu hb, own_below h.tk hb, h.ne, h.opn.below hb (by have := h.sz; omega), h.bel.trans (hb.mono (by have := h.sz; omega)), by have := h.sz; have := hb.size; omega⟩
theorem GQ.setOpn (h : GQ wa w out ws opn lat A1 c1 A2 c2 A9 c9) (i : Nat) (x : Int) : GQ wa (w.setCell ⟨wa.heap.size, i, none⟩ (.int .i64 x)) out ws (opn.set i x) lat A1 c1 A2 c2 A9 c9 :=
  ⟨own_low h.out (by simp) _, own_low h.pu (by simp) _, own_low h.tk (by simp) _, h.ne, h.opn.setInt i x, h.bel.setCell (by simp) _, by simpa using h.sz⟩
theorem GQ.appWs (h : GQ wa w out ws opn lat A1 c1 A2 c2 A9 c9) {x : Int} {A3 : Option Addr} {c3 : Nat} (ho : w'.ownsRow (wa.heap.size + 1) 3 1 (.slice A3 (ws.length + 1) c3) (ws.length + 1) (flat intv ws ++ [.int .i64 x])) (hb : Below (wa.heap.size + 1) w w') (hg : w.grownBy w' (Value.slice A2 ws.length c2).ownBlock)
    (hl : (Value.slice A3 (ws.length + 1) c3).ownBlock = (Value.slice A2 ws.length c2).ownBlock ∨ ∃ g, (Value.slice A3 (ws.length + 1) c3).ownBlock = some g ∧ w.heap.size ≤ g) :
    GQ wa w' out (ws ++ [x]) opn lat A1 c1 A3 c3 A9 c9 :=
  ⟨h.out.kept hg (own_own_ne h.out h.pu (by decide)), by rw [List.length_append, flat_append, flat_one]; simpa [intv] using ho, h.tk.kept hg (apart_sym h.ne), by rw [List.length_append]; exact apart_sym (apart_new h.tk h.pu (apart_sym h.ne) hl), h.opn.below hb (by omega), h.bel.trans (hb.mono (by omega)), by have := h.sz; have := hb.size; omega⟩
theorem GQ.appTk (h : GQ wa w out ws opn lat A1 c1 A2 c2 A9 c9) {x : Int} {A3 : Option Addr} {c3 : Nat} (ho : w'.ownsRow (wa.heap.size + 1) 3 1 (.slice A3 (lat.length + 1) c3) (lat.length + 1) (flat intv lat ++ [.int .i64 x])) (hb : Below (wa.heap.size + 1) w w') (hg : w.grownBy w' (Value.slice A9 lat.length c9).ownBlock)
    (hl : (Value.slice A3 (lat.length + 1) c3).ownBlock = (Value.slice A9 lat.length c9).ownBlock ∨ ∃ g, (Value.slice A3 (lat.length + 1) c3).ownBlock = some g ∧ w.heap.size ≤ g) :
    GQ wa w' out ws opn (lat ++ [x]) A1 c1 A2 c2 A3 c3 :=
  ⟨h.out.kept hg (own_own_ne h.out h.tk (by decide)), h.pu.kept hg h.ne, by rw [List.length_append, flat_append, flat_one]; simpa [intv] using ho, by rw [List.length_append]; exact apart_new h.pu h.tk h.ne hl, h.opn.below hb (by omega), h.bel.trans (hb.mono (by omega)), by have := h.sz; have := hb.size; omega⟩
theorem GQ.appOut (h : GQ wa w out ws opn lat A1 c1 A2 c2 A9 c9) {o : OpV} {A3 : Option Addr} {c3 : Nat} (ho : w'.ownsRow (wa.heap.size + 1) 33 8 (.slice A3 (out.length + 1) c3) (out.length + 1) (flat OpV.vals out ++ o.vals)) (hb : Below (wa.heap.size + 1) w w') (hg : w.grownBy w' (Value.slice A1 out.length c1).ownBlock) :
    GQ wa w' (out ++ [o]) ws opn lat A3 c3 A2 c2 A9 c9 :=
  ⟨by rw [List.length_append, flat_append, flat_one]; simpa using ho, h.pu.kept hg (own_own_ne h.pu h.out (by decide)), h.tk.kept hg (own_own_ne h.tk h.out (by decide)), h.ne, h.opn.below hb (by omega), h.bel.trans (hb.mono (by omega)), by have := h.sz; have := hb.size; omega⟩
theorem far8 {w : World} {base : Nat} {e : TypeId} {sz n : Nat} {v : Value} {xs : List Value} (h : w.ownsRow base e sz v n xs) {g : Nat} (hne : some g ≠ v.ownBlock) (j : Nat) (o : OpV) :
    ((((((((w.setCell ⟨g, j * 8, none⟩ (.int .i64 o.p)).setCell ⟨g, j * 8 + 1, none⟩ (.int .i64 o.k)).setCell ⟨g, j * 8 + 2, none⟩ (.int .i64 o.key)).setCell ⟨g, j * 8 + 3, none⟩ (.int .i64 o.arg)).setCell ⟨g, j * 8 + 4, none⟩ (.int .i64 o.res)).setCell ⟨g, j * 8 + 5, none⟩ (.int .i64 o.call)).setCell ⟨g, j * 8 + 6, none⟩ (.int .i64 o.ret)).setCell ⟨g, j * 8 + 7, none⟩ (.bool o.done)).ownsRow base e sz v n xs :=
  ownsRow_setCell_far (ownsRow_setCell_far (ownsRow_setCell_far (ownsRow_setCell_far (ownsRow_setCell_far (ownsRow_setCell_far (ownsRow_setCell_far (ownsRow_setCell_far h hne _) hne _) hne _) hne _) hne _) hne _) hne _) hne _
theorem GQ.putOp {g : Nat} (h : GQ wa w out ws opn lat (some ⟨g, 0, none⟩) c1 A2 c2 A9 c9) (hgb : wa.heap.size + 1 ≤ g) {j : Nat} (hj : j < out.length) (o : OpV) :
    GQ wa ((((((((w.setCell ⟨g, j * 8, none⟩ (.int .i64 o.p)).setCell ⟨g, j * 8 + 1, none⟩ (.int .i64 o.k)).setCell ⟨g, j * 8 + 2, none⟩ (.int .i64 o.key)).setCell ⟨g, j * 8 + 3, none⟩ (.int .i64 o.arg)).setCell ⟨g, j * 8 + 4, none⟩ (.int .i64 o.res)).setCell ⟨g, j * 8 + 5, none⟩ (.int .i64 o.call)).setCell ⟨g, j * 8 + 6, none⟩ (.int .i64 o.ret)).setCell ⟨g, j * 8 + 7, none⟩ (.bool o.done)) (out.set j o) ws opn lat (some ⟨g, 0, none⟩) c1 A2 c2 A9 c9 := by
  have hne : ∀ {e : TypeId} {sz n : Nat} {v : Value} {xs : List Value}, w.ownsRow (wa.heap.size + 1) e sz v n xs → e ≠ 33 → some g ≠ v.ownBlock := by
    intro e sz n v xs hv hev
    rcases own_own_ne hv h.out hev with e | e
    · rw [e]; simp
    · exact fun e2 => e (by rw [← e2]; rfl)
  refine ⟨?_, far8 h.pu (hne h.pu (by decide)) j o, far8 h.tk (hne h.tk (by decide)) j o, h.ne, ?_, ?_, by simpa using h.sz⟩
  · have := own_setOp h.out hj o
    rwa [List.length_set]
  · have e : wa.heap.size ≠ g := by omega
    exact (((((((h.opn.far (p := ⟨g, _, none⟩) e _).far (p := ⟨g, _, none⟩) e _).far (p := ⟨g, _, none⟩) e _).far (p := ⟨g, _, none⟩) e _).far (p := ⟨g, _, none⟩) e _).far (p := ⟨g, _, none⟩) e _).far (p := ⟨g, _, none⟩) e _).far (p := ⟨g, _, none⟩) e _
  · have e : wa.heap.size ≤ g := by omega
    exact (((((((h.bel.setCell (p := ⟨g, _, none⟩) e _).setCell (p := ⟨g, _, none⟩) e _).setCell (p := ⟨g, _, none⟩) e _).setCell (p := ⟨g, _, none⟩) e _).setCell (p := ⟨g, _, none⟩) e _).setCell (p := ⟨g, _, none⟩) e _).setCell (p := ⟨g, _, none⟩) e _).setCell (p := ⟨g, _, none⟩) e _
theorem GQ.cells {g : Nat} (h : GQ wa w out ws opn lat (some ⟨g, 0, none⟩) c1 A2 c2 A9 c9) {j : Nat} (hj : j < out.length) :
    (w.cell? ⟨g, j * 8, none⟩ = some (.int .i64 (nth out j).p) ∧ w.cell? ⟨g, j * 8 + 1, none⟩ = some (.int .i64 (nth out j).k) ∧ w.cell? ⟨g, j * 8 + 2, none⟩ = some (.int .i64 (nth out j).key) ∧ w.cell? ⟨g, j * 8 + 3, none⟩ = some (.int .i64 (nth out j).arg) ∧
     w.cell? ⟨g, j * 8 + 4, none⟩ = some (.int .i64 (nth out j).res) ∧ w.cell? ⟨g, j * 8 + 5, none⟩ = some (.int .i64 (nth out j).call) ∧ w.cell? ⟨g, j * 8 + 6, none⟩ = some (.int .i64 (nth out j).ret) ∧ w.cell? ⟨g, j * 8 + 7, none⟩ = some (.bool (nth out j).done)) ∧
    (w.frozen? ⟨g, j * 8, none⟩ = false ∧ w.frozen? ⟨g, j * 8 + 1, none⟩ = false ∧ w.frozen? ⟨g, j * 8 + 2, none⟩ = false ∧ w.frozen? ⟨g, j * 8 + 3, none⟩ = false ∧ w.frozen? ⟨g, j * 8 + 4, none⟩ = false ∧ w.frozen? ⟨g, j * 8 + 5, none⟩ = false ∧ w.frozen? ⟨g, j * 8 + 6, none⟩ = false ∧ w.frozen? ⟨g, j * 8 + 7, none⟩ = false) := by
  have hs := (Sl.of_own h.out rfl).op' hj
  simp only [Nat.zero_add] at hs
  exact ⟨hs, h.out.frozenAt _, h.out.frozenAt _, h.out.frozenAt _, h.out.frozenAt _, h.out.frozenAt _, h.out.frozenAt _, h.out.frozenAt _, h.out.frozenAt _⟩
end
end Go.Proofs.Ythijndjgchbeoaa
