/-
  simproofref20.Registers: a history of reads and writes, made from numbers.
-/
import Derived.Test.YthijndjgchbeoaaGenPlain
import Derived.Test.YthijndjgchbeoaaPicks
import Derived.Deep.RegionHeld3
import Derived.Deep.DrawnRows
import Derived.Deep.DeepCutAuto
namespace Go.Proofs.Ythijndjgchbeoaa
set_option linter.unusedVariables false
open Go.RowKit
attribute [local go_sem ↓] Go.wp_at_zero Go.wp_at_succ

structure GenSt where
  out : List OpV
  ws : List Int
  opn : List Int
  lat : List Int
  deriving Inhabited
def genInit : GenSt := ⟨[], [], [0, 0, 0, 0], [0, 0, 0]⟩
def regCall (ev : List EvV) (i : Nat) (e : EvV) (s : GenSt) : GenSt :=
  if e.n % 2 = 1 then ⟨s.out ++ [⟨e.p, 1, 1 + e.n / 2 % 2, (s.ws.length : Int) + 1, 0, i, ev.length, false⟩], s.ws ++ [1 + e.n / 2 % 2], s.opn.set e.p.toNat s.out.length, s.lat.set (1 + e.n / 2 % 2).toNat ((s.ws.length : Int) + 1)⟩
  else ⟨s.out ++ [⟨e.p, 0, 1 + e.n / 2 % 2, 0, 0, i, ev.length, false⟩], s.ws, s.opn.set e.p.toNat s.out.length, s.lat⟩
def regRet (fresh : Bool) (i : Nat) (e : EvV) (s : GenSt) : GenSt :=
  { s with out := s.out.set (nth s.opn e.p.toNat).toNat { nth s.out (nth s.opn e.p.toNat).toNat with done := true, ret := i, res := if (nth s.out (nth s.opn e.p.toNat).toNat).k = 0 then chosenV s.ws (nth s.out (nth s.opn e.p.toNat).toNat).key e.n (nth s.lat (nth s.out (nth s.opn e.p.toNat).toNat).key.toNat) fresh else (nth s.out (nth s.opn e.p.toNat).toNat).res } }
def regStep (ev : List EvV) (fresh : Bool) (i : Nat) (s : GenSt) : GenSt :=
  if (nth ev i).inv then regCall ev i (nth ev i) s else regRet fresh i (nth ev i) s
def regTo (ev : List EvV) (fresh : Bool) (k : Nat) : GenSt := loopN (regStep ev fresh) genInit k
def freshOf (l : List Int) : Bool := decide (pick0 l 100 % 2 = 1)
def registers (l : List Int) (most : Int) : List OpV := (regTo (events l most) (freshOf l) (events l most).length).out

/-- small fields -/
def OpSm (o : OpV) : Prop := (0 ≤ o.k ∧ o.k ≤ 4) ∧ (1 ≤ o.key ∧ o.key ≤ 2) ∧ (0 ≤ o.arg ∧ o.arg ≤ 40) ∧ (0 ≤ o.res ∧ o.res ≤ 40)
structure GenInv (ev : List EvV) (k : Nat) (s : GenSt) : Prop where
  ok : GenOk ev k s.out s.opn
  sm : ∀ o ∈ s.out, OpSm o
  lat : s.lat.length = 3
  latx : ∀ x ∈ s.lat, 0 ≤ x ∧ x ≤ 40
  ws : s.ws.length ≤ k
  wsx : ∀ x ∈ s.ws, 1 ≤ x ∧ x ≤ 2

theorem mem_set_or {α : Type} {l : List α} {i : Nat} {v x : α} (h : x ∈ l.set i v) : x ∈ l ∨ x = v := List.mem_or_eq_of_mem_set h
theorem regTo_inv {ev : List EvV} (fresh : Bool) (hg : EvGood ev) (hl : ev.length ≤ 40) : ∀ k, k ≤ ev.length → GenInv ev k (regTo ev fresh k)
  | 0, _ => ⟨GenOk.zero ev, fun _ h => by simp [regTo, loopN, genInit] at h, rfl, fun x h => by simp [regTo, loopN, genInit] at h; omega, Nat.zero_le _, fun _ h => by simp [regTo, loopN, genInit] at h⟩
  | k + 1, hk => by
    have ih := regTo_inv fresh hg hl k (by omega)
    have hs : regTo ev fresh (k + 1) = regStep ev fresh k (regTo ev fresh k) := rfl
    rw [hs]
    generalize regTo ev fresh k = s at ih
    obtain ⟨g1, g2, g3⟩ := hg k (by omega)
    obtain ⟨ok, sm, lat, latx, ws, wsx⟩ := ih
    obtain ⟨p, hp⟩ : ∃ p : Nat, (nth ev k).p = p := ⟨(nth ev k).p.toNat, by omega⟩
    unfold regStep
    cases hi : (nth ev k).inv with
    | true =>
      simp only [if_true]
      unfold regCall
      have hpn : (nth ev k).p.toNat = p := by omega
      rw [hpn]
      split
      · refine ⟨ok.add hg (by omega) hi rfl rfl rfl rfl rfl hp, fun o ho => ?_, by simpa using lat, fun x hx => ?_, by simp; omega, fun x hx => ?_⟩
        · rcases List.mem_append.1 ho with h | h
          · exact sm o h
          · simp only [List.mem_singleton] at h; subst h; unfold OpSm; dsimp only; omega
        · rcases mem_set_or hx with h | h
          · have := latx x h; omega
          · omega
        · rcases List.mem_append.1 hx with h | h
          · exact wsx x h
          · simp only [List.mem_singleton] at h; omega
      · refine ⟨ok.add hg (by omega) hi rfl rfl rfl rfl rfl hp, fun o ho => ?_, lat, fun x hx => ?_, by dsimp only; omega, wsx⟩
        · rcases List.mem_append.1 ho with h | h
          · exact sm o h
          · simp only [List.mem_singleton] at h; subst h; unfold OpSm; dsimp only; omega
        · have := latx x hx; omega
    | false =>
      simp only [Bool.false_eq_true, if_false]
      unfold regRet
      have hpn : (nth ev k).p.toNat = p := by omega
      rw [hpn]
      obtain ⟨j, j1, j2, j3, j4⟩ := ok.at_ hg (by omega) hi hp
      have hjn : (nth s.opn p).toNat = j := by omega
      rw [hjn]
      refine ⟨ok.put (by omega) hi j2 (by omega) j4 rfl rfl rfl rfl, fun o ho => ?_, lat, fun x hx => by have := latx x hx; omega, by dsimp only; omega, wsx⟩
      rcases mem_set_or ho with h | h
      · exact sm o h
      · subst h
        have hj := sm _ (nth_mem j2)
        unfold OpSm at hj ⊢
        dsimp only
        refine ⟨hj.1, hj.2.1, hj.2.2.1, ?_⟩
        split
        · have hlx := latx _ (nth_mem (l := s.lat) (i := (nth s.out j).key.toNat) (by omega))
          have := chosenV_in s.ws (nth s.out j).key (nth ev k).n (nth s.lat (nth s.out j).key.toNat) fresh (by omega)
          omega
        · exact hj.2.2.2

theorem own_setOp {w : World} {base : Nat} {t : TypeId} {g n c : Nat} {out : List OpV} (h : w.ownsRow base t 8 (.slice (some ⟨g, 0, none⟩) n c) n (flat OpV.vals out)) {j : Nat} (hj : j < out.length) (o : OpV) :
    ((((((((w.setCell ⟨g, j * 8, none⟩ (.int .i64 o.p)).setCell ⟨g, j * 8 + 1, none⟩ (.int .i64 o.k)).setCell ⟨g, j * 8 + 2, none⟩ (.int .i64 o.key)).setCell ⟨g, j * 8 + 3, none⟩ (.int .i64 o.arg)).setCell ⟨g, j * 8 + 4, none⟩ (.int .i64 o.res)).setCell ⟨g, j * 8 + 5, none⟩ (.int .i64 o.call)).setCell ⟨g, j * 8 + 6, none⟩ (.int .i64 o.ret)).setCell ⟨g, j * 8 + 7, none⟩ (.bool o.done)).ownsRow base t 8 (.slice (some ⟨g, 0, none⟩) n c) n (flat OpV.vals (out.set j o)) := by
  have s0 := (h.stored (j * 8 + 0) (.int .i64 o.p)).1
  have s1 := (s0.stored (j * 8 + 1) (.int .i64 o.k)).1
  have s2 := (s1.stored (j * 8 + 2) (.int .i64 o.key)).1
  have s3 := (s2.stored (j * 8 + 3) (.int .i64 o.arg)).1
  have s4 := (s3.stored (j * 8 + 4) (.int .i64 o.res)).1
  have s5 := (s4.stored (j * 8 + 5) (.int .i64 o.call)).1
  have s6 := (s5.stored (j * 8 + 6) (.int .i64 o.ret)).1
  have s7 := (s6.stored (j * 8 + 7) (.bool o.done)).1
  have step : ∀ (l : List OpV) (m : Nat) (u : Value) (a : OpV), l.length = out.length → m < 8 → a.vals = (nth l j).vals.set m u → (flat OpV.vals l).set (j * 8 + m) u = flat OpV.vals (l.set j a) := fun l m u a hl hm ha =>
    flat_set OpV.wide l j m u a (by omega) hm (by rw [← nth_eq (by omega)]; exact ha)
  have q0 := step out 0 (.int .i64 o.p) { nth out j with p := o.p } rfl (by omega) rfl
  have q1 := step _ 1 (.int .i64 o.k) { nth out j with p := o.p, k := o.k } (by simp : (out.set j { nth out j with p := o.p }).length = out.length) (by omega) (by rw [nth_set_same hj]; rfl)
  have q2 := step _ 2 (.int .i64 o.key) { nth out j with p := o.p, k := o.k, key := o.key } (by simp : (out.set j { nth out j with p := o.p, k := o.k }).length = out.length) (by omega) (by rw [nth_set_same hj]; rfl)
  have q3 := step _ 3 (.int .i64 o.arg) { nth out j with p := o.p, k := o.k, key := o.key, arg := o.arg } (by simp : (out.set j { nth out j with p := o.p, k := o.k, key := o.key }).length = out.length) (by omega) (by rw [nth_set_same hj]; rfl)
  have q4 := step _ 4 (.int .i64 o.res) { nth out j with p := o.p, k := o.k, key := o.key, arg := o.arg, res := o.res } (by simp : (out.set j { nth out j with p := o.p, k := o.k, key := o.key, arg := o.arg }).length = out.length) (by omega) (by rw [nth_set_same hj]; rfl)
  have q5 := step _ 5 (.int .i64 o.call) { nth out j with p := o.p, k := o.k, key := o.key, arg := o.arg, res := o.res, call := o.call } (by simp : (out.set j { nth out j with p := o.p, k := o.k, key := o.key, arg := o.arg, res := o.res }).length = out.length) (by omega) (by rw [nth_set_same hj]; rfl)
  have q6 := step _ 6 (.int .i64 o.ret) { nth out j with p := o.p, k := o.k, key := o.key, arg := o.arg, res := o.res, call := o.call, ret := o.ret } (by simp : (out.set j { nth out j with p := o.p, k := o.k, key := o.key, arg := o.arg, res := o.res, call := o.call }).length = out.length) (by omega) (by rw [nth_set_same hj]; rfl)
  have q7 := step _ 7 (.bool o.done) o (by simp : (out.set j { nth out j with p := o.p, k := o.k, key := o.key, arg := o.arg, res := o.res, call := o.call, ret := o.ret }).length = out.length) (by omega) (by rw [nth_set_same hj]; rfl)
  rw [q0, q1, List.set_set, q2, List.set_set, q3, List.set_set, q4, List.set_set, q5, List.set_set, q6, List.set_set, q7, List.set_set] at s7
  simpa using s7

/-- what the loop of a generator holds: the operations, the keys written, the open calls, the latest values -/
structure GW (wa w : World) (out : List OpV) (ws opn lat : List Int) (A1 : Option Addr) (c1 : Nat) (A2 : Option Addr) (c2 : Nat) : Prop where
  out : w.ownsRow (wa.heap.size + 2) 33 8 (.slice A1 out.length c1) out.length (flat OpV.vals out)
  ws : w.ownsRow (wa.heap.size + 2) 3 1 (.slice A2 ws.length c2) ws.length (flat intv ws)
  opn : Blk w wa.heap.size 3 (flat intv opn)
  lat : Blk w (wa.heap.size + 1) 3 (flat intv lat)
  bel : Below wa.heap.size wa w
  sz : wa.heap.size + 2 ≤ w.heap.size
section
variable {wa w w' : World} {out : List OpV} {ws opn lat : List Int} {A1 A2 : Option Addr} {c1 c2 : Nat}
theorem GW.below (h : GW wa w out ws opn lat A1 c1 A2 c2) (hb : Below w.heap.size w w') : GW wa w' out ws opn lat A1 c1 A2 c2 :=
  ⟨own_below h.out hb, own_below h.ws hb, h.opn.below hb (by have := h.sz; omega), h.lat.below hb (by have := h.sz; omega), h.bel.trans (hb.mono (by have := h.sz; omega)), by have := h.sz; have := hb.size; omega⟩
theorem GW.setLat (h : GW wa w out ws opn lat A1 c1 A2 c2) (i : Nat) (x : Int) : GW wa (w.setCell ⟨wa.heap.size + 1, i, none⟩ (.int .i64 x)) out ws opn (lat.set i x) A1 c1 A2 c2 :=
  ⟨own_low h.out (by simp) _, own_low h.ws (by simp) _, h.opn.far (by simp) _, h.lat.setInt i x, h.bel.setCell (by simp) _, by simpa using h.sz⟩
theorem GW.setOpn (h : GW wa w out ws opn lat A1 c1 A2 c2) (i : Nat) (x : Int) : GW wa (w.setCell ⟨wa.heap.size, i, none⟩ (.int .i64 x)) out ws (opn.set i x) lat A1 c1 A2 c2 :=
  ⟨own_low h.out (by simp) _, own_low h.ws (by simp) _, h.opn.setInt i x, h.lat.far (by simp) _, h.bel.setCell (by simp) _, by simpa using h.sz⟩
theorem GW.appWs (h : GW wa w out ws opn lat A1 c1 A2 c2) {x : Int} {A3 : Option Addr} {c3 : Nat} (ho : w'.ownsRow (wa.heap.size + 2) 3 1 (.slice A3 (ws.length + 1) c3) (ws.length + 1) (flat intv ws ++ [.int .i64 x])) (hb : Below (wa.heap.size + 2) w w') (hg : w.grownBy w' (Value.slice A2 ws.length c2).ownBlock) :
    GW wa w' out (ws ++ [x]) opn lat A1 c1 A3 c3 :=
  ⟨h.out.kept hg (own_own_ne h.out h.ws (by decide)), by rw [List.length_append, flat_append, flat_one]; simpa [intv] using ho, h.opn.below hb (by omega), h.lat.below hb (by omega), h.bel.trans (hb.mono (by omega)), by have := h.sz; have := hb.size; omega⟩
theorem GW.appOut (h : GW wa w out ws opn lat A1 c1 A2 c2) {o : OpV} {A3 : Option Addr} {c3 : Nat} (ho : w'.ownsRow (wa.heap.size + 2) 33 8 (.slice A3 (out.length + 1) c3) (out.length + 1) (flat OpV.vals out ++ o.vals)) (hb : Below (wa.heap.size + 2) w w') (hg : w.grownBy w' (Value.slice A1 out.length c1).ownBlock) :
    GW wa w' (out ++ [o]) ws opn lat A3 c3 A2 c2 :=
  ⟨by rw [List.length_append, flat_append, flat_one]; simpa using ho, h.ws.kept hg (own_own_ne h.ws h.out (by decide)), h.opn.below hb (by omega), h.lat.below hb (by omega), h.bel.trans (hb.mono (by omega)), by have := h.sz; have := hb.size; omega⟩
theorem GW.putOp {g : Nat} (h : GW wa w out ws opn lat (some ⟨g, 0, none⟩) c1 A2 c2) (hgb : wa.heap.size + 2 ≤ g) {j : Nat} (hj : j < out.length) (o : OpV) :
    GW wa ((((((((w.setCell ⟨g, j * 8, none⟩ (.int .i64 o.p)).setCell ⟨g, j * 8 + 1, none⟩ (.int .i64 o.k)).setCell ⟨g, j * 8 + 2, none⟩ (.int .i64 o.key)).setCell ⟨g, j * 8 + 3, none⟩ (.int .i64 o.arg)).setCell ⟨g, j * 8 + 4, none⟩ (.int .i64 o.res)).setCell ⟨g, j * 8 + 5, none⟩ (.int .i64 o.call)).setCell ⟨g, j * 8 + 6, none⟩ (.int .i64 o.ret)).setCell ⟨g, j * 8 + 7, none⟩ (.bool o.done)) (out.set j o) ws opn lat (some ⟨g, 0, none⟩) c1 A2 c2 := by
  have hne : some g ≠ (Value.slice A2 ws.length c2).ownBlock := by
    rcases own_own_ne h.ws h.out (by decide) with e | e
    · rw [e]; simp
    · exact fun e2 => e (by rw [← e2]; rfl)
  refine ⟨?_, ?_, ?_, ?_, ?_, by simpa using h.sz⟩
  · have := own_setOp h.out hj o
    rwa [List.length_set]
  · exact ownsRow_setCell_far (ownsRow_setCell_far (ownsRow_setCell_far (ownsRow_setCell_far (ownsRow_setCell_far (ownsRow_setCell_far (ownsRow_setCell_far (ownsRow_setCell_far h.ws hne _) hne _) hne _) hne _) hne _) hne _) hne _) hne _
  · have e : wa.heap.size ≠ g := by omega
    exact (((((((h.opn.far (p := ⟨g, _, none⟩) e _).far (p := ⟨g, _, none⟩) e _).far (p := ⟨g, _, none⟩) e _).far (p := ⟨g, _, none⟩) e _).far (p := ⟨g, _, none⟩) e _).far (p := ⟨g, _, none⟩) e _).far (p := ⟨g, _, none⟩) e _).far (p := ⟨g, _, none⟩) e _
  · have e : wa.heap.size + 1 ≠ g := by omega
    exact (((((((h.lat.far (p := ⟨g, _, none⟩) e _).far (p := ⟨g, _, none⟩) e _).far (p := ⟨g, _, none⟩) e _).far (p := ⟨g, _, none⟩) e _).far (p := ⟨g, _, none⟩) e _).far (p := ⟨g, _, none⟩) e _).far (p := ⟨g, _, none⟩) e _).far (p := ⟨g, _, none⟩) e _
  · have e : wa.heap.size ≤ g := by omega
    exact (((((((h.bel.setCell (p := ⟨g, _, none⟩) e _).setCell (p := ⟨g, _, none⟩) e _).setCell (p := ⟨g, _, none⟩) e _).setCell (p := ⟨g, _, none⟩) e _).setCell (p := ⟨g, _, none⟩) e _).setCell (p := ⟨g, _, none⟩) e _).setCell (p := ⟨g, _, none⟩) e _).setCell (p := ⟨g, _, none⟩) e _
/-- the cells of the operation that is replaced -/
theorem GW.cells {g : Nat} (h : GW wa w out ws opn lat (some ⟨g, 0, none⟩) c1 A2 c2) {j : Nat} (hj : j < out.length) :
    (w.cell? ⟨g, j * 8, none⟩ = some (.int .i64 (nth out j).p) ∧ w.cell? ⟨g, j * 8 + 1, none⟩ = some (.int .i64 (nth out j).k) ∧ w.cell? ⟨g, j * 8 + 2, none⟩ = some (.int .i64 (nth out j).key) ∧ w.cell? ⟨g, j * 8 + 3, none⟩ = some (.int .i64 (nth out j).arg) ∧
     w.cell? ⟨g, j * 8 + 4, none⟩ = some (.int .i64 (nth out j).res) ∧ w.cell? ⟨g, j * 8 + 5, none⟩ = some (.int .i64 (nth out j).call) ∧ w.cell? ⟨g, j * 8 + 6, none⟩ = some (.int .i64 (nth out j).ret) ∧ w.cell? ⟨g, j * 8 + 7, none⟩ = some (.bool (nth out j).done)) ∧
    (w.frozen? ⟨g, j * 8, none⟩ = false ∧ w.frozen? ⟨g, j * 8 + 1, none⟩ = false ∧ w.frozen? ⟨g, j * 8 + 2, none⟩ = false ∧ w.frozen? ⟨g, j * 8 + 3, none⟩ = false ∧ w.frozen? ⟨g, j * 8 + 4, none⟩ = false ∧ w.frozen? ⟨g, j * 8 + 5, none⟩ = false ∧ w.frozen? ⟨g, j * 8 + 6, none⟩ = false ∧ w.frozen? ⟨g, j * 8 + 7, none⟩ = false) := by
  have hs := (Sl.of_own h.out rfl).op' hj
  simp only [Nat.zero_add] at hs
  exact ⟨hs, h.out.frozenAt _, h.out.frozenAt _, h.out.frozenAt _, h.out.frozenAt _, h.out.frozenAt _, h.out.frozenAt _, h.out.frozenAt _, h.out.frozenAt _⟩
end
end Go.Proofs.Ythijndjgchbeoaa
