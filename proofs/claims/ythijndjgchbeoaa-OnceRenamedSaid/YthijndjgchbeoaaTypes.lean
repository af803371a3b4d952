/-
  The types of histories as values: operations, observations, requests, integers; what '==' says of them; the facts that append wants.
-/
import Derived.Test.YthijndjgchbeoaaBase
import Derived.Test.YthijndjgchbeoaaProg
import Derived.KernelRfl
namespace Go.Proofs.Ythijndjgchbeoaa
set_option linter.unusedVariables false
open Go.RowKit

structure OpV where
  p : Int
  k : Int
  key : Int
  arg : Int
  res : Int
  call : Int
  ret : Int
  done : Bool
  deriving DecidableEq, Inhabited
def OpV.vals (o : OpV) : List Value := [.int .i64 o.p, .int .i64 o.k, .int .i64 o.key, .int .i64 o.arg, .int .i64 o.res, .int .i64 o.call, .int .i64 o.ret, .bool o.done]
theorem OpV.wide : Wide 8 OpV.vals := fun _ => rfl
theorem OpV.one (o : OpV) : ∀ u ∈ o.vals, u.oneCell' = true := by intro u hu; simp [OpV.vals] at hu; rcases hu with rfl | rfl | rfl | rfl | rfl | rfl | rfl | rfl <;> rfl

structure ObsV where
  reply : Bool
  req : Int
  node : Int
  epoch : Int
  value : Int
  deriving DecidableEq, Inhabited
def ObsV.vals (o : ObsV) : List Value := [.bool o.reply, .int .i64 o.req, .int .i64 o.node, .int .i64 o.epoch, .int .i64 o.value]
theorem ObsV.wide : Wide 5 ObsV.vals := fun _ => rfl
theorem ObsV.one (o : ObsV) : ∀ u ∈ o.vals, u.oneCell' = true := by intro u hu; simp [ObsV.vals] at hu; rcases hu with rfl | rfl | rfl | rfl | rfl <;> rfl

structure ReqV where
  node : Int
  op : Int
  key : Int
  arg : Int
  deriving DecidableEq, Inhabited
def ReqV.vals (o : ReqV) : List Value := [.int .i64 o.node, .int .i64 o.op, .int .i64 o.key, .int .i64 o.arg]
theorem ReqV.wide : Wide 4 ReqV.vals := fun _ => rfl
theorem ReqV.one (o : ReqV) : ∀ u ∈ o.vals, u.oneCell' = true := by intro u hu; simp [ReqV.vals] at hu; rcases hu with rfl | rfl | rfl | rfl <;> rfl

def intv (x : Int) : List Value := [.int .i64 x]
theorem intv_wide : Wide 1 intv := fun _ => rfl
theorem intv_one (x : Int) : ∀ u ∈ intv x, u.oneCell' = true := by intro u hu; simp [intv] at hu; subst hu; rfl

section
variable {w : World} {B : Nat} {A : Option Addr}
theorem Sl.op {l : List OpV} (h : Sl OpV.vals w B A l) {i : Nat} (hi : i < l.length) : ∃ b off, A = some ⟨b, off, none⟩ ∧ b < B ∧
    w.cell? ⟨b, off + i * 8, none⟩ = some (.int .i64 (nth l i).p) ∧ w.cell? ⟨b, off + i * 8 + 1, none⟩ = some (.int .i64 (nth l i).k) ∧ w.cell? ⟨b, off + i * 8 + 2, none⟩ = some (.int .i64 (nth l i).key) ∧
    w.cell? ⟨b, off + i * 8 + 3, none⟩ = some (.int .i64 (nth l i).arg) ∧ w.cell? ⟨b, off + i * 8 + 4, none⟩ = some (.int .i64 (nth l i).res) ∧ w.cell? ⟨b, off + i * 8 + 5, none⟩ = some (.int .i64 (nth l i).call) ∧
    w.cell? ⟨b, off + i * 8 + 6, none⟩ = some (.int .i64 (nth l i).ret) ∧ w.cell? ⟨b, off + i * 8 + 7, none⟩ = some (.bool (nth l i).done) := by
  obtain ⟨b, off, ha, hb, hc⟩ := h.get OpV.wide hi
  rw [← nth_eq hi] at hc
  exact ⟨b, off, ha, hb, hc 0 _ (by omega) rfl, hc 1 _ (by omega) rfl, hc 2 _ (by omega) rfl, hc 3 _ (by omega) rfl, hc 4 _ (by omega) rfl, hc 5 _ (by omega) rfl, hc 6 _ (by omega) rfl, hc 7 _ (by omega) rfl⟩
theorem Sl.obs {l : List ObsV} (h : Sl ObsV.vals w B A l) {i : Nat} (hi : i < l.length) : ∃ b off, A = some ⟨b, off, none⟩ ∧ b < B ∧
    w.cell? ⟨b, off + i * 5, none⟩ = some (.bool (nth l i).reply) ∧ w.cell? ⟨b, off + i * 5 + 1, none⟩ = some (.int .i64 (nth l i).req) ∧ w.cell? ⟨b, off + i * 5 + 2, none⟩ = some (.int .i64 (nth l i).node) ∧
    w.cell? ⟨b, off + i * 5 + 3, none⟩ = some (.int .i64 (nth l i).epoch) ∧ w.cell? ⟨b, off + i * 5 + 4, none⟩ = some (.int .i64 (nth l i).value) := by
  obtain ⟨b, off, ha, hb, hc⟩ := h.get ObsV.wide hi
  rw [← nth_eq hi] at hc
  exact ⟨b, off, ha, hb, hc 0 _ (by omega) rfl, hc 1 _ (by omega) rfl, hc 2 _ (by omega) rfl, hc 3 _ (by omega) rfl, hc 4 _ (by omega) rfl⟩
theorem Sl.req {l : List ReqV} (h : Sl ReqV.vals w B A l) {i : Nat} (hi : i < l.length) : ∃ b off, A = some ⟨b, off, none⟩ ∧ b < B ∧
    w.cell? ⟨b, off + i * 4, none⟩ = some (.int .i64 (nth l i).node) ∧ w.cell? ⟨b, off + i * 4 + 1, none⟩ = some (.int .i64 (nth l i).op) ∧ w.cell? ⟨b, off + i * 4 + 2, none⟩ = some (.int .i64 (nth l i).key) ∧
    w.cell? ⟨b, off + i * 4 + 3, none⟩ = some (.int .i64 (nth l i).arg) := by
  obtain ⟨b, off, ha, hb, hc⟩ := h.get ReqV.wide hi
  rw [← nth_eq hi] at hc
  exact ⟨b, off, ha, hb, hc 0 _ (by omega) rfl, hc 1 _ (by omega) rfl, hc 2 _ (by omega) rfl, hc 3 _ (by omega) rfl⟩
theorem Sl.int {l : List Int} (h : Sl intv w B A l) {i : Nat} (hi : i < l.length) : ∃ b off, A = some ⟨b, off, none⟩ ∧ b < B ∧ w.cell? ⟨b, off + i, none⟩ = some (.int .i64 (nth l i)) := by
  obtain ⟨b, off, ha, hb, hc⟩ := h.get intv_wide hi
  rw [← nth_eq hi] at hc
  exact ⟨b, off, ha, hb, by have := hc 0 _ (by omega) rfl; simpa using this⟩
theorem Sl.op' {b off : Nat} {l : List OpV} (h : Sl OpV.vals w B (some ⟨b, off, none⟩) l) {i : Nat} (hi : i < l.length) :
    w.cell? ⟨b, off + i * 8, none⟩ = some (.int .i64 (nth l i).p) ∧ w.cell? ⟨b, off + i * 8 + 1, none⟩ = some (.int .i64 (nth l i).k) ∧ w.cell? ⟨b, off + i * 8 + 2, none⟩ = some (.int .i64 (nth l i).key) ∧
    w.cell? ⟨b, off + i * 8 + 3, none⟩ = some (.int .i64 (nth l i).arg) ∧ w.cell? ⟨b, off + i * 8 + 4, none⟩ = some (.int .i64 (nth l i).res) ∧ w.cell? ⟨b, off + i * 8 + 5, none⟩ = some (.int .i64 (nth l i).call) ∧
    w.cell? ⟨b, off + i * 8 + 6, none⟩ = some (.int .i64 (nth l i).ret) ∧ w.cell? ⟨b, off + i * 8 + 7, none⟩ = some (.bool (nth l i).done) := by
  obtain ⟨b', off', ha, _, hc⟩ := h.op hi
  injection ha with ha; injection ha with h1 h2; subst h1; subst h2
  exact hc
theorem Sl.obs' {b off : Nat} {l : List ObsV} (h : Sl ObsV.vals w B (some ⟨b, off, none⟩) l) {i : Nat} (hi : i < l.length) :
    w.cell? ⟨b, off + i * 5, none⟩ = some (.bool (nth l i).reply) ∧ w.cell? ⟨b, off + i * 5 + 1, none⟩ = some (.int .i64 (nth l i).req) ∧ w.cell? ⟨b, off + i * 5 + 2, none⟩ = some (.int .i64 (nth l i).node) ∧
    w.cell? ⟨b, off + i * 5 + 3, none⟩ = some (.int .i64 (nth l i).epoch) ∧ w.cell? ⟨b, off + i * 5 + 4, none⟩ = some (.int .i64 (nth l i).value) := by
  obtain ⟨b', off', ha, _, hc⟩ := h.obs hi
  injection ha with ha; injection ha with h1 h2; subst h1; subst h2
  exact hc
theorem Sl.req' {b off : Nat} {l : List ReqV} (h : Sl ReqV.vals w B (some ⟨b, off, none⟩) l) {i : Nat} (hi : i < l.length) :
    w.cell? ⟨b, off + i * 4, none⟩ = some (.int .i64 (nth l i).node) ∧ w.cell? ⟨b, off + i * 4 + 1, none⟩ = some (.int .i64 (nth l i).op) ∧ w.cell? ⟨b, off + i * 4 + 2, none⟩ = some (.int .i64 (nth l i).key) ∧
    w.cell? ⟨b, off + i * 4 + 3, none⟩ = some (.int .i64 (nth l i).arg) := by
  obtain ⟨b', off', ha, _, hc⟩ := h.req hi
  injection ha with ha; injection ha with h1 h2; subst h1; subst h2
  exact hc
theorem Sl.int' {b off : Nat} {l : List Int} (h : Sl intv w B (some ⟨b, off, none⟩) l) {i : Nat} (hi : i < l.length) :
    w.cell? ⟨b, off + i, none⟩ = some (.int .i64 (nth l i)) := by
  obtain ⟨b', off', ha, _, hc⟩ := h.int hi
  injection ha with ha; injection ha with h1 h2; subst h1; subst h2
  exact hc
end

theorem flat_intv (l : List Int) : flat intv l = l.map (Value.int .i64) := by
  induction l with
  | nil => rfl
  | cons a l ih => simp only [flat, List.flatMap_cons, intv, List.map_cons, List.cons_append, List.nil_append] at *; rw [ih]
theorem Blk.setInt {w : World} {g : Nat} {t : TypeId} {l : List Int} (h : Blk w g t (flat intv l)) (i : Nat) (x : Int) : Blk (w.setCell ⟨g, i, none⟩ (.int .i64 x)) g t (flat intv (l.set i x)) := by
  have := h.set_ i (.int .i64 x)
  rw [flat_intv] at *
  rw [List.map_set]
  exact this

theorem Blk.op {w : World} {g : Nat} {t : TypeId} {o : OpV} (h : Blk w g t o.vals) : w.cell? ⟨g, 0, none⟩ = some (.int .i64 o.p) ∧ w.cell? ⟨g, 1, none⟩ = some (.int .i64 o.k) ∧ w.cell? ⟨g, 2, none⟩ = some (.int .i64 o.key) ∧
    w.cell? ⟨g, 3, none⟩ = some (.int .i64 o.arg) ∧ w.cell? ⟨g, 4, none⟩ = some (.int .i64 o.res) ∧ w.cell? ⟨g, 5, none⟩ = some (.int .i64 o.call) ∧ w.cell? ⟨g, 6, none⟩ = some (.int .i64 o.ret) ∧ w.cell? ⟨g, 7, none⟩ = some (.bool o.done) :=
  ⟨h.cell 0, h.cell 1, h.cell 2, h.cell 3, h.cell 4, h.cell 5, h.cell 6, h.cell 7⟩

theorem Blk.obs {w : World} {g : Nat} {t : TypeId} {o : ObsV} (h : Blk w g t o.vals) : w.cell? ⟨g, 0, none⟩ = some (.bool o.reply) ∧ w.cell? ⟨g, 1, none⟩ = some (.int .i64 o.req) ∧ w.cell? ⟨g, 2, none⟩ = some (.int .i64 o.node) ∧
    w.cell? ⟨g, 3, none⟩ = some (.int .i64 o.epoch) ∧ w.cell? ⟨g, 4, none⟩ = some (.int .i64 o.value) := ⟨h.cell 0, h.cell 1, h.cell 2, h.cell 3, h.cell 4⟩
theorem Blk.req {w : World} {g : Nat} {t : TypeId} {o : ReqV} (h : Blk w g t o.vals) : w.cell? ⟨g, 0, none⟩ = some (.int .i64 o.node) ∧ w.cell? ⟨g, 1, none⟩ = some (.int .i64 o.op) ∧ w.cell? ⟨g, 2, none⟩ = some (.int .i64 o.key) ∧
    w.cell? ⟨g, 3, none⟩ = some (.int .i64 o.arg) := ⟨h.cell 0, h.cell 1, h.cell 2, h.cell 3⟩

theorem slOp : SliceT Try.prog 28 33 8 64 := ⟨Try.underlying28, by
  obtain ⟨i, h0, h1, h2, h3⟩ := info_parts (P := Try.prog) (e := 33) (z := .agg #[.int .i64 0, .int .i64 0, .int .i64 0, .int .i64 0, .int .i64 0, .int .i64 0, .int .i64 0, .bool false]) (size := 8) (bytes := 64) (by kernel_rfl)
  exact ⟨i, _, h0, h1, h2, h3, rfl⟩, by omega⟩
theorem slObs : SliceT Try.prog 23 35 5 40 := ⟨Try.underlying23, by
  obtain ⟨i, h0, h1, h2, h3⟩ := info_parts (P := Try.prog) (e := 35) (z := .agg #[.bool false, .int .i64 0, .int .i64 0, .int .i64 0, .int .i64 0]) (size := 5) (bytes := 40) (by kernel_rfl)
  exact ⟨i, _, h0, h1, h2, h3, rfl⟩, by omega⟩
theorem slReq : SliceT Try.prog 24 37 4 32 := ⟨Try.underlying24, by
  obtain ⟨i, h0, h1, h2, h3⟩ := info_parts (P := Try.prog) (e := 37) (z := .agg #[.int .i64 0, .int .i64 0, .int .i64 0, .int .i64 0]) (size := 4) (bytes := 32) (by kernel_rfl)
  exact ⟨i, _, h0, h1, h2, h3, rfl⟩, by omega⟩
theorem slInt : SliceT Try.prog 22 3 1 8 := ⟨Try.underlying22, by
  obtain ⟨i, h0, h1, h2, h3⟩ := info_parts (P := Try.prog) (e := 3) (z := .int .i64 0) (size := 1) (bytes := 8) (by kernel_rfl)
  exact ⟨i, _, h0, h1, h2, h3, rfl⟩, by omega⟩

/-- '==' of two operations, closed to the walk. -/
def opEq (x y : OpV) : Bool := decide (x = y)
theorem opEq_true {x y : OpV} : opEq x y = true ↔ x = y := by simp [opEq]
theorem opEq_false {x y : OpV} : opEq x y = false ↔ x ≠ y := by simp [opEq]
@[go_sem] theorem OpV.eta (x : OpV) : (⟨x.p, x.k, x.key, x.arg, x.res, x.call, x.ret, x.done⟩ : OpV) = x := rfl
@[go_sem ↓] theorem eqIn_op (w : World) (a1 a2 a3 a4 a5 a6 a7 b1 b2 b3 b4 b5 b6 b7 : Int) (a8 b8 : Bool) : (Op.equalIn 10000 33 (.agg #[.int .i64 a1, .int .i64 a2, .int .i64 a3, .int .i64 a4, .int .i64 a5, .int .i64 a6, .int .i64 a7, .bool a8])
    (.agg #[.int .i64 b1, .int .i64 b2, .int .i64 b3, .int .i64 b4, .int .i64 b5, .int .i64 b6, .int .i64 b7, .bool b8])).run Try.prog w = .ok (opEq ⟨a1, a2, a3, a4, a5, a6, a7, a8⟩ ⟨b1, b2, b3, b4, b5, b6, b7, b8⟩) w := by
  unfold opEq
  have hS : Try.prog.underlying 33 = some (.struct (Try.prog.fieldsOf 33)) := by kernel_rfl
  have hp : Try.prog.stoodInHeld 33 = false := by kernel_rfl
  rw [show (10000 : Nat) = 9999 + 1 from rfl, run_equalIn_agg w 9999 33 _ _ hS hp]
  simp only [Program.fieldsOf, Try.underlying33]
  simp [go_sem]
  by_cases h1 : a1 = b1
  · by_cases h2 : a2 = b2
    · by_cases h3 : a3 = b3
      · by_cases h4 : a4 = b4
        · by_cases h5 : a5 = b5
          · by_cases h6 : a6 = b6
            · by_cases h7 : a7 = b7
              · by_cases h8 : a8 = b8 <;> simp [h1, h2, h3, h4, h5, h6, h7, h8]
              · simp [h1, h2, h3, h4, h5, h6, h7]
            · simp [h1, h2, h3, h4, h5, h6]
          · simp [h1, h2, h3, h4, h5]
        · simp [h1, h2, h3, h4]
      · simp [h1, h2, h3]
    · simp [h1, h2]
  · simp [h1]
def obsEq (x y : ObsV) : Bool := decide (x = y)
theorem obsEq_true {x y : ObsV} : obsEq x y = true ↔ x = y := by simp [obsEq]
@[go_sem] theorem ObsV.eta (x : ObsV) : (⟨x.reply, x.req, x.node, x.epoch, x.value⟩ : ObsV) = x := rfl
@[go_sem ↓] theorem eqIn_obs (w : World) (a2 a3 a4 a5 b2 b3 b4 b5 : Int) (a1 b1 : Bool) : (Op.equalIn 10000 35 (.agg #[.bool a1, .int .i64 a2, .int .i64 a3, .int .i64 a4, .int .i64 a5]) (.agg #[.bool b1, .int .i64 b2, .int .i64 b3, .int .i64 b4, .int .i64 b5])).run Try.prog w = .ok (obsEq ⟨a1, a2, a3, a4, a5⟩ ⟨b1, b2, b3, b4, b5⟩) w := by
  unfold obsEq
  have hS : Try.prog.underlying 35 = some (.struct (Try.prog.fieldsOf 35)) := by kernel_rfl
  have hp : Try.prog.stoodInHeld 35 = false := by kernel_rfl
  rw [show (10000 : Nat) = 9999 + 1 from rfl, run_equalIn_agg w 9999 35 _ _ hS hp]
  simp only [Program.fieldsOf, Try.underlying35]
  simp [go_sem]
  by_cases h1 : a1 = b1
  · skip
    by_cases h2 : a2 = b2
    · skip
      by_cases h3 : a3 = b3
      · skip
        by_cases h4 : a4 = b4
        · skip
          by_cases h5 : a5 = b5 <;> simp [h1, h2, h3, h4, h5]
        · simp [h1, h2, h3, h4]
      · simp [h1, h2, h3]
    · simp [h1, h2]
  · simp [h1]
def reqEq (x y : ReqV) : Bool := decide (x = y)
theorem reqEq_true {x y : ReqV} : reqEq x y = true ↔ x = y := by simp [reqEq]
@[go_sem] theorem ReqV.eta (x : ReqV) : (⟨x.node, x.op, x.key, x.arg⟩ : ReqV) = x := rfl
@[go_sem ↓] theorem eqIn_req (w : World) (a1 a2 a3 a4 b1 b2 b3 b4 : Int) : (Op.equalIn 10000 37 (.agg #[.int .i64 a1, .int .i64 a2, .int .i64 a3, .int .i64 a4]) (.agg #[.int .i64 b1, .int .i64 b2, .int .i64 b3, .int .i64 b4])).run Try.prog w = .ok (reqEq ⟨a1, a2, a3, a4⟩ ⟨b1, b2, b3, b4⟩) w := by
  unfold reqEq
  have hS : Try.prog.underlying 37 = some (.struct (Try.prog.fieldsOf 37)) := by kernel_rfl
  have hp : Try.prog.stoodInHeld 37 = false := by kernel_rfl
  rw [show (10000 : Nat) = 9999 + 1 from rfl, run_equalIn_agg w 9999 37 _ _ hS hp]
  simp only [Program.fieldsOf, Try.underlying37]
  simp [go_sem]
  by_cases h1 : a1 = b1
  · skip
    by_cases h2 : a2 = b2
    · skip
      by_cases h3 : a3 = b3
      · skip
        by_cases h4 : a4 = b4 <;> simp [h1, h2, h3, h4]
      · simp [h1, h2, h3]
    · simp [h1, h2]
  · simp [h1]
end Go.Proofs.Ythijndjgchbeoaa
