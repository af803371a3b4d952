/-
  Some texts as one: Types, Maps, HCheck, FmT, FmO, ShelfI, FmSort, CheckBase, Around, FmHist0.
-/
import Derived.Test.YthjplkjpehdpfaaZA
import Derived.Test.YthjplkjpehdpfaaProg
import Derived.KernelRfl
import Derived.Maps.OwnSet
import Derived.DeepKeys4
import Derived.Deep.RegionHeld3
import Derived.Deep.DrawnRows
import Derived.Deep.DeepCutAuto
import Derived.Test.YthjplkjpehdpfaaZBxxx
import Derived.Test.YthjplkjpehdpfaaZC
import Derived.Test.YthjplkjpehdpfaaChecked
import Derived.Shelf.Sort.Plain
import Derived.Shelf.Slices.CompactI
/-
 The types of histories as values: operations, observations, requests, integers; what '==' says of them; the facts that append wants.
-/
namespace Go.Proofs.Ythjplkjpehdpfaa
set_option linter.unusedVariables false
open Go.RowKit

structure OpV where
 p : Int
 k : Int
 key : Int
 arg : Int
 res : Int
 call : Int
 ret : Int
 done : Bool
 deriving DecidableEq, Inhabited
def OpV.vals (o : OpV) : List Value := [.int .i64 o.p, .int .i64 o.k, .int .i64 o.key, .int .i64 o.arg, .int .i64 o.res, .int .i64 o.call, .int .i64 o.ret, .bool o.done]
theorem OpV.wide : zgh 8 OpV.vals := fun _ => rfl
theorem OpV.one (o : OpV) : ∀ u ∈ o.vals, u.oneCell' = true := by intro u hu; simp [OpV.vals] at hu; rcases hu with rfl | rfl | rfl | rfl | rfl | rfl | rfl | rfl <;> rfl

structure zfO where
 reply : Bool
 req : Int
 node : Int
 epoch : Int
 value : Int
 deriving DecidableEq, Inhabited
def zfO.vals (o : zfO) : List Value := [.bool o.reply, .int .i64 o.req, .int .i64 o.node, .int .i64 o.epoch, .int .i64 o.value]
theorem zfO.wide : zgh 5 zfO.vals := fun _ => rfl
theorem zfO.one (o : zfO) : ∀ u ∈ o.vals, u.oneCell' = true := by intro u hu; simp [zfO.vals] at hu; rcases hu with rfl | rfl | rfl | rfl | rfl <;> rfl

structure zdo where
 node : Int
 op : Int
 key : Int
 arg : Int
 deriving DecidableEq, Inhabited
def zdo.vals (o : zdo) : List Value := [.int .i64 o.node, .int .i64 o.op, .int .i64 o.key, .int .i64 o.arg]
theorem zdo.wide : zgh 4 zdo.vals := fun _ => rfl
theorem zdo.one (o : zdo) : ∀ u ∈ o.vals, u.oneCell' = true := by intro u hu; simp [zdo.vals] at hu; rcases hu with rfl | rfl | rfl | rfl <;> rfl

def zfA (x : Int) : List Value := [.int .i64 x]
theorem zdM : zgh 1 zfA := fun _ => rfl
section
variable {w : World} {B : Nat} {A : Option Addr}
theorem Sl.op {l : List OpV} (h : Sl OpV.vals w B A l) {i : Nat} (hi : i < l.length) : ∃ b off, A = some ⟨b, off, none⟩ ∧ b < B ∧
  w.cell? ⟨b, off + i * 8, none⟩ = some (.int .i64 (nth l i).p) ∧ w.cell? ⟨b, off + i * 8 + 1, none⟩ = some (.int .i64 (nth l i).k) ∧ w.cell? ⟨b, off + i * 8 + 2, none⟩ = some (.int .i64 (nth l i).key) ∧
  w.cell? ⟨b, off + i * 8 + 3, none⟩ = some (.int .i64 (nth l i).arg) ∧ w.cell? ⟨b, off + i * 8 + 4, none⟩ = some (.int .i64 (nth l i).res) ∧ w.cell? ⟨b, off + i * 8 + 5, none⟩ = some (.int .i64 (nth l i).call) ∧
  w.cell? ⟨b, off + i * 8 + 6, none⟩ = some (.int .i64 (nth l i).ret) ∧ w.cell? ⟨b, off + i * 8 + 7, none⟩ = some (.bool (nth l i).done) := by
 obtain ⟨b, off, ha, hb, hc⟩ := h.get OpV.wide hi
 rw [← nth_eq hi] at hc
 exact ⟨b, off, ha, hb, hc 0 _ (by omega) rfl, hc 1 _ (by omega) rfl, hc 2 _ (by omega) rfl, hc 3 _ (by omega) rfl, hc 4 _ (by omega) rfl, hc 5 _ (by omega) rfl, hc 6 _ (by omega) rfl, hc 7 _ (by omega) rfl⟩
theorem Sl.req {l : List zdo} (h : Sl zdo.vals w B A l) {i : Nat} (hi : i < l.length) : ∃ b off, A = some ⟨b, off, none⟩ ∧ b < B ∧
  w.cell? ⟨b, off + i * 4, none⟩ = some (.int .i64 (nth l i).node) ∧ w.cell? ⟨b, off + i * 4 + 1, none⟩ = some (.int .i64 (nth l i).op) ∧ w.cell? ⟨b, off + i * 4 + 2, none⟩ = some (.int .i64 (nth l i).key) ∧
  w.cell? ⟨b, off + i * 4 + 3, none⟩ = some (.int .i64 (nth l i).arg) := by
 obtain ⟨b, off, ha, hb, hc⟩ := h.get zdo.wide hi
 rw [← nth_eq hi] at hc
 exact ⟨b, off, ha, hb, hc 0 _ (by omega) rfl, hc 1 _ (by omega) rfl, hc 2 _ (by omega) rfl, hc 3 _ (by omega) rfl⟩
theorem Sl.int {l : List Int} (h : Sl zfA w B A l) {i : Nat} (hi : i < l.length) : ∃ b off, A = some ⟨b, off, none⟩ ∧ b < B ∧ w.cell? ⟨b, off + i, none⟩ = some (.int .i64 (nth l i)) := by
 obtain ⟨b, off, ha, hb, hc⟩ := h.get zdM hi
 rw [← nth_eq hi] at hc
 exact ⟨b, off, ha, hb, by have := hc 0 _ (by omega) rfl; simpa using this⟩
theorem Sl.op' {b off : Nat} {l : List OpV} (h : Sl OpV.vals w B (some ⟨b, off, none⟩) l) {i : Nat} (hi : i < l.length) :
  w.cell? ⟨b, off + i * 8, none⟩ = some (.int .i64 (nth l i).p) ∧ w.cell? ⟨b, off + i * 8 + 1, none⟩ = some (.int .i64 (nth l i).k) ∧ w.cell? ⟨b, off + i * 8 + 2, none⟩ = some (.int .i64 (nth l i).key) ∧
  w.cell? ⟨b, off + i * 8 + 3, none⟩ = some (.int .i64 (nth l i).arg) ∧ w.cell? ⟨b, off + i * 8 + 4, none⟩ = some (.int .i64 (nth l i).res) ∧ w.cell? ⟨b, off + i * 8 + 5, none⟩ = some (.int .i64 (nth l i).call) ∧
  w.cell? ⟨b, off + i * 8 + 6, none⟩ = some (.int .i64 (nth l i).ret) ∧ w.cell? ⟨b, off + i * 8 + 7, none⟩ = some (.bool (nth l i).done) := by
 obtain ⟨b', off', ha, _, hc⟩ := h.op hi
 injection ha with ha; injection ha with h1 h2; subst h1; subst h2
 exact hc
end

theorem xU (l : List Int) : flat zfA l = l.map (Value.int .i64) := by
 induction l with
 | nil => rfl
 | cons a l ih => simp only [flat, List.flatMap_cons, zfA, List.map_cons, List.cons_append, List.nil_append] at *; rw [ih]
theorem Blk.op {w : World} {g : Nat} {t : TypeId} {o : OpV} (h : Blk w g t o.vals) : w.cell? ⟨g, 0, none⟩ = some (.int .i64 o.p) ∧ w.cell? ⟨g, 1, none⟩ = some (.int .i64 o.k) ∧ w.cell? ⟨g, 2, none⟩ = some (.int .i64 o.key) ∧
  w.cell? ⟨g, 3, none⟩ = some (.int .i64 o.arg) ∧ w.cell? ⟨g, 4, none⟩ = some (.int .i64 o.res) ∧ w.cell? ⟨g, 5, none⟩ = some (.int .i64 o.call) ∧ w.cell? ⟨g, 6, none⟩ = some (.int .i64 o.ret) ∧ w.cell? ⟨g, 7, none⟩ = some (.bool o.done) :=
 ⟨h.cell 0, h.cell 1, h.cell 2, h.cell 3, h.cell 4, h.cell 5, h.cell 6, h.cell 7⟩

theorem Blk.req {w : World} {g : Nat} {t : TypeId} {o : zdo} (h : Blk w g t o.vals) : w.cell? ⟨g, 0, none⟩ = some (.int .i64 o.node) ∧ w.cell? ⟨g, 1, none⟩ = some (.int .i64 o.op) ∧ w.cell? ⟨g, 2, none⟩ = some (.int .i64 o.key) ∧
  w.cell? ⟨g, 3, none⟩ = some (.int .i64 o.arg) := ⟨h.cell 0, h.cell 1, h.cell 2, h.cell 3⟩

end Go.Proofs.Ythjplkjpehdpfaa
/-
 A map of the call's own, read as a partial function on typed keys.
-/
namespace Go.Proofs.Ythjplkjpehdpfaa
set_option linter.unusedVariables false
open Go.RowKit Go.Maps Go.MapKept Go.ChangeMaps

def Vu {κ : Type} (ek : κ → Value) (ok : κ → Prop) (w : World) (b n : Nat) (f : κ → Option Value) : Prop :=
 ∃ es clock, w.heap[b]? = some (.map es clock) ∧ es.size ≤ n ∧ Stamped es clock ∧ (∀ e ∈ es.toList, ∃ x, ok x ∧ e.key = ek x) ∧ ∀ x u, f x = some u ↔ ∃ e ∈ es.toList, e.key = ek x ∧ e.val = u

section
variable {κ : Type} {ek : κ → Value} {ok : κ → Prop} {P : Program} {k : TypeId} {w w' : World} {b n : Nat} {f : κ → Option Value}
theorem Vu.lt (h : Vu ek ok w b n f) : b < w.heap.size := by
 obtain ⟨es, clock, hb, _⟩ := h
 exact (Array.getElem?_eq_some_iff.1 hb).1
theorem Vu.mono (h : Vu ek ok w b n f) {n' : Nat} (hn : n ≤ n') : Vu ek ok w b n' f := by
 obtain ⟨es, clock, hb, hs, r⟩ := h
 exact ⟨es, clock, hb, by omega, r⟩
theorem Vu.of_block (h : Vu ek ok w b n f) (hb : w'.heap[b]? = w.heap[b]?) : Vu ek ok w' b n f := by
 obtain ⟨es, clock, hh, r⟩ := h
 exact ⟨es, clock, hb.trans hh, r⟩
theorem Vu.alloc (h : Vu ek ok w b n f) (o : Obj) : Vu ek ok (w.alloc o) b n f := h.of_block (Below.heap_alloc w o b h.lt)
theorem Vu.grown {row : Option Nat} (h : Vu ek ok w b n f) (hg : w.grownBy w' row) (hr : some b ≠ row) : Vu ek ok w' b n f := h.of_block (hg.block b h.lt hr)
theorem Vu.ext (h : Vu ek ok w b n f) (hb : Below w.heap.size w w') : Vu ek ok w' b n f := h.of_block (hb.block b h.lt)
theorem Vu.below {B : Nat} (h : Vu ek ok w b n f) (hb : Below B w w') (hB : b < B) : Vu ek ok w' b n f := h.of_block (hb.block b hB)
end

end Go.Proofs.Ythjplkjpehdpfaa
/-
 history.Check: why a list of operations is not a history.
-/
namespace Go.Proofs.Ythjplkjpehdpfaa
set_option linter.unusedVariables false
open Go.RowKit
attribute [local go_sem ↓] Go.wp_at_zero Go.wp_at_succ

noncomputable def setMap (B : Int → Bool) : Int → Option Value := fun x => if B x then some (.agg #[]) else none
def wfB (o : OpV) : Bool := decide (0 ≤ o.p) && decide (0 ≤ o.k) && decide (o.k ≤ 4) && decide (0 ≤ o.call) && decide (o.call < o.ret) && (o.done || decide (o.res = 0))
def zgF (l : List OpV) (k : Nat) (x : Int) : Bool := (l.take k).any fun o => o.done && o.ret == x
def zgm (l : List OpV) (k : Nat) (x : Int) : Bool := (l.take k).any fun o => o.call == x
def Wu (l : List OpV) : Nat → Int → Option OpV
 | 0, _ => none
 | k + 1, p => if p = (nth l k).p then some (nth l k) else Wu l k p
def zgi (l : List OpV) (k : Nat) : Int :=
 if wfB (nth l k) = false then 1
 else if 0 < k ∧ (nth l k).call ≤ (nth l (k - 1)).call then 5
 else if (zgF l k (nth l k).call || (nth l k).done && (zgF l k (nth l k).ret || zgm l l.length (nth l k).ret)) = true then 4
 else if (Wu l k (nth l k).p).isSome = true ∧ (((Wu l k (nth l k).p).getD default).done = false ∨ (nth l k).call < ((Wu l k (nth l k).p).getD default).ret) then 5
 else 0
def xo (l : List OpV) (k : Nat) : Nat → Int
 | 0 => 0
 | n + 1 => if zgi l k = 0 then xo l (k + 1) n else zgi l k
def zfx (l : List OpV) : Int := if 300 < l.length then 2 else xo l 0 l.length

theorem Ut {l : List OpV} {k n : Nat} (h : zgi l k = 0) : xo l k (n + 1) = xo l (k + 1) n := by simp [xo, h]
end Go.Proofs.Ythjplkjpehdpfaa
/-
 The types of this dump, for the machine of plain values (printed by wip/fmty.py, checked by the kernel).
-/
namespace Go.Proofs.Ythjplkjpehdpfaa
set_option maxRecDepth 100000
def zgb : List (Nat × TS) := [
 (3, ⟨.int .i64, 1, 8, [.int .i64 0]⟩),
 (4, ⟨.bool, 1, 1, [.bool false]⟩),
 (1, ⟨.any, 1, 8, [.undef]⟩),
 (2, ⟨.int .i64, 1, 8, [.int .i64 0]⟩),
 (5, ⟨.int .u8, 1, 1, [.int .u8 0]⟩),
 (6, ⟨.int .u8, 1, 1, [.int .u8 0]⟩),
 (7, ⟨.strct [(0, 2), (1, 3), (2, 4), (3, 6)], 4, 24, [.int .i64 0, .int .i64 0, .bool false, .int .u8 0]⟩),
 (8, ⟨.strct [(0, 2), (1, 3), (2, 4), (3, 6)], 4, 24, [.int .i64 0, .int .i64 0, .bool false, .int .u8 0]⟩),
 (9, ⟨.str, 1, 16, [.str ByteArray.empty]⟩),
 (10, ⟨.str, 1, 16, [.str ByteArray.empty]⟩),
 (11, ⟨.str, 1, 16, [.str ByteArray.empty]⟩),
 (12, ⟨.int .u64, 1, 8, [.int .u64 0]⟩),
 (13, ⟨.strct [(0, 9), (1, 12)], 2, 24, [.str ByteArray.empty, .int .u64 0]⟩),
 (14, ⟨.strct [(0, 9), (1, 12)], 2, 24, [.str ByteArray.empty, .int .u64 0]⟩),
 (15, ⟨.any, 1, 8, [.undef]⟩),
 (16, ⟨.any, 1, 8, [.undef]⟩),
 (17, ⟨.any, 1, 8, [.undef]⟩),
 (18, ⟨.strct [(0, 17)], 1, 8, [.undef]⟩),
 (19, ⟨.strct [(0, 17)], 1, 8, [.undef]⟩),
 (20, ⟨.any, 1, 16, [.undef]⟩),
 (21, ⟨.int .i32, 1, 4, [.int .i32 0]⟩),
 (22, ⟨.slice 3, 1, 24, [.nil]⟩),
 (23, ⟨.any, 1, 8, [.undef]⟩),
 (24, ⟨.slice 34, 1, 24, [.nil]⟩),
 (25, ⟨.any, 1, 8, [.undef]⟩),
 (26, ⟨.any, 1, 8, [.undef]⟩),
 (27, ⟨.slice 22, 1, 24, [.nil]⟩),
 (28, ⟨.any, 1, 8, [.undef]⟩),
 (29, ⟨.any, 1, 8, [.undef]⟩),
 (30, ⟨.any, 1, 8, [.undef]⟩),
 (32, ⟨.any, 1, 8, [.undef]⟩),
 (33, ⟨.any, 1, 8, [.undef]⟩),
 (34, ⟨.arr 2 3, 2, 16, [.int .i64 0, .int .i64 0]⟩),
 (35, ⟨.any, 1, 8, [.undef]⟩),
 (36, ⟨.any, 1, 8, [.undef]⟩),
 (37, ⟨.any, 1, 8, [.undef]⟩),
 (38, ⟨.any, 1, 8, [.undef]⟩),
 (39, ⟨.any, 1, 8, [.undef]⟩),
 (40, ⟨.any, 1, 8, [.undef]⟩),
 (41, ⟨.int .u64, 1, 8, [.int .u64 0]⟩),
 (42, ⟨.any, 1, 8, [.undef]⟩),
 (43, ⟨.any, 1, 8, [.undef]⟩),
 (44, ⟨.slice 4, 1, 24, [.nil]⟩),
 (45, ⟨.any, 1, 8, [.undef]⟩),
 (46, ⟨.any, 1, 8, [.undef]⟩),
 (47, ⟨.any, 1, 8, [.undef]⟩),
 (48, ⟨.any, 1, 8, [.undef]⟩),
 (49, ⟨.any, 1, 8, [.undef]⟩),
 (50, ⟨.any, 1, 8, [.undef]⟩),
 (51, ⟨.any, 1, 8, [.undef]⟩),
 (52, ⟨.slice 3, 1, 24, [.nil]⟩),
 (53, ⟨.any, 1, 8, [.undef]⟩),
 (54, ⟨.any, 1, 8, [.undef]⟩),
 (55, ⟨.any, 1, 8, [.undef]⟩),
 (56, ⟨.any, 1, 8, [.undef]⟩),
 (57, ⟨.any, 1, 8, [.undef]⟩),
 (58, ⟨.any, 1, 8, [.undef]⟩),
 (59, ⟨.any, 1, 8, [.undef]⟩),
 (60, ⟨.any, 1, 8, [.undef]⟩),
 (61, ⟨.any, 1, 8, [.undef]⟩),
 (62, ⟨.any, 1, 8, [.undef]⟩),
 (63, ⟨.any, 1, 8, [.undef]⟩),
 (64, ⟨.any, 1, 8, [.undef]⟩),
 (65, ⟨.int .u64, 1, 8, [.int .u64 0]⟩),
 (66, ⟨.any, 1, 8, [.undef]⟩),
 (69, ⟨.any, 1, 8, [.undef]⟩),
 (70, ⟨.any, 1, 8, [.undef]⟩),
 (71, ⟨.any, 1, 8, [.undef]⟩),
 (72, ⟨.any, 1, 8, [.undef]⟩),
 (73, ⟨.any, 1, 8, [.undef]⟩),
 (74, ⟨.any, 1, 8, [.undef]⟩),
 (75, ⟨.any, 1, 8, [.undef]⟩),
 (76, ⟨.any, 1, 8, [.undef]⟩),
 (77, ⟨.int .i64, 1, 8, [.int .i64 0]⟩),
 (79, ⟨.any, 1, 8, [.undef]⟩),
 (80, ⟨.any, 1, 8, [.undef]⟩),
 (81, ⟨.any, 1, 8, [.undef]⟩),
 (82, ⟨.any, 1, 8, [.undef]⟩),
 (84, ⟨.any, 1, 8, [.undef]⟩),
 (85, ⟨.any, 1, 8, [.undef]⟩),
 (86, ⟨.int .u32, 1, 4, [.int .u32 0]⟩),
 (87, ⟨.any, 1, 8, [.undef]⟩),
 (88, ⟨.any, 1, 8, [.undef]⟩),
 (89, ⟨.any, 1, 8, [.undef]⟩),
 (90, ⟨.any, 1, 8, [.undef]⟩),
 (91, ⟨.any, 1, 8, [.undef]⟩),
 (92, ⟨.any, 1, 8, [.undef]⟩),
 (94, ⟨.any, 1, 8, [.undef]⟩),
 (95, ⟨.int .u64, 1, 8, [.int .u64 0]⟩),
 (96, ⟨.any, 1, 8, [.undef]⟩),
 (97, ⟨.any, 1, 8, [.undef]⟩),
 (98, ⟨.any, 1, 8, [.undef]⟩),
 (99, ⟨.any, 1, 8, [.undef]⟩),
 (100, ⟨.any, 1, 8, [.undef]⟩),
 (101, ⟨.any, 1, 8, [.undef]⟩),
 (102, ⟨.any, 1, 8, [.undef]⟩),
 (104, ⟨.any, 1, 8, [.undef]⟩),
 (106, ⟨.any, 1, 8, [.undef]⟩),
 (107, ⟨.any, 1, 8, [.undef]⟩),
 (109, ⟨.any, 1, 8, [.undef]⟩),
 (110, ⟨.any, 1, 8, [.undef]⟩),
 (111, ⟨.any, 1, 8, [.undef]⟩),
 (112, ⟨.strct [(0, 17), (1, 17), (2, 17), (3, 9)], 4, 40, [.undef, .undef, .undef, .str ByteArray.empty]⟩),
 (113, ⟨.strct [(0, 17), (1, 17), (2, 17), (3, 9)], 4, 40, [.undef, .undef, .undef, .str ByteArray.empty]⟩),
 (114, ⟨.arr 0 16, 0, 0, []⟩),
 (117, ⟨.int .u8, 1, 1, [.int .u8 0]⟩),
 (118, ⟨.int .u8, 1, 1, [.int .u8 0]⟩),
 (119, ⟨.any, 1, 8, [.undef]⟩),
 (120, ⟨.any, 1, 8, [.undef]⟩),
 (121, ⟨.int .i32, 1, 4, [.int .i32 0]⟩),
 (122, ⟨.int .i32, 1, 4, [.int .i32 0]⟩),
 (123, ⟨.strct [(0, 12), (1, 12), (2, 86), (3, 117), (4, 5), (5, 5), (6, 118), (7, 119), (8, 120), (9, 121), (10, 122)], 11, 48, [.int .u64 0, .int .u64 0, .int .u32 0, .int .u8 0, .int .u8 0, .int .u8 0, .int .u8 0, .undef, .undef, .int .i32 0, .int .i32 0]⟩),
 (124, ⟨.strct [(0, 12), (1, 12), (2, 86), (3, 117), (4, 5), (5, 5), (6, 118), (7, 119), (8, 120), (9, 121), (10, 122)], 11, 48, [.int .u64 0, .int .u64 0, .int .u32 0, .int .u8 0, .int .u8 0, .int .u8 0, .int .u8 0, .undef, .undef, .int .i32 0, .int .i32 0]⟩)]
def zgB (T : Nat) : TS := look {} zgb T
theorem zev : zgb.all (fun p => match p.2.k with | .other => true | _ => Yp Try.prog p.1 p.2) = true := by kernel_rfl
theorem zbZ {α : Type} {d : α} {q : Nat → α → Bool} (hd : ∀ T, q T d = true) : ∀ (l : List (Nat × α)), l.all (fun p => q p.1 p.2) = true → ∀ T, q T (look d l T) = true
 | [], _, T => hd T
 | (i, a) :: l, h, T => by
  rw [List.all_cons, Bool.and_eq_true] at h
  rw [zm]
  split
  ·rename_i e; subst e; exact h.1
  ·exact zbZ hd l h.2 T
theorem zw (T : Nat) : (match (zgB T).k with | .other => true | _ => Yp Try.prog T (zgB T)) = true :=
 zbZ (q := fun T ts => match ts.k with | .other => true | _ => Yp Try.prog T ts) (fun _ => rfl) zgb zev T
theorem zn : Try.prog.follows .mixedOrders = true := by kernel_rfl
def xm (P : Program) (h1 : ∀ T, (match (zgB T).k with | .other => true | _ => Yp P T (zgB T)) = true) (h2 : P.follows .mixedOrders = true) (N : Nat) : Ctx := ⟨P, N, zgB, h1, h2⟩
end Go.Proofs.Ythjplkjpehdpfaa
/-
 Between contracts on memory and contracts on plain values.
-/
namespace Go.Proofs.Ythjplkjpehdpfaa
set_option linter.unusedVariables false
open Go.RowKit

structure Typ {α : Type} (sz : Nat) (vals : α → List Value) (fv : α → List FV) : Prop where
 rd : ∀ w I x, RdL w I (vals x) (fv x)
 inv : ∀ w I us x, RdL w I us (fv x) → us = vals x
 wide : ∀ x, (fv x).length = sz
 one : ∀ x, ∀ f ∈ fv x, f.one = true
 flat : ∀ x, FV.flat.flats (fv x) = true

section
variable {α : Type} {sz : Nat} {vals : α → List Value} {fv : α → List FV}
theorem Typ.flatRd (T : Typ sz vals fv) (w : World) (I : Nat → Prop) : ∀ l : List α, RdL w I (Ythjplkjpehdpfaa.flat vals l) (l.map fv).flatten
 | [] => RdL.nil
 | x :: l => by
  simp only [Ythjplkjpehdpfaa.flat, List.flatMap_cons, List.map_cons, List.flatten_cons]
  exact (T.rd w I x).append (T.flatRd w I l)
theorem Typ.flatInv (T : Typ sz vals fv) (w : World) (I : Nat → Prop) : ∀ (l : List α) (us : List Value), RdL w I us (l.map fv).flatten → us = Ythjplkjpehdpfaa.flat vals l
 | [], us, h => by have := h.1; simpa [Ythjplkjpehdpfaa.flat] using this
 | x :: l, us, h => by
  have h' := h
  simp only [List.map_cons, List.flatten_cons] at h
  have hl := T.wide x
  have h1 := h.take sz
  have h2 := h.drop sz
  rw [List.take_left' hl] at h1
  rw [List.drop_left' hl] at h2
  have e1 := T.inv w I _ x h1
  have e2 := T.flatInv w I l _ h2
  simp only [Ythjplkjpehdpfaa.flat, List.flatMap_cons]
  rw [← e1, show List.flatMap vals l = Ythjplkjpehdpfaa.flat vals l from rfl, ← e2, List.take_append_drop]
theorem Typ.wideM (T : Typ sz vals fv) (l : List α) : ∀ e ∈ l.map fv, e.length = sz := fun e he => by
 obtain ⟨x, _, rfl⟩ := List.mem_map.1 he; exact T.wide x
theorem Typ.oneM (T : Typ sz vals fv) (l : List α) : ∀ f ∈ (l.map fv).flatten, f.one = true := fun f hf => by
 obtain ⟨e, he, hfe⟩ := List.mem_flatten.1 hf
 obtain ⟨x, _, rfl⟩ := List.mem_map.1 he
 exact T.one x f hfe
theorem Typ.to (T : Typ sz vals fv) {w : World} {B : Nat} {A : Option Addr} {l : List α} {c : Nat} (h : Sl vals w B A l) (hc : l.length ≤ c) : Rd w (fun b => b < B) (.slice A l.length c) (.list sz (l.map fv)) := by
 have hR := T.flatRd w (fun b => b < B) l
 refine .list A l.length c sz _ (Ythjplkjpehdpfaa.flat vals l) (by simp) hc (T.wideM l) (T.oneM l) (fun h0 => ?_) hR.1 hR.2
 obtain ⟨b, off, ha, hb, hcell⟩ := h (fun e => h0 (by rw [e]; rfl))
 exact ⟨b, off, ha, hb, hcell⟩
theorem Typ.of (T : Typ sz vals fv) {w : World} {I : Nat → Prop} {B : Nat} {v : Value} {l : List α} (h : Rd w I v (.list sz (l.map fv))) (hI : ∀ b, I b → b < B) : ∃ A c, v = .slice A l.length c ∧ l.length ≤ c ∧ Sl vals w B A l := by
 cases h with
 | list A n c sz es us hn hc he ho hA hl hr =>
  rw [List.length_map] at hn
  subst hn
  have := T.flatInv w I l us ⟨hl, hr⟩
  subst this
  refine ⟨A, c, rfl, hc, fun hne => ?_⟩
  obtain ⟨b, off, ha, hb, hcell⟩ := hA (by simpa using hne)
  exact ⟨b, off, ha, hI b hb, hcell⟩
theorem Typ.res (T : Typ sz vals fv) {w w' : World} {I : Nat → Prop} {E : Nat} {v : Value} {l : List α} (h : w'.ownsRow w.heap.size E sz v l.length (Ythjplkjpehdpfaa.flat vals l)) : zaV w w' I (.ow E sz) v (.list sz (l.map fv)) :=
 ⟨_, _, rfl, T.wideM l, T.oneM l, by rw [List.length_map]; exact h, T.flatRd _ _ l⟩
end

theorem Rd.int_inv {w : World} {I : Nat → Prop} {v : Value} {k : IntKind} {n : Int} (h : Rd w I v (.int k n)) : v = .int k n := by cases h; rfl
theorem Rd.bool_inv {w : World} {I : Nat → Prop} {v : Value} {b : Bool} (h : Rd w I v (.bool b)) : v = .bool b := by cases h; rfl
theorem RdL.cons_inv {w : World} {I : Nat → Prop} {us : List Value} {f : FV} {fs : List FV} (h : RdL w I us (f :: fs)) : ∃ u vs, us = u :: vs ∧ Rd w I u f ∧ RdL w I vs fs := by
 cases us with
 | nil => have := h.1; simp at this
 | cons u vs => exact ⟨u, vs, rfl, h.2 0 u f rfl rfl, by have := h.1; simpa using this, fun j u' f' hu hf => h.2 (j + 1) u' f' (by simpa using hu) (by simpa using hf)⟩
theorem RdL.nil_inv {w : World} {I : Nat → Prop} {us : List Value} (h : RdL w I us []) : us = [] := by have := h.1; simpa using this

theorem RdL.inv1 {w : World} {I : Nat → Prop} {vs : List Value} {f0 : FV} (h : RdL w I vs [f0]) : ∃ u0, vs = [u0] ∧ Rd w I u0 f0 := by
 obtain ⟨u0, r0, rfl, e0, h0⟩ := h.cons_inv
 have := h0.nil_inv
 subst this
 exact ⟨u0, rfl, e0⟩
theorem RdL.inv2 {w : World} {I : Nat → Prop} {vs : List Value} {f0 f1 : FV} (h : RdL w I vs [f0, f1]) : ∃ u0 u1, vs = [u0, u1] ∧ Rd w I u0 f0 ∧ Rd w I u1 f1 := by
 obtain ⟨u0, r0, rfl, e0, h0⟩ := h.cons_inv
 obtain ⟨u1, r1, rfl, e1, h1⟩ := h0.cons_inv
 have := h1.nil_inv
 subst this
 exact ⟨u0, u1, rfl, e0, e1⟩
def zt (x : Int) : List FV := [.int .i64 x]
theorem zeA : Typ 1 zfA zt where
 rd w I x := RdL.cons (.int _ _) .nil
 inv w I us x h := by
  obtain ⟨u, vs, rfl, h1, h2⟩ := h.cons_inv
  rw [h1.int_inv, h2.nil_inv]; rfl
 wide x := rfl
 one x f hf := by simp [zt] at hf; subst hf; rfl
 flat x := rfl
def OpV.fv (o : OpV) : List FV := [.int .i64 o.p, .int .i64 o.k, .int .i64 o.key, .int .i64 o.arg, .int .i64 o.res, .int .i64 o.call, .int .i64 o.ret, .bool o.done]
theorem yj.law {P : Program} {f : Nat} {args : List FV} (h : yj P f args .fr (.bool true)) {w : World} {vs : List Value} (hv : RdL w (fun b => b < w.heap.size) vs args) : Calls P f vs.toArray w fun e w' => e = .returned (.bool true) ∧ Below w.heap.size w w' := by
 refine (h.calls w _ vs (fun b hb => hb) hv).mono ?_
 rintro e w' ⟨v, rfl, hb, hr⟩
 have hr' : Rd w' _ v (.bool true) := hr
 rw [hr'.bool_inv]
 exact ⟨rfl, hb⟩
theorem VP {c : Ctx} {fn : Func} {t : List (Nat × FV)} {ob : List (Nat × zg)} {d id ver n E sz : Nat} {es es' : List (List FV)} (hr : fn.results.toList = [.tmp d]) (h : look .undef t d = .own id ver 0 n) (hb : look {} ob id = ⟨ver, .own, E, sz, es⟩) (hn : n = es.length) (hp : 0 < sz) (e : es = es')
  (hf : ∀ e ∈ es', FV.flat.flats e = true) : Ret c fn ⟨t, ob⟩ (.ow E sz) (.list sz es') := by
 subst e
 have hb' : (⟨t, ob⟩ : FSt).ob id = ⟨ver, .own, E, sz, es⟩ := hb
 have := Ret.ow (c := c) (fn := fn) (s := ⟨t, ob⟩) hr h (by rw [hb']) (by rw [hb']) (by rw [hb']; exact hn) (by rw [hb']; exact hp) (by rw [hb']; exact hf)
 rw [hb'] at this
 exact this
theorem yy {c : Ctx} {fn : Func} {s : FSt} {d : Nat} {f f' : FV} (hr : fn.results.toList = [.tmp d]) (h : s.get d = f) (e : f = f') (hf : f'.flat = true) : Ret c fn s .fr f' := by
 subst e
 exact .flat (fs := [f]) (by rw [hr]; exact .cons (.tmp d h (FV.flat_hand hf)) .nil) rfl hf
theorem Typ.flatsM {α : Type} {sz : Nat} {vals : α → List Value} {fv : α → List FV} (T : Typ sz vals fv) (l : List α) : ∀ e ∈ l.map fv, FV.flat.flats e = true := fun e he => by
 obtain ⟨x, _, rfl⟩ := List.mem_map.1 he
 exact T.flat x
end Go.Proofs.Ythjplkjpehdpfaa
/-
 The library's Sort and Compact of numbers, over this program.
-/
namespace Go.Proofs.Ythjplkjpehdpfaa
open Go.Shelf
def zgv : Go.Shelf.Ren :=
{
 f := fun x =>
  match x with
  | 189 => 26
  | 125 => 42
  | 257 => 41
  | 128 => 57
  | 129 => 58
  | 294 => 48
  | 295 => 49
  | 296 => 50
  | 297 => 51
  | 298 => 52
  | 299 => 53
  | 216 => 54
  | 300 => 55
  | 301 => 56
  | 328 => 68
  | 329 => 69
  | 330 => 70
  | 331 => 71
  | 332 => 72
  | 215 => 73
  | 343 => 79
  | n => n,
 t := fun x =>
  match x with
  | 28 => 22
  | 3 => 3
  | 46 => 65
  | 0 => 0
  | 51 => 86
  | 53 => 41
  | 4 => 4
  | 183 => 78
  | 182 => 77
  | 131 => 83
  | 5 => 5
  | 9 => 9
  | 218 => 95
  | 222 => 99
  | 228 => 107
  | 229 => 108
  | n => n,
 g := fun x =>
  have n := x;
  n }
theorem zdN : Lays.n189 Try.prog zgv where
 mixed := by kernel_rfl
 f125 := by kernel_rfl
 f128 := by kernel_rfl
 f129 := by kernel_rfl
 f189 := by kernel_rfl
 f215 := by kernel_rfl
 f216 := by kernel_rfl
 f257 := by kernel_rfl
 f294 := by kernel_rfl
 f295 := by kernel_rfl
 f296 := by kernel_rfl
 f297 := by kernel_rfl
 f298 := by kernel_rfl
 f299 := by kernel_rfl
 f300 := by kernel_rfl
 f301 := by kernel_rfl
 f328 := by kernel_rfl
 f329 := by kernel_rfl
 f330 := by kernel_rfl
 f331 := by kernel_rfl
 f332 := by kernel_rfl
 f343 := by kernel_rfl
 t0 := by kernel_rfl
 a0 := fun _ => by kernel_rfl
 z0 := fun _ => by kernel_rfl
 v0 := fun _ => by kernel_rfl
 t3 := by kernel_rfl
 a3 := fun _ => by kernel_rfl
 z3 := fun _ => by kernel_rfl
 v3 := fun _ => by kernel_rfl
 t4 := by kernel_rfl
 a4 := fun _ => by kernel_rfl
 z4 := fun _ => by kernel_rfl
 v4 := fun _ => by kernel_rfl
 t5 := by kernel_rfl
 a5 := fun _ => by kernel_rfl
 z5 := fun _ => by kernel_rfl
 v5 := fun _ => by kernel_rfl
 t9 := by kernel_rfl
 a9 := fun _ => by kernel_rfl
 z9 := fun _ => by kernel_rfl
 v9 := fun _ => by kernel_rfl
 t28 := by kernel_rfl
 a28 := fun _ => by kernel_rfl
 z28 := fun _ => by kernel_rfl
 v28 := fun _ => by kernel_rfl
 t46 := by kernel_rfl
 a46 := fun _ => by kernel_rfl
 z46 := fun _ => by kernel_rfl
 v46 := fun _ => by kernel_rfl
 t51 := by kernel_rfl
 a51 := fun _ => by kernel_rfl
 z51 := fun _ => by kernel_rfl
 v51 := fun _ => by kernel_rfl
 t53 := by kernel_rfl
 a53 := fun _ => by kernel_rfl
 z53 := fun _ => by kernel_rfl
 v53 := fun _ => by kernel_rfl
 t131 := by kernel_rfl
 a131 := fun _ => by kernel_rfl
 z131 := fun _ => by kernel_rfl
 v131 := fun _ => by kernel_rfl
 t182 := by kernel_rfl
 a182 := fun _ => by kernel_rfl
 z182 := fun _ => by kernel_rfl
 v182 := fun _ => by kernel_rfl
 t183 := by kernel_rfl
 a183 := fun _ => by kernel_rfl
 z183 := fun _ => by kernel_rfl
 v183 := fun _ => by kernel_rfl
 t218 := by kernel_rfl
 a218 := fun _ => by kernel_rfl
 z218 := fun _ => by kernel_rfl
 v218 := fun _ => by kernel_rfl
 t222 := by kernel_rfl
 a222 := fun _ => by kernel_rfl
 z222 := fun _ => by kernel_rfl
 v222 := fun _ => by kernel_rfl
 t228 := by kernel_rfl
 a228 := fun _ => by kernel_rfl
 z228 := fun _ => by kernel_rfl
 v228 := fun _ => by kernel_rfl
 t229 := by kernel_rfl
 a229 := fun _ => by kernel_rfl
 z229 := fun _ => by kernel_rfl
 v229 := fun _ => by kernel_rfl
def zgM : Go.Shelf.Ren :=
{
 f := fun x =>
  match x with
  | 20 => 40
  | n => n,
 t := fun x =>
  match x with
  | 22 => 22
  | 3 => 3
  | 4 => 4
  | 0 => 0
  | n => n,
 g := fun x =>
  have n := x;
  n }
theorem zfB : Lays2.n20 Try.prog zgM where
 mixed := by kernel_rfl
 f20 := by kernel_rfl
 t0 := by kernel_rfl
 a0 := fun _ => by kernel_rfl
 z0 := fun _ => by kernel_rfl
 v0 := fun _ => by kernel_rfl
 t3 := by kernel_rfl
 a3 := fun _ => by kernel_rfl
 z3 := fun _ => by kernel_rfl
 v3 := fun _ => by kernel_rfl
 t4 := by kernel_rfl
 a4 := fun _ => by kernel_rfl
 z4 := fun _ => by kernel_rfl
 v4 := fun _ => by kernel_rfl
 t22 := by kernel_rfl
 a22 := fun _ => by kernel_rfl
 z22 := fun _ => by kernel_rfl
 v22 := fun _ => by kernel_rfl
 i3 := by kernel_rfl
end Go.Proofs.Ythjplkjpehdpfaa
/-
 The library's sort and compaction of numbers, on an object of the caller's.
-/
namespace Go.Proofs.Ythjplkjpehdpfaa
set_option linter.unusedVariables false
open Go.RowKit Go.Sort

theorem WD {w : World} {n b E : Nat} {cur : Array Value} {ys : List Int} {os : Array Obj} (hb : w.heap[b]? = some (.cells cur E (0, 0))) (hlen : ys.length ≤ cur.size) :
  w.grownBy (Go.Sort.grow (putRow (Value.int .i64) (Sort.ahead w n) b 0 ys.toArray) os) (some b) ∧
   ∃ cur', (Go.Sort.grow (putRow (Value.int .i64) (Sort.ahead w n) b 0 ys.toArray) os).heap[b]? = some (.cells cur' E (0, 0)) ∧ cur'.size = cur.size ∧ ∀ m, m ≤ ys.length → cur'.toList.take m = (ys.take m).map (Value.int .i64) := by
 have hlt : b < w.heap.size := (Array.getElem?_eq_some_iff.1 hb).1
 have hsz : (putRow (Value.int .i64) (Sort.ahead w n) b 0 ys.toArray).heap.size = w.heap.size := by simp
 refine ⟨⟨rfl, rfl, rfl, by simp, fun k hk hne => ?_⟩, putCells (Value.int .i64) 0 ys.toArray cur, ?_, by simp [putCells], fun m hm => ?_⟩
 ·rw [heap_grow_old _ _ (by rw [hsz]; exact hk)]
  simp only [putRow, mapBlock, Array.getElem?_modify, heap_ahead]
  rw [if_neg (fun e => hne (by rw [e]))]
 ·rw [heap_grow_old _ _ (by rw [hsz]; exact hlt)]
  simp only [putRow, mapBlock, Array.getElem?_modify, heap_ahead, hb, if_true, Option.map_some, onCells]
 ·apply List.ext_getElem
  ·simp [putCells]; omega
  ·intro i h1 h2
   have hi : i < m := by simp at h1; omega
   have hi2 : i < ys.length := by omega
   simp [putCells, hi2]

section
variable {N : Nat} {w0 w : World} {J : JJ} {s s' : FSt} {a : Act} {β : Nat → Option Nat}
theorem Uw (h : FR N w0 J s a w β) {id ver E b : Nat} {zs : List Int} (hob : s.ob id = ⟨ver, .own, E, 1, zs.map zt⟩) (hb : β id = some b) :
  ∃ cur cap, w.heap[b]? = some (.cells cur E (0, 0)) ∧ zs.length ≤ cap ∧ cap ≤ maxLen ∧ cur.size = cap ∧ w0.heap.size ≤ b ∧ b < w.heap.size ∧ cur.toList.take zs.length = zs.map (Value.int .i64) := by
 have hl : (s.ob id).life ≠ .dead := by rw [hob]; exact (by decide : zN.own ≠ .dead)
 have hO := (h.obj id hl).rowR (by rw [hob]; rfl)
 have hlt := (h.obj id hl).lt hb
 obtain ⟨v, us, r1, r2, r3⟩ := hO.row
 rw [hob] at r1 r3
 dsimp only at r1 r3
 rcases r1.2 with ⟨rfl, _⟩ | ⟨g', cap, cur, rfl, _, hgg, hn, hm, hcs, htk⟩
 ·rw [← r2] at hb; simp [Value.ownBlock] at hb
 ·have hgb : g' = b := by rw [← r2] at hb; simpa [Value.ownBlock] using hb
  subst hgb
  have := zeA.flatInv w _ zs us r3
  refine ⟨cur, cap, hgg, by simpa using hn, hm, by simpa using hcs, hlt.1, hlt.2, ?_⟩
  rw [List.length_map, Nat.mul_one] at htk
  rw [htk, this, xU]
theorem VD {id b E : Nat} {cur : Array Value} {zs : List Int} (hb : w.heap[b]? = some (.cells cur E (0, 0))) (ht : cur.toList.take zs.length = zs.map (Value.int .i64)) : Holds (Value.int .i64) w b 0 zs.toArray := by
 intro j hj
 have hj' : j < zs.length := by simpa using hj
 have hjc : (cur.toList.take zs.length)[j]? = some (Value.int .i64 zs[j]) := by rw [ht]; simp [hj']
 rw [List.getElem?_take, if_pos hj'] at hjc
 refine ⟨?_, ?_⟩
 ·simp only [World.cell?, hb, Nat.zero_add]
  rw [← Array.getElem?_toList]
  simp [hjc, hj']
 ·simp [World.frozen?, hb]
theorem FR.reput (h : FR N w0 J s a w β) {id ver E b n : Nat} {zs ys : List Int} {os : Array Obj} (hob : s.ob id = ⟨ver, .own, E, 1, zs.map zt⟩) (hb : β id = some b) (hl : ys.length = zs.length)
  (hs : ∀ k, s'.ob k = if id = k then ⟨ver, .own, E, 1, ys.map zt⟩ else s.ob k) (hst : ∀ k, s'.get k = s.get k) : FR N w0 J s' a (Go.Sort.grow (putRow (Value.int .i64) (Sort.ahead w n) b 0 ys.toArray) os) β := by
 obtain ⟨cur, cap, h1, h2, h3, h4, h5, h6, h7⟩ := Uw h hob hb
 obtain ⟨hg, cur', g1, g2, g3⟩ := WD (n := n) (ys := ys) (os := os) h1 (by omega)
 have hobE : (s.ob id).E = E := by rw [hob]
 have hobs : (s.ob id).sz = 1 := by rw [hob]
 have hobe : (s.ob id).es = zs.map zt := by rw [hob]
 refine h.write id (es := ys.map zt) (v := .slice (some ⟨b, 0, none⟩) ys.length cap) (xs := flat zfA ys) (by rw [hob]) (by rw [hb]; exact hg) (by rw [hobs]; exact zeA.wideM ys) (zeA.oneM ys) ?_ (by rw [hb]; rfl) (zeA.flatRd w _ ys) (by rw [hobe]; simpa using hl) ?_ (fun k => ?_) hst
 ·rw [hobE, hobs]
  refine ⟨by rw [xU]; simp, .inr ⟨b, cap, cur', by simp, h5, g1, by rw [List.length_map]; omega, h3, by omega, ?_⟩⟩
  rw [List.length_map, Nat.mul_one, g3 _ (Nat.le_refl _), List.take_length, xU]
 ·intro b' c1 c2 e1 e2 e3
  rw [hb] at e1
  injection e1 with e1
  subst e1
  rw [hobE] at e2 e3
  rw [h1] at e2
  rw [g1] at e3
  injection e2 with e2; injection e2 with e2 _ _
  injection e3 with e3; injection e3 with e3 _ _
  rw [← e2, ← e3, g2]
 ·rw [hs, hob]
theorem FR.recut (h : FR N w0 J s a w β) {id ver E b n k : Nat} {zs ys : List Int} {os : Array Obj} (hob : s.ob id = ⟨ver, .own, E, 1, zs.map zt⟩) (hb : β id = some b) (hl : ys.length = zs.length) (hk : k ≤ ys.length)
  (hs : ∀ i, s'.ob i = if id = i then ⟨ver + 1, .own, E, 1, (ys.take k).map zt⟩ else s.ob i) (hst : ∀ k, s'.get k = s.get k) :
  ∃ β', FR N w0 J s' a (Go.Sort.grow (putRow (Value.int .i64) (Sort.ahead w n) b 0 ys.toArray) os) β' ∧ β' id = some b := by
 obtain ⟨cur, cap, h1, h2, h3, h4, h5, h6, h7⟩ := Uw h hob hb
 obtain ⟨hg, cur', g1, g2, g3⟩ := WD (n := n) (ys := ys) (os := os) h1 (by omega)
 refine ⟨_, h.make (some id) id (E := E) (sz := 1) (es := (ys.take k).map zt) (v := .slice (some ⟨b, 0, none⟩) k cap) (xs := flat zfA (ys.take k)) (fun i e => by injection e with e; subst e; rw [hob]; rfl) (by simpa [hb] using hg) (zeA.wideM _) (zeA.oneM _) ?_ (zeA.flatRd w _ _)
  (.inl (by simp [hb, Value.ownBlock])) (fun i => ?_) hst, by simp [Yc, Value.ownBlock]⟩
 ·have hlen : (ys.take k).length = k := by rw [List.length_take]; omega
  refine ⟨by rw [xU]; simp, .inr ⟨b, cap, cur', by rw [List.length_map, hlen], h5, g1, by rw [List.length_map, hlen]; omega, h3, by omega, ?_⟩⟩
  rw [List.length_map, hlen, Nat.mul_one, g3 k hk, xU]
 ·rw [hs, hob]
  by_cases e : id = i
  ·subst e; simp
  ·rw [if_neg e, if_neg e, if_neg (by intro e2; injection e2 with e2; exact e e2)]
end

theorem Xq (n : Int) (h0 : 0 ≤ n) (h1 : n ≤ 18446744073709551615) : yj Try.prog 42 [.int .u64 n] .fr (.int .i64 (Lib.bitLen n.toNat)) where
 go := by kernel_rfl
 hand := rfl
 calls w I vs hI hv := by
  obtain ⟨_, rfl, e1⟩ := hv.inv1
  rw [e1.int_inv]
  refine (calls_of_every_depth fun D => AnyS.bits_LenIn { zdN with } D n w h0 h1).mono ?_
  rintro e w' ⟨rfl, rfl⟩
  exact ⟨_, rfl, Below.refl _ _, .int _ _⟩
theorem Uu : yj Try.prog 48 [.list 1 [], .int .i64 0, .int .i64 0] .fr (.tup []) := by
 refine yj.of_body (c := (xm Try.prog zw zn 49)) ⟨Try.func48, rfl, Try.ntmps48, by kernel_rfl⟩ (by simp [FV.hand]) (by exact Nat.le_of_ble_eq_true rfl) rfl ?_
 change FW _ _ _ ⟨[(0, .list 1 []), (1, .int .i64 0), (2, .int .i64 0)], []⟩
 (repeat (first | refine FW.seq ?_ | refine FW.region ?_ | refine FW.block ?_ | refine zd.nil ?_ | refine zb rfl rfl rfl ?_ | refine zB rfl rfl (by omega) rfl rfl ?_ | refine zc rfl rfl rfl ?_))
 refine FW.loop (fun _ : Unit => ⟨[(2, .int .i64 0), (6, .int .i64 1)], []⟩) (fun _ => True) (fun _ => 0) () trivial (FLe.cv [] (by repeat (first | exact .nil)) (by repeat (first | exact .nil | refine .cons (.plain rfl rfl rfl) ?_))) ?_
 intro _ _
 (repeat (first | refine FW.seq ?_ | refine FW.region ?_ | refine FW.exit ?_ | refine FW.condF rfl ?_ | refine zd.nil ?_ | refine zb rfl rfl rfl ?_ | refine zP rfl rfl rfl rfl ?_))
 exact ⟨.inr rfl, .flat .nil rfl rfl⟩
theorem zdX (n : Int) : yj Try.prog 41 [.list 1 [], .int .i64 0, .int .i64 0, .int .i64 n] .fr (.tup []) := by
 refine yj.of_body (c := (xm Try.prog zw zn 134)) ⟨Try.func41, rfl, Try.ntmps41, by kernel_rfl⟩ (by simp [FV.hand]) (by exact Nat.le_of_ble_eq_true rfl) rfl ?_
 change FW _ _ _ ⟨[(0, .list 1 []), (1, .int .i64 0), (2, .int .i64 0), (3, .int .i64 n)], []⟩
 (repeat (first | refine FW.seq ?_ | refine FW.region ?_ | refine FW.block ?_ | refine zd.nil ?_ | refine zc rfl rfl rfl ?_))
 refine FW.loop (fun _ : Unit => ⟨[(0, .list 1 []), (1, .int .i64 0), (2, .int .i64 0)], []⟩) (fun _ => True) (fun _ => 0) () trivial (FLe.cv [] (by repeat (first | exact .nil)) (by repeat (first | exact .nil | refine .cons (.plain rfl rfl rfl) ?_))) ?_
 intro _ _
 (repeat (first | refine FW.seq ?_ | refine FW.region ?_ | refine FW.block ?_ | refine FW.condT rfl ?_ | refine zd.nil ?_ | refine zc rfl rfl rfl ?_ | refine zb rfl rfl rfl ?_ | refine Zs rfl rfl (by omega) rfl rfl ?_ | refine zfG rfl rfl rfl rfl ?_))
 refine zW Uu (by repeat (first | exact zu.nil | refine zu.cons (by exact yU.plain rfl rfl) ?_)) rfl rfl ?_
 (repeat (first | refine zd.nil ?_))
 exact FW.ret ⟨.inl rfl, .flat .nil rfl rfl⟩
theorem zc8 : yj Try.prog 26 [.list 1 []] .fr (.tup []) := by
 refine yj.of_body (c := (xm Try.prog zw zn 11)) ⟨Try.func26, rfl, Try.ntmps26, by kernel_rfl⟩ (by simp [FV.hand]) (by exact Nat.le_of_ble_eq_true rfl) rfl ?_
 change FW _ _ _ ⟨[(0, .list 1 [])], []⟩
 (repeat (first | refine FW.seq ?_ | refine FW.region ?_ | refine zd.nil ?_ | refine zb rfl rfl rfl ?_ | refine zA rfl rfl (by first | rfl | (simp; done)) rfl rfl ?_ | refine zc rfl rfl rfl ?_ | refine ZR rfl rfl rfl (by simp; done) rfl rfl ?_))
 refine zW (Xq 0 (by decide) (by decide)) (by repeat (first | exact zu.nil | refine zu.cons (by exact yU.plain rfl rfl) ?_)) rfl rfl ?_
 skip
 refine zW (zdX _) (by repeat (first | exact zu.nil | refine zu.cons (by exact yU.plain rfl rfl) ?_)) rfl rfl ?_
 (repeat (first | refine zd.nil ?_))
 exact ⟨.inr rfl, .flat .nil rfl rfl⟩
theorem WV (t : List (Nat × FV)) (args : List FV) (k : Nat) (b b' : zg) (i : Nat) : (⟨t, [(k, b')]⟩ : FSt).ob i = if k = i then b' else (yh args [(k, b)]).ob i := by
 show look ({} : zg) [(k, b')] i = if k = i then b' else look ({} : zg) [(k, b)] i
 rw [zm, zm]
 split <;> rfl
theorem zeg {N : Nat} {w0 w : World} {J : JJ} {s : FSt} {a : Act} {β : Nat → Option Nat} (h : FR N w0 J s a w β) {id ver E : Nat} {zs : List Int} (hob : s.ob id = ⟨ver, .own, E, 1, zs.map zt⟩) (hb : β id = none) : zs = [] := by
 have hO := (h.obj id (by rw [hob]; exact (by decide : zN.own ≠ .dead))).rowR (by rw [hob]; rfl)
 obtain ⟨v, us, r1, r2, r3⟩ := hO.row
 rw [hob] at r1
 dsimp only at r1
 rcases r1.2 with ⟨rfl, h0⟩ | ⟨g', cap, cur, rfl, _⟩
 ·simpa using h0
 ·rw [hb] at r2; simp [Value.ownBlock] at r2
theorem xw {v : Nat} {b : zg} {res : FV} {o : Nat → zg} {k : Nat} (hr : res.cl [k] = true) (hl : (o k).life = .own) (hs : (o k).sz = b.sz) (hb : b.life = .own) : Zh [(k, b)] [] res o where
 old q hq _ := by
  obtain rfl : q = k := by simpa using hq
  exact ⟨by rw [hl]; rfl, by rw [hs, zm, if_pos rfl], by rw [hl, zm, if_pos rfl, hb]⟩
 new q hq := by cases hq
 cl q hq := by
  obtain rfl : q = k := by simpa using hq
  unfold zg.cl; rw [hl]
 res := hr
theorem Ua (v : Nat) (zs : List Int) (hz : zs.length < 4611686018427387904) : zY Try.prog 26 [.own 5000 v 0 zs.length] [(5000, ⟨v, .own, 3, 1, zs.map zt⟩)] []
  (fun res o => res = .tup [] ∧ o 5000 = ⟨v, .own, 3, 1, (zs.mergeSort fun x y => decide (x ≤ y)).map zt⟩) where
 go := by kernel_rfl
 post res o h := by obtain ⟨rfl, h⟩ := h; exact xw (v := v) rfl (by rw [h]) (by rw [h]) rfl
 calls w0 J w β vs hF := by
  obtain ⟨v0, rfl⟩ : ∃ v0, vs = [v0] := by
   have := hF.size
   match vs, this with
   | [v0], _ => exact ⟨v0, rfl⟩
  have hob : (yh [.own 5000 v 0 zs.length] [(5000, ⟨v, .own, 3, 1, zs.map zt⟩)]).ob 5000 = ⟨v, .own, 3, 1, zs.map zt⟩ := rfl
  have h0 := hF.slot 0
  have hO : ZZ w (β 5000) _ v0 0 zs.length := h0 (by rw [hob]; exact (by decide : zN.own ≠ .dead)) rfl
  obtain ⟨A, c, e1, e2, e3, e4, e5⟩ := hO.ex
  subst e1
  cases hb : β 5000 with
  | none =>
   obtain rfl := zeg hF hob hb
   obtain ⟨rfl, rfl⟩ := e4 hb
   refine (zc8.calls w (fun _ => False) [.slice none 0 0] (fun b h => h.elim) (RdL.cons (.list none 0 0 1 [] [] rfl (Nat.le_refl _) (by simp) (by simp) (by simp) (by simp) (by simp)) .nil)).mono ?_
   rintro e w' ⟨v1, rfl, hB, hr⟩
   have hG := hF.grow hB
   refine ⟨v1, .tup [], _, β, rfl, ⟨rfl, by simp [look]⟩, hG.slots rfl hF.defers fun d => ?_⟩
   cases d with
   | zero => exact VR.plain (hr.flat rfl _ _) rfl
   | succ d => exact VR.plain (.undef _) rfl
  | some b =>
   obtain ⟨o', rfl, k2, k3⟩ := e5 b hb
   have ho' := k2 (.inr rfl)
   have : o' = 0 := by rw [ho']; exact Nat.zero_mul _
   subst this
   obtain ⟨cur, cap, q1, q2, q3, q4, q5, q6, q7⟩ := Uw hF hob hb
   refine (Any.slices_Sort_int zdN b 0 c zs w (VD (id := 0) q1 q7) q6 hz).mono ?_
   rintro e w' ⟨rfl, n, os, rfl⟩
   have hlen : (zs.mergeSort fun x y => decide (x ≤ y)).length = zs.length := List.length_mergeSort zs
   have hR := hF.reput (n := n) (os := os) (s' := ⟨(yh [.own 5000 v 0 zs.length] [(5000, ⟨v, .own, 3, 1, zs.map zt⟩)]).t, [(5000, ⟨v, .own, 3, 1, (zs.mergeSort fun x y => decide (x ≤ y)).map zt⟩)]⟩) hob hb hlen (fun k => WV _ _ _ _ _ k) (fun k => rfl)
   refine ⟨.tuple #[], .tup [], _, β, rfl, ⟨rfl, rfl⟩, hR.slots rfl hF.defers fun d => ?_⟩
   cases d with
   | zero => exact VR.plain (.tup [] [] rfl (by simp)) rfl
   | succ d => exact VR.plain (.undef _) rfl
theorem Uk (v : Nat) (zs : List Int) (hz : zs.length ≤ 9223372036854775807) : zY Try.prog 40 [.own 5000 v 0 zs.length] [(5000, ⟨v, .own, 3, 1, zs.map zt⟩)] []
  (fun res o => res = .own 5000 (v + 1) 0 (Lib.compact zs).length ∧ o 5000 = ⟨v + 1, .own, 3, 1, (Lib.compact zs).map zt⟩) where
 go := by kernel_rfl
 post res o h := by obtain ⟨rfl, h⟩ := h; exact xw (v := v) rfl (by rw [h]) (by rw [h]) rfl
 calls w0 J w β vs hF := by
  obtain ⟨v0, rfl⟩ : ∃ v0, vs = [v0] := by
   have := hF.size
   match vs, this with
   | [v0], _ => exact ⟨v0, rfl⟩
  have hob : (yh [.own 5000 v 0 zs.length] [(5000, ⟨v, .own, 3, 1, zs.map zt⟩)]).ob 5000 = ⟨v, .own, 3, 1, zs.map zt⟩ := rfl
  have h0 := hF.slot 0
  have hO : ZZ w (β 5000) _ v0 0 zs.length := h0 (by rw [hob]; exact (by decide : zN.own ≠ .dead)) rfl
  obtain ⟨A, c, e1, e2, e3, e4, e5⟩ := hO.ex
  subst e1
  cases hb : β 5000 with
  | none =>
   obtain rfl := zeg hF hob hb
   obtain ⟨rfl, rfl⟩ := e4 hb
   refine (Any.slices_Compact_int_empty zfB none 0 w).mono ?_
   rintro e w' ⟨rfl, rfl⟩
   have hR := hF.make (some 5000) 5000 (E := 3) (sz := 1) (es := []) (v := .slice none 0 0) (xs := []) (s' := ⟨(yh [.own 5000 v 0 ([] : List Int).length] [(5000, ⟨v, .own, 3, 1, ([] : List Int).map zt⟩)]).t, [(5000, ⟨v + 1, .own, 3, 1, []⟩)]⟩)
    (fun i e => by injection e with e; subst e; rfl) ⟨rfl, rfl, rfl, Nat.le_refl _, fun _ _ _ => rfl⟩ (by simp) (by simp) (World.ownsRow_nil _ _ _ _) RdL.nil (.inl hb.symm) (fun k => by
     refine (WV _ [.own 5000 v 0 ([] : List Int).length] 5000 ⟨v, .own, 3, 1, ([] : List Int).map zt⟩ _ k).trans ?_
     by_cases e : 5000 = k
     ·rw [if_pos e, if_pos e]; rfl
     ·rw [if_neg e, if_neg e, if_neg (by intro e2; injection e2 with e2; exact e e2)]) (fun k => rfl)
   refine ⟨.slice none 0 0, .own 5000 (v + 1) 0 0, _, _, rfl, ⟨rfl, rfl⟩, hR.slots rfl hF.defers fun d => ?_⟩
   cases d with
   | zero =>
    refine ⟨fun _ _ => ⟨rfl, none, 0, rfl, Nat.le_refl _, by simp, fun _ => ⟨rfl, rfl⟩, fun b2 e => by simp [Yc, Value.ownBlock] at e⟩, fun id ver hm => ?_⟩
    have hm' := List.mem_singleton.1 hm
    injection hm' with m1 m2
    subst m1; subst m2
    exact Nat.le_refl _
   | succ d => exact VR.plain (.undef _) rfl
  | some b =>
   obtain ⟨o', rfl, k2, k3⟩ := e5 b hb
   have ho' := k2 (.inr rfl)
   have : o' = 0 := by rw [ho']; exact Nat.zero_mul _
   subst this
   obtain ⟨cur, cap, q1, q2, q3, q4, q5, q6, q7⟩ := Uw hF hob hb
   refine (Any.slices_Compact_int zfB b 0 c zs w (VD (id := 0) q1 q7) hz e2).mono ?_
   rintro e w' ⟨rfl, n, rfl⟩
   have hle : (Lib.compact zs).length ≤ zs.length := by
    unfold Lib.compact Lib.compactUpTo
    rw [List.length_map]
    exact Nat.le_trans (List.length_filter_le _ _) (by simp)
   have hlen : (Lib.compact zs ++ List.replicate (zs.length - (Lib.compact zs).length) 0).length = zs.length := by simp; omega
   obtain ⟨β', hR, hb'⟩ := hF.recut (n := n) (os := #[]) (k := (Lib.compact zs).length) (s' := ⟨(yh [.own 5000 v 0 zs.length] [(5000, ⟨v, .own, 3, 1, zs.map zt⟩)]).t, [(5000, ⟨v + 1, .own, 3, 1, (Lib.compact zs).map zt⟩)]⟩) hob hb hlen (by simp) (fun k => by
    rw [List.take_left]
    exact WV _ _ _ _ _ k) (fun k => rfl)
   rw [grow_empty] at hR
   have hcs : cur.size = (0 + c) * 1 := k3 cur q1
   refine ⟨.slice (some ⟨b, 0, none⟩) (Lib.compact zs).length c, .own 5000 (v + 1) 0 (Lib.compact zs).length, _, β', rfl, ⟨rfl, rfl⟩, hR.slots rfl hF.defers fun d => ?_⟩
   cases d with
   | zero =>
    refine ⟨fun _ _ => ⟨rfl, some ⟨b, 0, none⟩, c, rfl, by omega, ?_, fun e => ?_, fun b2 e => ?_⟩, fun id ver hm => ?_⟩
    ·show 0 + (Lib.compact zs).length ≤ ((Lib.compact zs).map zt).length
     simp
    ·rw [hb'] at e; cases e
    ·rw [hb'] at e
     injection e with e
     subst e
     refine ⟨0, rfl, fun _ => by simp, fun cur2 hc2 => ?_⟩
     obtain ⟨_, cur', g1, g2, _⟩ := WD (w := w) (n := n) (ys := Lib.compact zs ++ List.replicate (zs.length - (Lib.compact zs).length) 0) (os := #[]) q1 (by rw [hlen]; omega)
     rw [grow_empty] at g1
     have hc2' : (putRow (Value.int .i64) (Sort.ahead w n) b 0 (Lib.compact zs ++ List.replicate (zs.length - (Lib.compact zs).length) 0).toArray).heap[b]? = some (.cells cur2 3 (0, 0)) := hc2
     rw [g1] at hc2'
     injection hc2' with hc2'
     injection hc2' with hc2' _ _
     rw [← hc2', g2]
     exact hcs
    ·have hm' := List.mem_singleton.1 hm
     injection hm' with m1 m2
     subst m1; subst m2
     exact Nat.le_refl _
   | succ d => exact VR.plain (.undef _) rfl
end Go.Proofs.Ythjplkjpehdpfaa
/-
 What history.Check looks at, told by indices.
-/
namespace Go.Proofs.Ythjplkjpehdpfaa
set_option linter.unusedVariables false

theorem Wv {l : List OpV} : ∀ {k : Nat} {p : Int} {o : OpV}, Wu l k p = some o → ∃ m, m < k ∧ nth l m = o ∧ o.p = p
 | 0, _, _, h => by simp [Wu] at h
 | k + 1, p, o, h => by
  simp only [Wu] at h
  split at h
  ·rename_i hp
   injection h with h
   exact ⟨k, by omega, h, by rw [← h, hp]⟩
  ·obtain ⟨m, h1, h2⟩ := Wv h
   exact ⟨m, by omega, h2⟩
theorem zbH {l : List OpV} {k : Nat} {f : OpV → Bool} (h : (l.take k).any f = true) : ∃ m, m < k ∧ m < l.length ∧ f (nth l m) = true := by
 obtain ⟨o, ho, hf⟩ := List.any_eq_true.1 h
 obtain ⟨m, hm, rfl⟩ := List.getElem_of_mem ho
 have hm' : m < k ∧ m < l.length := by simp at hm; omega
 refine ⟨m, hm'.1, hm'.2, ?_⟩
 rw [nth_eq hm'.2]
 simpa using hf

theorem Zy {l : List OpV} : ∀ (n k : Nat), (∀ j, k ≤ j → j < k + n → zgi l j = 0) → xo l k n = 0
 | 0, _, _ => rfl
 | n + 1, k, h => by
  rw [Ut (h k (Nat.le_refl _) (by omega))]
  exact Zy n (k + 1) fun j h1 h2 => h j (by omega) (by omega)

end Go.Proofs.Ythjplkjpehdpfaa
/-
 simproofref01.Around: a number reduced below a bound.
-/
namespace Go.Proofs.Ythjplkjpehdpfaa
set_option linter.unusedVariables false
open Go.RowKit

def xc (n most : Int) : Int := (if n < 0 then -(n + 1) else n) % most
theorem XQ {n most : Int} (h : 0 < most) : 0 ≤ xc n most := Int.emod_nonneg _ (by omega)
theorem UQ {n most : Int} (h : 0 < most) : xc n most < most := Int.emod_lt_of_pos _ h
set_option maxHeartbeats 400000 in
theorem zck (n most : Int) (w : World) (hn : I64 n) (h1 : 1 ≤ most) (h2 : most ≤ 4611686018427387904) :
  Calls Try.prog 19 #[.int .i64 n, .int .i64 most] w fun e w' => e = .returned (.int .i64 (xc n most)) ∧ w = w' := by
 unfold I64 at hn
 obtain ⟨g1, g2⟩ := hn
 by_cases hneg : n < 0
 ·have e : xc n most = (-(n + 1)) % most := by simp [xc, hneg]
  rw [e]
  clear e
  go_enter Try.func19, Try.ntmps19
  go_wp2
  go_ret
  have e2 : -(n + 1).tmod most = (-(n + 1)) % most := by rw [← Int.neg_tmod, Int.tmod_eq_emod_of_nonneg (by omega)]
  exact ⟨by simp [e2], rfl⟩
 ·have e : xc n most = n % most := by simp [xc, hneg]
  rw [e]
  clear e
  go_enter Try.func19, Try.ntmps19
  go_wp2
  go_ret
  exact ⟨rfl, rfl⟩
end Go.Proofs.Ythjplkjpehdpfaa
/-
 The contracts of Around and history.Check, at plain values.
-/
namespace Go.Proofs.Ythjplkjpehdpfaa
set_option linter.unusedVariables false
open Go.RowKit

theorem Yd (n most : Int) (hn : I64 n) (h1 : 1 ≤ most) (h2 : most ≤ 4611686018427387904) : yj Try.prog 19 [.int .i64 n, .int .i64 most] .fr (.int .i64 (xc n most)) where
 go := by kernel_rfl
 hand := rfl
 calls w I vs hI hv := by
  obtain ⟨_, _, rfl, e1, e2⟩ := hv.inv2
  rw [e1.int_inv, e2.int_inv]
  refine (zck n most w hn h1 h2).mono ?_
  rintro e w' ⟨rfl, rfl⟩
  exact ⟨_, rfl, Below.refl _ _, .int _ _⟩
end Go.Proofs.Ythjplkjpehdpfaa
