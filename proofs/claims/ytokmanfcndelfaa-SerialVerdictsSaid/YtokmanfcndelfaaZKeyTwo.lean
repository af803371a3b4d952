/-
  Keys of maps that are structs of two ints.
-/
import Derived.Test.YtokmanfcndelfaaZFmM
import Derived.Test.YtokmanfcndelfaaZD
import Derived.DeepKeys4
import Derived.Maps.Keyed
namespace Go.Proofs.Ytokmanfcndelfaa
set_option linter.unusedVariables false
open Go.RowKit

theorem zgC {P : Program} {k i : TypeId} {fs : Array Field} (hu : P.underlying k = some (.struct fs)) (hf : fs.toList.map (fun f => (f.type, f.offset)) = [(i, 0), (i, 1)]) (hn : fs.all (·.name != "_") = true)
  (hi : P.underlying i = some (.int .i64)) (c1 : P.cellsOf i = 1) (c2 : P.cellsOf k = 2) (hk : P.keyType k = true) (n : Nat) (ht : P.types.size = n + 1) {a b : Int} (ha : (Lit.int .i64 a).wf = true) (hb : (Lit.int .i64 b).wf = true) :
  ∃ l, keyOf P k (.agg #[.int .i64 a, .int .i64 b]) = some l := by
 have hfs : ∃ f g, fs.toList = [f, g] ∧ f.type = i ∧ f.offset = 0 ∧ g.type = i ∧ g.offset = 1 := by
  generalize fs.toList = l at hf
  rcases l with _ | ⟨f, _ | ⟨g, _ | ⟨h, t⟩⟩⟩ <;> simp at hf
  exact ⟨f, g, rfl, hf.1.1, hf.1.2, hf.2.1, hf.2.2⟩
 obtain ⟨f, g, hl, f1, f2, g1, g2⟩ := hfs
 have one : ∀ x, (Lit.int .i64 x).wf = true → P.keyLits (n + 1) i [.int .i64 x] = some [.int .i64 x] := fun x hx => by
  unfold Program.keyLits
  rw [hi]
  simp [hx]
 have two : P.keyLits (P.types.size + 1) k [.int .i64 a, .int .i64 b] = some [.int .i64 a, .int .i64 b] := by
  unfold Program.keyLits
  rw [hu]
  have hall : (fs.toList.all fun x => x.name != "_") = true := by
   rw [Array.all_toList]; exact hn
  simp only
  rw [if_pos ⟨by rw [c2]; rfl, by simpa using hn⟩, hl, ht]
  simp [f1, f2, g1, g2, c1, one a ha, one b hb]
 unfold keyOf
 rw [hu]
 refine ⟨.string (keyBytes [.int .i64 a, .int .i64 b]), ?_⟩
 have hfm : (Value.agg #[.int .i64 a, .int .i64 b]).formed P k = true := by simp [Value.formed, hu, c2]
 simp only [hk, hfm, Bool.and_self, if_true]
 rw [show (Value.agg #[.int .i64 a, .int .i64 b]).cells.toList = [.int .i64 a, .int .i64 b] from rfl, two]
 rfl

theorem ziH : laidOutB Try.prog = true := by kernel_rfl
def zic (P : Program) (k : TypeId) : Array Field := match P.underlying k with | some (.struct fs) => fs | _ => #[]
def zhL (a b : Int) : FV := .agg [.int .i64 a, .int .i64 b]
theorem zit {a : Int} (h : I64 a) : (Lit.int .i64 a).wf = true := by
 have h1 : IntKind.i64.min = -9223372036854775808 := by kernel_rfl
 have h2 : IntKind.i64.max = 9223372036854775807 := by kernel_rfl
 unfold I64 at h
 simp [Lit.wf, h1, h2, h]
theorem zhM {a b c d : Int} (h : zhL a b = zhL c d) : a = c ∧ b = d := by
 unfold zhL at h
 injection h with h
 injection h with h1 h2
 injection h2 with h2 _
 injection h1 with _ h1
 injection h2 with _ h2
 exact ⟨h1, h2⟩
end Go.Proofs.Ytokmanfcndelfaa
