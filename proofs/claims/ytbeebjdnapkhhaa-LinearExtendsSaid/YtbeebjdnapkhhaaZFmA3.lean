/-
  An array of three, built.
-/
import Derived.Test.YtbeebjdnapkhhaaZFmM
namespace Go.Proofs.Ytbeebjdnapkhhaa
set_option linter.unusedVariables false
open Go.RowKit

section
variable {c : Ctx} {ops : Array Oper} {rest : List Oper} {t : List (Nat × FV)} {ob : List (Nat × zp)} {d : Nat} {ty : TypeId} {pos : String} {af : Array Edge} {g : Option (Nat × Bool)} {Q : FSt → Prop}
theorem zdz {T e by_ by2 : Nat} {kk : TK} {z : List FV} {z0 z1 z2 f1 f2 f3 : FV} {x y u : Operand} (hx : (⟨t, ob⟩ : FSt).ev x = f1) (hy : (⟨t, ob⟩ : FSt).ev y = f2) (hu : (⟨t, ob⟩ : FSt).ev u = f3) (h1 : f1.one = true) (h2 : f2.one = true) (h3 : f3.one = true) (hT : c.ty T = ⟨.arr 3 e, 3, by_, [z0, z1, z2]⟩) (he : c.ty e = ⟨kk, 1, by2, z⟩) (hk : kk.known = true) :
  Eff c ⟨t, ob⟩ d (.build T #[(0, x), (1, y), (2, u)]) (.agg [f1, f2, f3]) [] := by
 refine .buildA (n := 3) (e := e) (by rw [hT]) (by rw [he]; exact TK.known_ne hk) _ ?_
 rw [hT, he]
 show Zh (fun i => some (i * 1, 1)) [z0, z1, z2] [(0, (⟨t, ob⟩ : FSt).ev x), (1, (⟨t, ob⟩ : FSt).ev y), (2, (⟨t, ob⟩ : FSt).ev u)] = some [f1, f2, f3]
 rw [hx, hy, hu, yW (off := 0) (size := 1) rfl (by rw [zN h1]; simpa using h1) (by rw [zN h1]; rfl) (by simp), zN h1]
 rw [yW (off := 1) (size := 1) rfl (by rw [zN h2]; simpa using h2) (by rw [zN h2]; rfl) (by simp [splice]), zN h2]
 rw [yW (off := 2) (size := 1) rfl (by rw [zN h3]; simpa using h3) (by rw [zN h3]; rfl) (by simp [splice]), zN h3]
 rfl
theorem zfE {T e by_ by2 : Nat} {kk : TK} {z : List FV} {z0 z1 z2 f1 f2 f3 : FV} {x y u : Operand} (hx : evO t x = some f1) (hy : evO t y = some f2) (hu : evO t u = some f3) (h1 : f1.one = true) (h2 : f2.one = true) (h3 : f3.one = true) (hT : c.ty T = ⟨.arr 3 e, 3, by_, [z0, z1, z2]⟩) (he : c.ty e = ⟨kk, 1, by2, z⟩) (hk : kk.known = true) (hd : Nat.blt d c.N = true) (hw : zK ops ⟨t, ob⟩ (⟨some d, .build T #[(0, x), (1, y), (2, u)], ty, pos, af, g⟩ : Oper) true) (k : zc c ops rest ⟨((d, (.agg [f1, f2, f3])) :: t), ob⟩ Q) : zc c ops ((⟨some d, .build T #[(0, x), (1, y), (2, u)], ty, pos, af, g⟩ : Oper) :: rest) ⟨t, ob⟩ Q :=
 zc.cons (f := (.agg [f1, f2, f3])) (wr := []) (d := d) ⟨.inl rfl, (fun _ e => by injection e with e; subst e; exact Nat.le_of_ble_eq_true hd), (zdz (Zg hx) (Zg hy) (Zg hu) h1 h2 h3 hT he hk)⟩ hw rfl k
end
end Go.Proofs.Ytbeebjdnapkhhaa
