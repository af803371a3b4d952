/-
  Serializability: what the laws of layer 22 need, in plain Lean.
-/
import Derived.Test.YtokmanfcndelfaaZGenSer2
import Derived.Test.YtokmanfcndelfaaZSerCyc
import Derived.Test.YtokmanfcndelfaaZSerLocal
namespace Go.Proofs.Ytokmanfcndelfaa
set_option linter.unusedVariables false

section
variable {l : List OpV}
theorem Vk.plain {o : List Int} (h : Vk l true o) : Vk l false o := ⟨h.rng, h.nd, h.inc, h.all, h.val, fun e => by cases e⟩
theorem zf7 {s : Bool} (hc : yH l s ≠ []) {i : Nat} (hi : i < (yH l s).length) : ∃ a b : Nat, nth (yH l s) i = a ∧ nth (yH l s) ((i + 1) % (yH l s).length) = b ∧ a < l.length ∧ b < l.length ∧ xK l s a b ≠ [] := by
 obtain ⟨a, b, h1, h2, h3⟩ := zbF (zee l s) hc i hi
 obtain ⟨h4, h5, h6⟩ := zgQ.1 h3
 exact ⟨a, b, h1, h2, h4, h5, h6⟩
end
section
variable {most : Nat} {l : List Int} (h12 : most ≤ 12)
include h12
end
end Go.Proofs.Ytokmanfcndelfaa
