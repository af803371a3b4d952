/-
  simprooflaw03.GraphComponents answers true for every input (walked on plain values).
-/
import Derived.Test.YthjplkjpehdpfaaZFmRComp
namespace Go.Proofs.Ythjplkjpehdpfaa
set_option linter.unusedVariables false
open Go.RowKit

theorem WT (n : Nat) (E : List (Nat × Nat)) : (xf n E).length ≤ n := zcH n E n
theorem WV {n : Nat} {E : List (Nat × Nat)} : ∀ c ∈ xf n E, c.length ≤ n := fun c hc => by
 obtain ⟨a, _, rfl⟩ := WU.1 hc
 exact zc6 E a n
set_option maxHeartbeats 4000000 in
theorem ZH (n : Int) (l : List Int) (hn : I64 n) (hl : ∀ x ∈ l, I64 x) (hlen : l.length ≤ 9223372036854775807) : yf Try.prog 3 [.int .i64 n, .list 1 (l.map zq)] .fr (.bool true) := by
 have hsize := zdH n hn
 obtain ⟨k, hk, hk10⟩ := zbL n 10 (by decide)
 have hk' : xe n 10 = k := hk
 rw [hk'] at hsize
 have hA := UI k l
 have hAl := YN k l
 have hB := zaO k l
 have hBl := UJ k l
 refine yf.of_body (c := (xX Try.prog zA zt 35)) ⟨Try.func3, rfl, Try.ntmps3, by kernel_rfl⟩ (by simp [FV.hand]) (by exact Nat.le_of_ble_eq_true rfl) rfl ?_
 change FW _ _ _ ⟨[(0, .int .i64 n), (1, .list 1 (l.map zq))], []⟩
 (repeat (first | refine FW.seq ?_ | refine FW.region ?_ | refine zd.nil ?_ | refine zc rfl rfl rfl ?_ | refine zb rfl rfl rfl ?_))
 refine yl hsize (by repeat (first | exact zx.nil | refine zx.cons (by exact xh.plain rfl rfl) ?_)) rfl rfl ?_
 (repeat (first | refine FW.seq ?_ | refine FW.region ?_ | refine zd.nil ?_ | refine zc rfl rfl rfl ?_ | refine zb rfl rfl rfl ?_))
 refine ZD (XV k l (by omega) hlen hl) (by repeat (first | exact zx.nil | refine zx.cons (by exact xh.plain rfl rfl) ?_)) (List.length_map _) rfl rfl rfl ?_
 refine zd.le ?_ (FLe.share 12 rfl rfl (by rw [List.length_map]))
 (repeat (first | refine FW.seq ?_ | refine FW.region ?_ | refine zd.nil ?_ | refine zc rfl rfl rfl ?_ | refine zb rfl rfl rfl ?_))
 refine ZD (VJ k l (by omega) hlen hl) (by repeat (first | exact zx.nil | refine zx.cons (by exact xh.plain rfl rfl) ?_)) (List.length_map _) rfl rfl rfl ?_
 refine zd.le ?_ (FLe.share 15 rfl rfl (by rw [List.length_map]))
 have hC1 := Zh k (yP k l) (by omega) (by omega) hA
 have hC2 := Zh k (yH k l) (by omega) (by omega) hB
 have hR1 := Ze k (yP k l) (by omega) (by omega) hA
 have hR2 := Ze k (yH k l) (by omega) (by omega) hB
 have hS1 := Vb (xf k (yP k l)) _ (by have := WT k (yP k l); omega) (fun c hc => by have := WV c hc; omega) rfl
 have hS2 := Vb (xf k (yH k l)) _ (by have := WT k (yH k l); omega) (fun c hc => by have := WV c hc; omega) rfl
 generalize xf k (yP k l) = ca at hC1 hR1 hS1
 generalize xf k (yH k l) = cb at hC2 hR2 hS2
 generalize yP k l = A at hC1 hR1
 generalize yH k l = B at hC2 hR2
 (repeat (first | refine FW.seq ?_ | refine FW.region ?_ | refine zd.nil ?_ | refine zc rfl rfl rfl ?_ | refine zb rfl rfl rfl ?_))
 refine yJ hC1 (by repeat (first | exact zx.nil | refine zx.cons (by exact xh.plain rfl rfl) ?_)) rfl rfl ?_
 (repeat (first | refine zb rfl rfl rfl ?_))
 refine yJ hR1 (by repeat (first | exact zx.nil | refine zx.cons (by exact xh.plain rfl rfl) ?_)) rfl rfl ?_
 refine yl hS1 (by repeat (first | exact zx.nil | refine zx.cons (by exact xh.plain rfl rfl) ?_)) rfl rfl ?_
 (repeat (first | refine zb rfl rfl rfl ?_ | refine zb rfl rfl ⟨_, _, rfl, rfl, rfl⟩ ?_))
 refine yJ hC2 (by repeat (first | exact zx.nil | refine zx.cons (by exact xh.plain rfl rfl) ?_)) rfl ⟨_, _, rfl, rfl, rfl⟩ ?_
 (repeat (first | refine zb rfl rfl ⟨_, _, rfl, rfl, rfl⟩ ?_))
 refine yJ hR2 (by repeat (first | exact zx.nil | refine zx.cons (by exact xh.plain rfl rfl) ?_)) rfl ⟨_, _, rfl, rfl, rfl⟩ ?_
 refine yl hS2 (by repeat (first | exact zx.nil | refine zx.cons (by exact xh.plain rfl rfl) ?_)) rfl ⟨_, _, rfl, rfl, rfl⟩ ?_
 (repeat (first | refine zb rfl rfl rfl ?_ | refine zR rfl rfl rfl rfl ?_))
 refine yl UB (by repeat (first | exact zx.nil)) rfl ⟨_, _, rfl, rfl, rfl⟩ ?_
 (repeat (first | refine zd.nil ?_ | refine zc rfl rfl rfl ?_ | refine zR rfl rfl rfl rfl ?_))
 exact FW.ret ⟨.inl rfl, yq rfl rfl rfl rfl⟩
end Go.Proofs.Ythjplkjpehdpfaa
