/-
  Some texts as one: LinSeq, LinGlob, LinChk, LinRef, LinOrder, FmSeq, FmLinz, FmLinC, FmLinI.
-/
import Derived.Test.YtmnmakhpjgjdaaaZDA
import Derived.Test.YtmnmakhpjgjdaaaZQ
import Derived.Test.YtmnmakhpjgjdaaaZR
import Derived.Test.YtmnmakhpjgjdaaaZD
/-
 The order of a key's operations (linear.sequence),in plain Lean: the clusters of a key without violations,one after the other.
-/
namespace Go.Proofs.Ytmnmakhpjgjdaaa
set_option linter.unusedVariables false

section
variable {l:List OpV}
end

section
variable {l:List OpV} {c:Int}
end
end Go.Proofs.Ytmnmakhpjgjdaaa
/-
 A linearization of a history without violations (linear.linearization),in plain Lean.
-/
namespace Go.Proofs.Ytmnmakhpjgjdaaa
set_option linter.unusedVariables false

section
variable {l:List OpV} {K:List Int}
end
end Go.Proofs.Ytmnmakhpjgjdaaa
/-
 linear.Check's verdict,in plain Lean.
-/
namespace Go.Proofs.Ytmnmakhpjgjdaaa
set_option linter.unusedVariables false

end Go.Proofs.Ytmnmakhpjgjdaaa
/-
 The reference's verdict of layer 21,in plain Lean: it is the program's.
-/
namespace Go.Proofs.Ytmnmakhpjgjdaaa
set_option linter.unusedVariables false

section
variable {l:List OpV} {c:Int}
end
end Go.Proofs.Ytmnmakhpjgjdaaa
/-
 Linearizations as lists,in plain Lean: the reference's and the program's way to decide them;one exists where the verdict holds.
-/
namespace Go.Proofs.Ytmnmakhpjgjdaaa
set_option linter.unusedVariables false

section
variable {l:List OpV} {o:List Int}
end
section
variable {l:List OpV}
end
end Go.Proofs.Ytmnmakhpjgjdaaa
/-
 linear.sequence,at plain values.
-/
namespace Go.Proofs.Ytmnmakhpjgjdaaa
set_option linter.unusedVariables false
open Go.RowKit

end Go.Proofs.Ytmnmakhpjgjdaaa
/-
 linear.linearization,at plain values.
-/
namespace Go.Proofs.Ytmnmakhpjgjdaaa
set_option linter.unusedVariables false
open Go.RowKit

theorem zme {a:Int} (ha:I64 a):Zr Try.prog 3 (.int .i64 a):=⟨rfl,_,Maps.keyOf_int_mk (q:=.i64) (by kernel_rfl) (zdC ha)⟩
end Go.Proofs.Ytmnmakhpjgjdaaa
/-
 linear.Check,at plain values.
-/
namespace Go.Proofs.Ytmnmakhpjgjdaaa
set_option linter.unusedVariables false
open Go.RowKit

end Go.Proofs.Ytmnmakhpjgjdaaa
/-
 linear.IsOrder,at plain values.
-/
namespace Go.Proofs.Ytmnmakhpjgjdaaa
set_option linter.unusedVariables false
open Go.RowKit

def Uu:List (Int×Int)→Int→Int
 | [], _ => 0
 | p :: A, c => if p.1=c then p.2 else Uu A c
def zcO:List (Int×Int)→Int→Int→List (Int×Int)
 | [], c, v => [(c, v)]
 | p :: A, c, v => if p.1=c then (c, v) :: A else p :: zcO A c v
def zfe (p:Int×Int):List FV:=[.int .i64 p.1,.int .i64 p.2]
theorem zcT {c v:Int}:∀ {A:List (Int×Int)} (d:Int),Uu (zcO A c v) d=if c=d then v else Uu A d
 | [], d => rfl
 | p::A,d=>by
  unfold zcO
  by_cases h:p.1=c
  ·rw [if_pos h]
   show (if c=d then v else Uu A d)=if c=d then v else if p.1=d then p.2 else Uu A d
   by_cases h2:c=d
   ·rw [if_pos h2,if_pos h2]
   ·rw [if_neg h2,if_neg h2,if_neg (by omega)]
  ·rw [if_neg h]
   show (if p.1=d then p.2 else Uu (zcO A c v) d)=if c=d then v else if p.1=d then p.2 else Uu A d
   rw [zcT d]
   by_cases h2:c=d
   ·rw [if_pos h2,if_pos h2,if_neg (by omega)]
   ·rw [if_neg h2,if_neg h2]
theorem zb2 {c v:Int}:∀ (A:List (Int×Int)),zhn (A.map zfe) (.int .i64 c) (.int .i64 v) ((zcO A c v).map zfe)
 | [] => .inr ⟨fun row hr => (by cases hr), rfl⟩
 | p ::A=>by
  unfold zcO
  by_cases h:p.1=c
  ·rw [if_pos h]
   exact .inl ⟨0,.int .i64 p.2,by subst h;rfl,rfl⟩
  ·rw [if_neg h]
   rcases zb2 (c:=c) (v:=v) A with ⟨j,v0,h1,h2⟩|⟨h1,h2⟩
   ·exact .inl ⟨j+1,v0,by simpa using h1,by rw [List.map_cons,List.map_cons,h2,List.set_cons_succ]⟩
   ·refine .inr ⟨fun row hr=>?_,by rw [List.map_cons,List.map_cons,h2,List.cons_append]⟩
    rcases List.mem_cons.1 hr with rfl|hr
    ·intro e
     unfold zfe at e
     simp only [List.head?_cons,Option.some.injEq,FV.int.injEq,true_and] at e
     exact h e
    ·exact h1 row hr
theorem zbe {c:Int}:∀ (A:List (Int×Int)),YZ (A.map zfe) (.int .i64 c) (.int .i64 0) (.int .i64 (Uu A c)) (A.any fun p=>decide (p.1=c))
 | [] => .inr ⟨rfl, rfl, fun row hr => (by cases hr)⟩
 | p ::A=>by
  unfold Uu
  rw [List.any_cons]
  by_cases h:p.1=c
  ·rw [if_pos h,decide_eq_true h,Bool.true_or]
   refine .inl ⟨rfl,?_⟩
   subst h
   exact List.mem_cons_self
  ·rw [if_neg h,decide_eq_false h,Bool.false_or]
   rcases zbe (c:=c) A with ⟨h1,h2⟩|⟨h1,h2,h3⟩
   ·exact .inl ⟨h1,List.mem_cons_of_mem _ h2⟩
   ·refine .inr ⟨h1,h2,fun row hr=>?_⟩
    rcases List.mem_cons.1 hr with rfl|hr
    ·intro e
     unfold zfe at e
     simp only [List.head?_cons,Option.some.injEq,FV.int.injEq,true_and] at e
     exact h e
    ·exact h3 row hr
theorem zb3 {A:List (Int×Int)} (h:∀ p∈A,I64 p.1):∀ row∈A.map zfe,∀ kf,row.head? = some kf→Zr Try.prog 3 kf:=fun row hr kf hk=>by
 obtain ⟨p,hp,rfl⟩:=List.mem_map.1 hr
 unfold zfe at hk
 simp only [List.head?_cons,Option.some.injEq] at hk
 subst hk
 exact zme (h p hp)
end Go.Proofs.Ytmnmakhpjgjdaaa
