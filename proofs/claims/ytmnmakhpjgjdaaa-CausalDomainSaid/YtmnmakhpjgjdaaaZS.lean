/-
  Some texts as one: LinSeq, LinGlob, LinChk, LinRef, LinOrder, FmSeq, FmLinz, FmLinC, FmLinI.
-/
import Derived.Test.YtmnmakhpjgjdaaaZDA
import Derived.Test.YtmnmakhpjgjdaaaZQ
import Derived.Test.YtmnmakhpjgjdaaaZR
import Derived.Test.YtmnmakhpjgjdaaaZD
namespace Go.Proofs.Ytmnmakhpjgjdaaa
set_option linter.unusedVariables false
set_option maxHeartbeats 16000000
section
variable {l:List OpV}
end
section
variable {l:List OpV} {c:Int}
end
section
variable {l:List OpV} {K:List Int}
end
section
variable {l:List OpV} {c:Int}
end
section
variable {l:List OpV} {o:List Int}
end
section
variable {l:List OpV}
end
section
open Go.RowKit
theorem zpn {a:Int} (ha:I64 a):Zy Try.prog 3 (.int .i64 a):=⟨rfl,_,Maps.keyOf_int_mk (q:=.i64) zj (zfn ha)⟩
def zaq:List (Int×Int)→Int→Int
 | [], _ => 0
 | p :: A, c => if p.1=c then p.2 else zaq A c
def zem:List (Int×Int)→Int→Int→List (Int×Int)
 | [], c, v => [(c, v)]
 | p :: A, c, v => if p.1=c then (c, v) :: A else p :: zem A c v
def zhj (p:Int×Int):List FV:=[.int .i64 p.1,.int .i64 p.2]
theorem zes {c v:Int}:∀ {A:List (Int×Int)} (d:Int),zaq (zem A c v) d=if c=d then v else zaq A d
 | [], d => rfl
 | p::A,d=>by
  unfold zem;by_cases h:p.1=c
  ·rw [if_pos h];show (if c=d then v else zaq A d)=if c=d then v else if p.1=d then p.2 else zaq A d
   by_cases h2:c=d
   ·rw [if_pos h2,if_pos h2]
   ·rw [if_neg h2,if_neg h2,if_neg za]
  ·rw [if_neg h];show (if p.1=d then p.2 else zaq (zem A c v) d)=if c=d then v else if p.1=d then p.2 else zaq A d
   rw [zes d];by_cases h2:c=d
   ·rw [if_pos h2,if_pos h2,if_neg za]
   ·rw [if_neg h2,if_neg h2]
theorem zdl {c v:Int}:∀ (A:List (Int×Int)),zj2 (A.map zhj) (.int .i64 c) (.int .i64 v) ((zem A c v).map zhj)
 | [] => .inr ⟨fun row hr => (by cases hr), rfl⟩
 | p ::A=>by
  unfold zem;by_cases h:p.1=c
  ·rw [if_pos h];exact .inl ⟨0,.int .i64 p.2,by subst h;rfl,rfl⟩
  ·rw [if_neg h];rcases zdl (c:=c) (v:=v) A with ⟨j,v0,h1,h2⟩|⟨h1,h2⟩
   ·exact .inl ⟨j+1,v0,by simpa using h1,by rw [List.map_cons,List.map_cons,h2,List.set_cons_succ]⟩
   ·refine .inr ⟨fun row hr=>?_,by rw [List.map_cons,List.map_cons,h2,List.cons_append]⟩;rcases List.mem_cons.1 hr with rfl|hr
    ·intro e;unfold zhj at e;simp only [List.head?_cons,Option.some.injEq,FV.int.injEq,true_and] at e;exact h e
    ·exact h1 row hr
theorem zcj {c:Int}:∀ (A:List (Int×Int)),Xw (A.map zhj) (.int .i64 c) (.int .i64 0) (.int .i64 (zaq A c)) (A.any fun p=>decide (p.1=c))
 | [] => .inr ⟨rfl, rfl, fun row hr => (by cases hr)⟩
 | p ::A=>by
  unfold zaq;rw [List.any_cons];by_cases h:p.1=c
  ·rw [if_pos h,decide_eq_true h,Bool.true_or];refine .inl ⟨rfl,?_⟩;subst h;exact List.mem_cons_self
  ·rw [if_neg h,decide_eq_false h,Bool.false_or];rcases zcj (c:=c) A with ⟨h1,h2⟩|⟨h1,h2,h3⟩
   ·exact .inl ⟨h1,List.mem_cons_of_mem _ h2⟩
   ·refine .inr ⟨h1,h2,fun row hr=>?_⟩;rcases List.mem_cons.1 hr with rfl|hr
    ·intro e;unfold zhj at e;simp only [List.head?_cons,Option.some.injEq,FV.int.injEq,true_and] at e;exact h e
    ·exact h3 row hr
theorem zdm {A:List (Int×Int)} (h:∀ p∈A,I64 p.1):∀ row∈A.map zhj,∀ kf,row.head? = some kf→Zy Try.prog 3 kf:=fun row hr kf hk=>by
 obtain ⟨p,hp,rfl⟩:=List.mem_map.1 hr;unfold zhj at hk;simp only [List.head?_cons,Option.some.injEq] at hk;subst hk;exact zpn (h p hp)
end
end Go.Proofs.Ytmnmakhpjgjdaaa
