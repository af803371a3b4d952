/-
  Some texts as one: LinSeq, LinGlob, LinChk, LinRef, LinOrder, FmSeq, FmLinz, FmLinC, FmLinI.
-/
import Derived.Test.YtmnmakhpjgjdaaaZDA
import Derived.Test.YtmnmakhpjgjdaaaZQ
import Derived.Test.YtmnmakhpjgjdaaaZR
import Derived.Test.YtmnmakhpjgjdaaaZD
namespace Go.Proofs.Ytmnmakhpjgjdaaa
set_option linter.unusedVariables false
set_option maxHeartbeats 16000000
section
variable {l:List OpV}
end
section
variable {l:List OpV} {c:Int}
end
section
variable {l:List OpV} {K:List Int}
end
section
variable {l:List OpV} {c:Int}
end
section
variable {l:List OpV} {o:List Int}
end
section
variable {l:List OpV}
end
section
open Go.RowKit
theorem zpn {a:Int} (ha:I64 a):Zy Try.prog 3 (.int .i64 a):=⟨rfl,_,Maps.keyOf_int_mk (q:=.i64) zi (zfs ha)⟩
def zat:List (Int×Int)→Int→Int
 | [], _ => 0
 | p :: A, c => if p.1=c then p.2 else zat A c
def zer:List (Int×Int)→Int→Int→List (Int×Int)
 | [], c, v => [(c, v)]
 | p :: A, c, v => if p.1=c then (c, v) :: A else p :: zer A c v
def zhm (p:Int×Int):List FV:=[.int .i64 p.1,.int .i64 p.2]
theorem zex {c v:Int}:∀ {A:List (Int×Int)} (d:Int),zat (zer A c v) d=if c=d then v else zat A d
 | [], d => rfl
 | p::A,d=>by
  unfold zer;by_cases h:p.1=c
  ·rw [if_pos h];show (if c=d then v else zat A d)=if c=d then v else if p.1=d then p.2 else zat A d
   by_cases h2:c=d
   ·rw [if_pos h2,if_pos h2]
   ·rw [if_neg h2,if_neg h2,if_neg za]
  ·rw [if_neg h];show (if p.1=d then p.2 else zat (zer A c v) d)=if c=d then v else if p.1=d then p.2 else zat A d
   rw [zex d];by_cases h2:c=d
   ·rw [if_pos h2,if_pos h2,if_neg za]
   ·rw [if_neg h2,if_neg h2]
theorem zdp {c v:Int}:∀ (A:List (Int×Int)),zj1 (A.map zhm) (.int .i64 c) (.int .i64 v) ((zer A c v).map zhm)
 | [] => .inr ⟨fun row hr => (by cases hr), rfl⟩
 | p ::A=>by
  unfold zer;by_cases h:p.1=c
  ·rw [if_pos h];exact .inl ⟨0,.int .i64 p.2,by subst h;rfl,rfl⟩
  ·rw [if_neg h];rcases zdp (c:=c) (v:=v) A with ⟨j,v0,h1,h2⟩|⟨h1,h2⟩
   ·exact .inl ⟨j+1,v0,by simpa using h1,by rw [List.map_cons,List.map_cons,h2,List.set_cons_succ]⟩
   ·refine .inr ⟨fun row hr=>?_,by rw [List.map_cons,List.map_cons,h2,List.cons_append]⟩;rcases List.mem_cons.1 hr with rfl|hr
    ·intro e;unfold zhm at e;simp only [List.head?_cons,Option.some.injEq,FV.int.injEq,true_and] at e;exact h e
    ·exact h1 row hr
theorem zcp {c:Int}:∀ (A:List (Int×Int)),Xv (A.map zhm) (.int .i64 c) (.int .i64 0) (.int .i64 (zat A c)) (A.any fun p=>decide (p.1=c))
 | [] => .inr ⟨rfl, rfl, fun row hr => (by cases hr)⟩
 | p ::A=>by
  unfold zat;rw [List.any_cons];by_cases h:p.1=c
  ·rw [if_pos h,decide_eq_true h,Bool.true_or];refine .inl ⟨rfl,?_⟩;subst h;exact List.mem_cons_self
  ·rw [if_neg h,decide_eq_false h,Bool.false_or];rcases zcp (c:=c) A with ⟨h1,h2⟩|⟨h1,h2,h3⟩
   ·exact .inl ⟨h1,List.mem_cons_of_mem _ h2⟩
   ·refine .inr ⟨h1,h2,fun row hr=>?_⟩;rcases List.mem_cons.1 hr with rfl|hr
    ·intro e;unfold zhm at e;simp only [List.head?_cons,Option.some.injEq,FV.int.injEq,true_and] at e;exact h e
    ·exact h3 row hr
theorem zdq {A:List (Int×Int)} (h:∀ p∈A,I64 p.1):∀ row∈A.map zhm,∀ kf,row.head? = some kf→Zy Try.prog 3 kf:=fun row hr kf hk=>by
 obtain ⟨p,hp,rfl⟩:=List.mem_map.1 hr;unfold zhm at hk;simp only [List.head?_cons,Option.some.injEq] at hk;subst hk;exact zpn (h p hp)
end
end Go.Proofs.Ytmnmakhpjgjdaaa
