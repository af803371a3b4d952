/-
  Some texts as one: Row, RowOps, RowFm, SortPlain, FmOnce, FmHas, FmKeys, FmBefI, WfPlain, KeysPlain, KeyTwo, FmQt, FmFam, FmSucc.
-/
import Derived.Test.YtmnmakhpjgjdaaaZD
import Derived.ProofKit
import Derived.OpenShut
import Derived.ShutString
import Derived.ChangeOld
import Derived.Below
import Derived.Deep.Slices
import Derived.Deep.Fields
import Derived.ChangeSame
import Derived.Test.YtmnmakhpjgjdaaaZFmM
import Derived.DeepKeys4
import Derived.Maps.Keyed
import Derived.Test.YtmnmakhpjgjdaaaZFmDw
import Derived.Test.YtmnmakhpjgjdaaaZC
/-
 How the arguments of a law read: slices of numbers,numbers,arrays of three numbers,slices of operations.
-/
namespace Go.Proofs.Ytmnmakhpjgjdaaa
set_option linter.unusedVariables false
set_option maxRecDepth 100000
open Go.ChangeShapes Go.WideShapes Go.ChangeAt Go.RowKit Go.Deep

theorem zdu {x:Int} (h:(Lit.int .i64 x).wf=true):I64 x:=by
 simp [Lit.wf,IntKind.min,IntKind.max,IntKind.signed,IntKind.bits] at h
 unfold I64
 omega

section
variable {H:Type} {enc:TypeId×Value→H} {W:World} {base:Nat} {spare:Nat→Bool} {held:Bool} {v:Value} {d:DataW H} {p:List MemPlace} {r:Reach} {b0:Nat}

theorem zjb {w:World} {a:Addr} {u:Value} (h:w.cell? a=some u):a=⟨a.block,a.off,none⟩:=by
 obtain ⟨b,o,s⟩:=a
 cases s with
 | none => rfl
 | some s =>
  unfold World.cell? at h
  simp only [Option.isSome_some,if_true] at h
  split at h <;> cases h
theorem zjq (a:Addr) (h:a=⟨a.block,a.off,none⟩) (n:Nat):a.add n=⟨a.block,a.off+n,none⟩:=by
 obtain ⟨b,o,s⟩:=a
 obtain rfl:s=none:=by injection h
 unfold Addr.add
 split
 ·subst n;rfl
 ·rfl

theorem zjX (ht:Try.prog.underlying 3=some (.int .i64)) (hv:Value.okWide Try.prog W r b0 3 v) (h:DataW.Trod enc Try.prog W base spare held 3 v d p):∃ x,v=.int .i64 x∧I64 x:=by
 obtain ⟨x,rfl,_,_,wx⟩:=open_int ht hv h
 exact ⟨x,rfl,zdu wx⟩

theorem ziI (hv:Value.okWide Try.prog W r b0 22 v) (h:DataW.Trod enc Try.prog W base spare held 22 v d p) :
  ∃ A c l,v=.slice A l.length c∧Sl Ul W W.heap.size A l∧(∀ x∈l,I64 x)∧l.length≤9223372036854775807:=by
 obtain ⟨a0,len0,cap0,rfl⟩:=okWide_slice Try.underlying22 hv
 obtain ⟨fuel,hf⟩:=h
 rcases open_ints Try.underlying22 Try.underlying3 (by kernel_rfl) hf with ⟨hcs,_⟩|⟨x,l,c,zs,hcs,_,hl,hm,hz,_,hcell,hwz⟩
 ·simp [Value.cells] at hcs
  obtain ⟨rfl,rfl,rfl⟩:=hcs
  exact ⟨none,0,[],rfl,Sl.nil_ _ _ _ _,by simp,Nat.zero_le _⟩
 ·simp [Value.cells] at hcs
  obtain ⟨rfl,rfl,rfl⟩:=hcs
  have hlz:len0≤zs.length:=by rw [hz];split <;> omega
  have hlen:(zs.take len0).length=len0:=by simp;omega
  refine ⟨some x,cap0,zs.take len0,by rw [hlen],fun hne=>?_,fun y hy=>zdu (hwz y (List.mem_of_mem_take hy)),by unfold maxLen at hm;omega⟩
  have h0:0<len0:=by
   rcases Nat.eq_zero_or_pos len0 with e|e
   ·subst e;simp at hne
   ·exact e
  have hc0:=hcell 0 (by omega)
  rw [show x.add 0=x by simp [Addr.add]] at hc0
  have hs:=zjb hc0
  refine ⟨x.block,x.off,by rw [← hs],World.block_lt_of_cell? W x hc0,fun j u hu=>?_⟩
  rw [Zg,List.getElem?_map,List.getElem?_take] at hu
  split at hu
  ·have hj:j<zs.length:=by omega
   have:=hcell j hj
   rw [zjq x hs] at this
   rw [this]
   simpa [hj] using hu
  ·simp at hu

end
end Go.Proofs.Ytmnmakhpjgjdaaa
/-
 How two more kinds of argument read: slices of operations,arrays of three numbers.
-/
namespace Go.Proofs.Ytmnmakhpjgjdaaa
set_option linter.unusedVariables false
set_option maxRecDepth 100000
open Go.ChangeShapes Go.WideShapes Go.ChangeAt Go.RowKit Go.Deep
section
variable {H:Type} {enc:TypeId×Value→H} {W:World} {base:Nat} {spare:Nat→Bool} {held:Bool} {v:Value} {d:DataW H} {p:List MemPlace} {r:Reach} {b0:Nat}

end
end Go.Proofs.Ytmnmakhpjgjdaaa
/-
 How the arguments of a law read,as plain values.
-/
namespace Go.Proofs.Ytmnmakhpjgjdaaa
set_option linter.unusedVariables false
set_option maxRecDepth 100000
open Go.ChangeShapes Go.WideShapes Go.ChangeAt Go.RowKit Go.Deep

section
variable {H:Type} {enc:TypeId×Value→H} {W:World} {base:Nat} {spare:Nat→Bool} {held:Bool} {v:Value} {d:DataW H} {p:List MemPlace} {r:Reach} {b0:Nat}
theorem zkJ (hv:Value.okWide Try.prog W r b0 22 v) (h:DataW.Trod enc Try.prog W base spare held 22 v d p) :
  ∃ l:List Int,Rd W (fun b=>b<W.heap.size) v (.list 1 (l.map zy))∧(∀ x∈l,I64 x)∧l.length≤9223372036854775807:=by
 have h':=h
 obtain ⟨A,c,l,rfl,s,i,m⟩:=ziI hv h
 refine ⟨l,?_,i,m⟩
 obtain ⟨fuel,hf⟩:=h'
 rcases open_ints Try.underlying22 Try.underlying3 (by kernel_rfl) hf with ⟨hcs,_⟩|⟨x,l',c',zs,hcs,_,hl,hm,hz,_,hcell,hwz⟩
 ·simp [Value.cells] at hcs
  obtain ⟨rfl,h0,rfl⟩:=hcs
  exact zeg.to s (by simp [h0])
 ·simp [Value.cells] at hcs
  obtain ⟨rfl,h0,rfl⟩:=hcs
  exact zeg.to s (by omega)
theorem zlF (hv:Value.okWide Try.prog W r b0 3 v) (h:DataW.Trod enc Try.prog W base spare held 3 v d p):∃ x:Int,Rd W (fun b=>b<W.heap.size) v (.int .i64 x)∧I64 x:=by
 obtain ⟨x,rfl,i⟩:=zjX Try.underlying3 hv h
 exact ⟨x,.int _ _,i⟩
end
end Go.Proofs.Ytmnmakhpjgjdaaa
/-
 Ascending lists: equal when they have the same members;sorting and compacting.
-/
namespace Go.Proofs.Ytmnmakhpjgjdaaa
set_option linter.unusedVariables false
open Go.RowKit

theorem zer {zs:List Int} (h:zs.Pairwise (·≤·)):(Lib.compact zs).Pairwise (· < ·):=by
 unfold Lib.compact Lib.compactUpTo
 have hs:(List.range zs.length).Pairwise (· < ·):=List.pairwise_lt_range
 rw [List.pairwise_map]
 refine ((hs.filter (Lib.keeps zs.toArray)).imp_of_mem ?_)
 intro i j hi hj hij
 have hj':=List.mem_filter.1 hj
 have hjl:j<zs.length:=List.mem_range.1 hj'.1
 have hk:=hj'.2
 have hil:i<zs.length:=by omega
 have e1:zs.toArray[i]! = zs[i]:=by simp [hil]
 have e2:zs.toArray[j]! = zs[j]:=by simp [hjl]
 have e3:zs.toArray[j - 1]! = zs[j - 1]:=by simp [show j - 1<zs.length by omega]
 have hk2:zs[j]≠zs[j - 1]:=by
  unfold Lib.keeps at hk
  rw [e2,e3] at hk
  have:j≠0:=by omega
  simpa [this] using hk
 rw [e1,e2]
 have h1:zs[i]≤zs[j - 1]:=by
  rcases Nat.lt_or_ge i (j - 1) with hl|hl
  ·exact List.pairwise_iff_getElem.1 h i (j - 1) hil (by omega) hl
  ·have:i=j - 1:=by omega
   subst this;exact Int.le_refl _
 have h2:zs[j - 1]≤zs[j]:=List.pairwise_iff_getElem.1 h (j - 1) j (by omega) hjl (by omega)
 omega
theorem zes {zs:List Int} {y:Int}:y∈Lib.compact zs↔y∈zs:=by
 unfold Lib.compact Lib.compactUpTo
 constructor
 ·intro h
  obtain ⟨j,hj,rfl⟩:=List.mem_map.1 h
  have hjl:j<zs.length:=List.mem_range.1 (List.mem_filter.1 hj).1
  have e2:zs.toArray[j]! = zs[j]:=by simp [hjl]
  rw [e2]
  exact List.getElem_mem hjl
 ·intro h
  have key:∀ n j,j≤n→(hj:j<zs.length)→zs[j]=y→∃ k,k∈(List.range zs.length).filter (Lib.keeps zs.toArray)∧zs.toArray[k]! = y:=by
   intro n
   induction n with
   | zero =>
    intro j hjn hj e
    have:j=0:=by omega
    subst this
    exact ⟨0,List.mem_filter.2 ⟨List.mem_range.2 hj,by simp [Lib.keeps]⟩,by simp [hj,e]⟩
   | succ n ih=>
    intro j hjn hj e
    have e2:zs.toArray[j]! = zs[j]:=by simp [hj]
    by_cases hk:Lib.keeps zs.toArray j=true
    ·exact ⟨j,List.mem_filter.2 ⟨List.mem_range.2 hj,hk⟩,by rw [e2,e]⟩
    ·have hj0:j≠0:=by rintro rfl;exact hk (by simp [Lib.keeps])
     have e3:zs.toArray[j - 1]! = zs[j - 1]:=by simp [show j - 1<zs.length by omega]
     have:zs[j]=zs[j - 1]:=by
      unfold Lib.keeps at hk
      rw [e2,e3] at hk
      simpa [hj0] using hk
     exact ih (j - 1) (by omega) (by omega) (by rw [← this];exact e)
  obtain ⟨j,hj,e⟩:=List.getElem_of_mem h
  obtain ⟨k,h1,h2⟩:=key j j (Nat.le_refl _) hj e
  exact List.mem_map.2 ⟨k,h1,h2⟩
theorem zja (zs:List Int):(zs.mergeSort fun x y=>decide (x≤y)).Pairwise (·≤·):=by
 have:=List.pairwise_mergeSort (le:=fun x y:Int=>decide (x≤y)) (by intro a b c h1 h2;simp at *;omega) (by intro a b;simp;omega) zs
 exact this.imp (by intro a b h;simpa using h)
end Go.Proofs.Ytmnmakhpjgjdaaa
/-
 The small functions of layers 01,21 and 24,at plain values.
-/
namespace Go.Proofs.Ytmnmakhpjgjdaaa
set_option linter.unusedVariables false
open Go.RowKit

theorem zcF (a b:List Int) (ha:a.length≤1000000000) (hb:b.length≤1000000000):yn Try.prog 42 [.list 1 (a.map zy),.list 1 (b.map zy)] .fr (.bool (decide (a=b))):=by
 refine yn.of_body (c:=(ZO Try.prog zI zA 26)) ⟨Try.func42,rfl,Try.ntmps42,by kernel_rfl⟩ (by simp [FV.hand]) (by exact Nat.le_of_ble_eq_true rfl) rfl ?_
 change FW _ _ _ ⟨[(0,.list 1 (a.map zy)),(1,.list 1 (b.map zy))],[]⟩
 (repeat (first|refine FW.seq ?_|refine FW.region ?_|refine zc.nil ?_|refine zb rfl rfl rfl ?_|refine za rfl rfl rfl ?_|refine zp rfl rfl (by exact List.length_map _) rfl rfl ?_|refine xt rfl rfl rfl rfl ?_))
 refine FW.cond rfl (fun h=>?_) (fun h=>?_)
 ·(repeat (first|refine FW.seq ?_|refine FW.region ?_|refine zc.nil ?_|refine zb rfl rfl rfl ?_))
  refine FW.ret ⟨.inl rfl,zU rfl rfl ?_ rfl⟩
  have:a≠b:=by rintro rfl;simp at h
  simp [this];rfl
 ·have hlen:a.length=b.length:=by simp at h;omega
  (repeat (first|refine FW.seq ?_|refine FW.region ?_|refine FW.block ?_|refine FW.skip ?_|refine zc.nil ?_|refine zb rfl rfl rfl ?_))
  refine FW.loop (fun k:Nat=>⟨[(0,.list 1 (a.map zy)),(1,.list 1 (b.map zy)),(5,.int .i64 k)],[]⟩) (fun k=>k≤a.length∧a.take k=b.take k) (fun k=>a.length - k) 0 (by simp) (FLe.cv [] (by repeat (first|exact .nil)) (by repeat (first|exact .nil|refine .cons (.plain rfl rfl rfl) ?_))) ?_
  rintro k ⟨hk,hab⟩
  (repeat (first|refine FW.seq ?_|refine FW.region ?_|refine zc.nil ?_|refine za rfl rfl rfl ?_|refine zp rfl rfl (by exact List.length_map _) rfl rfl ?_|refine zX rfl rfl rfl rfl ?_))
  refine FW.cond rfl (fun h=>?_) (fun h=>?_)
  ·have hlt:k<a.length:=by simpa using h
   clear h
   (repeat (first|refine FW.seq ?_|refine FW.block ?_|refine FW.skip ?_|refine FW.draw ?_|refine zF.nil ?_|refine zS rfl rfl rfl ?_|refine zdQ rfl rfl rfl rfl ?_|refine ZI rfl rfl rfl rfl rfl rfl (by simp;omega) rfl rfl ?_|refine Za rfl rfl rfl (by simp;omega) (by first|exact zf (by omega)|rfl) rfl rfl rfl rfl ?_))
   refine ⟨by kernel_rfl,?_⟩
   refine FW.cond rfl (fun h=>?_) (fun h=>?_)
   ·(repeat (first|refine FW.seq ?_|refine FW.region ?_|refine zc.nil ?_|refine zb rfl rfl rfl ?_))
    refine FW.ret ⟨.inl rfl,zU rfl rfl ?_ rfl⟩
    have:a≠b:=by rintro rfl;simp at h
    simp [this];rfl
   ·(repeat (first|refine FW.region ?_|refine FW.skip ?_|refine zc.nil ?_|refine zb rfl rfl rfl ?_|refine za rfl rfl rfl ?_|refine zu rfl rfl (by omega) rfl rfl ?_))
    refine ⟨k+1,⟨by omega,?_⟩,by omega,(FLe.cv [] (by repeat (first|exact .nil)) (by repeat (first|exact .nil|refine .cons (.plain rfl rfl rfl) ?_)))⟩
    have h1:nth a k=nth b k:=by simpa using h
    rw [List.take_succ_eq_append_getElem hlt,List.take_succ_eq_append_getElem (by omega),hab,← nth_eq hlt,← nth_eq (by omega),h1]
  ·(repeat (first|refine FW.seq ?_|refine FW.region ?_|refine FW.exit ?_|refine zc.nil ?_|refine zb rfl rfl rfl ?_))
   refine FW.ret ⟨.inl rfl,zU rfl rfl ?_ rfl⟩
   have:k=a.length:=by simp at h;omega
   subst this
   have:a=b:=by rw [List.take_of_length_le (Nat.le_refl _),List.take_of_length_le (by omega)] at hab;exact hab
   simp [this];rfl

end Go.Proofs.Ytmnmakhpjgjdaaa
/-
 simproofref01.Has,at plain values.
-/
namespace Go.Proofs.Ytmnmakhpjgjdaaa
set_option linter.unusedVariables false
open Go.RowKit
def zef (l:List Int) (n:Int):Bool:=decide (n∈l)
set_option maxHeartbeats 1000000 in
theorem zjJ (l:List Int) (n:Int) (hl:l.length≤1000000000):yn Try.prog 23 [.list 1 (l.map zy),.int .i64 n] .fr (.bool (zef l n)):=by
 refine yn.of_body (c:=(ZO Try.prog zI zA 18)) ⟨Try.func23,rfl,Try.ntmps23,by kernel_rfl⟩ (by simp [FV.hand]) (by exact Nat.le_of_ble_eq_true rfl) rfl ?_
 change FW _ _ _ ⟨[(0,.list 1 (l.map zy)),(1,.int .i64 n)],[]⟩
 (repeat (first|refine FW.seq ?_|refine FW.region ?_|refine FW.block ?_|refine zc.nil ?_|refine zb rfl rfl rfl ?_))
 refine FW.loop (fun k:Nat=>⟨[(0,.list 1 (l.map zy)),(1,.int .i64 n),(5,.int .i64 k)],[]⟩) (fun k=>k≤l.length∧n∉l.take k) (fun k=>l.length - k) 0 (by simp) (FLe.cv [] (by repeat (first|exact .nil)) (by repeat (first|exact .nil|refine .cons (.plain rfl rfl rfl) ?_))) ?_
 rintro k ⟨hk,hn⟩
 (repeat (first|refine FW.seq ?_|refine FW.region ?_|refine zc.nil ?_|refine za rfl rfl rfl ?_|refine zp rfl rfl (by exact List.length_map _) rfl rfl ?_|refine zX rfl rfl rfl rfl ?_))
 refine FW.cond rfl (fun h=>?_) (fun h=>?_)
 ·have hlt:k<l.length:=by simpa using h
  (repeat (first|refine FW.seq ?_|refine FW.region ?_|refine FW.block ?_|refine FW.skip ?_|refine zc.nil ?_|refine za rfl rfl rfl ?_|refine zn rfl rfl rfl rfl rfl rfl (by simp;omega) rfl rfl ?_|refine zj rfl rfl rfl (by simp;omega) (by first|exact zf (by omega)|rfl) rfl rfl rfl rfl ?_|refine yG rfl rfl rfl rfl ?_))
  refine FW.cond rfl (fun h=>?_) (fun h=>?_)
  ·(repeat (first|refine FW.seq ?_|refine FW.region ?_|refine zc.nil ?_|refine zb rfl rfl rfl ?_))
   refine FW.ret ⟨.inl rfl,?_⟩
   have e:zef l n=true:=by
    have:nth l k=n:=by simpa using h
    simp only [zef,decide_eq_true_eq,← this]
    exact zC hlt
   rw [e]
   exact .flat (.cons (.tmp 4 rfl rfl) .nil) rfl rfl
  ·(repeat (first|refine FW.region ?_|refine FW.skip ?_|refine zc.nil ?_|refine zb rfl rfl rfl ?_|refine za rfl rfl rfl ?_|refine zu rfl rfl (by omega) rfl rfl ?_))
   refine ⟨k+1,⟨by omega,?_⟩,by omega,(FLe.cv [] (by repeat (first|exact .nil)) (by repeat (first|exact .nil|refine .cons (.plain rfl rfl rfl) ?_)))⟩
   have:nth l k≠n:=by simpa using h
   rw [List.take_succ_eq_append_getElem hlt,List.mem_append]
   rintro (h1|h1)
   ·exact hn h1
   ·rw [nth_eq hlt] at this
    simp at h1;exact this h1.symm
 ·(repeat (first|refine FW.seq ?_|refine FW.region ?_|refine FW.exit ?_|refine zc.nil ?_|refine zb rfl rfl rfl ?_))
  refine FW.ret ⟨.inl rfl,?_⟩
  have e:zef l n=false:=by
   have:k=l.length:=by simp at h;omega
   subst this
   simpa [zef] using hn
  rw [e]
  exact .flat (.cons (.tmp 4 rfl rfl) .nil) rfl rfl
end Go.Proofs.Ytmnmakhpjgjdaaa
/-
 The keys of a history: the function's and the reference's,at plain values.
-/
namespace Go.Proofs.Ytmnmakhpjgjdaaa
set_option linter.unusedVariables false
open Go.RowKit

end Go.Proofs.Ytmnmakhpjgjdaaa
/-
 Before,of whatever numbers,at plain values.
-/
namespace Go.Proofs.Ytmnmakhpjgjdaaa
set_option linter.unusedVariables false
open Go.RowKit

end Go.Proofs.Ytmnmakhpjgjdaaa
/-
 Lists of operations that are histories,told by pairs;what keeps them so.
-/
namespace Go.Proofs.Ytmnmakhpjgjdaaa
set_option linter.unusedVariables false

def zmq (a b:OpV):Prop:=a.call<b.call∧(a.done=true→a.ret≠b.call∧(b.done=true→b.ret≠a.ret))∧(a.p=b.p→a.done=true∧a.ret≤b.call)
structure WFH (l:List OpV):Prop where
 len:l.length≤300
 wf:∀ o∈l,wfB o=true
 rel:l.Pairwise zmq

theorem WFH.pair {l:List OpV} (h:WFH l) {i j:Nat} (hij:i<j) (hj:j<l.length):zmq (nth l i) (nth l j):=by
 rw [nth_eq hj,nth_eq (show i<l.length by omega)]
 exact List.pairwise_iff_getElem.1 h.rel i j (by omega) hj hij
theorem WFH.at {l:List OpV} (h:WFH l) {i:Nat} (hi:i<l.length):wfB (nth l i)=true:=h.wf _ (zC hi)
theorem zke {o:OpV} (h:wfB o=true):o.call<o.ret:=by
 simp only [wfB,Bool.and_eq_true,decide_eq_true_eq] at h
 omega
theorem WFH.err {l:List OpV} (h:WFH l) {k:Nat} (hk:k<l.length):zcQ l k=0:=by
 unfold zcQ
 rw [if_neg (by rw [h.at hk];decide)]
 rw [if_neg (fun e=>by have:=(h.pair (show k - 1<k by omega) hk).1;omega)]
 rw [if_neg (fun e=>?_),if_neg (fun e=>?_)]
 ·obtain ⟨e1,e2⟩:=e
  obtain ⟨q,hq⟩:=Option.isSome_iff_exists.1 e1
  rw [hq] at e2
  simp only [Option.getD_some] at e2
  obtain ⟨m,hm,hmq,hmp⟩:=Wg hq
  subst hmq
  obtain ⟨h1,h2⟩:=(h.pair hm hk).2.2 hmp
  rcases e2 with e2|e2
  ·rw [h1] at e2;cases e2
  ·omega
 ·have ret:∀ x,zcz l k x=true→∃ m,m<k∧(nth l m).done=true∧(nth l m).ret=x:=fun x hx=>by
   unfold zcz at hx
   obtain ⟨m,h1,_,h3⟩:=Ww hx
   simp only [Bool.and_eq_true,beq_iff_eq] at h3
   exact ⟨m,h1,h3⟩
  simp only [Bool.or_eq_true,Bool.and_eq_true] at e
  rcases e with e|⟨hd,e|e⟩
  ·obtain ⟨m,h1,h2,h3⟩:=ret _ e
   exact ((h.pair h1 hk).2.1 h2).1 h3
  ·obtain ⟨m,h1,h2,h3⟩:=ret _ e
   exact ((h.pair h1 hk).2.1 h2).2 hd h3.symm
  ·unfold WB at e
   obtain ⟨j,_,hj,h3⟩:=Ww e
   simp only [beq_iff_eq] at h3
   have hc:=zke (h.at hk)
   rcases Nat.lt_trichotomy j k with h4|h4|h4
   ·have:=(h.pair h4 hk).1;omega
   ·subst h4;omega
   ·exact ((h.pair h4 hj).2.1 hd).1 h3.symm
theorem WFH.check {l:List OpV} (h:WFH l):xw l=0:=by
 unfold xw
 rw [if_neg (by have:=h.len;omega)]
 exact ZC _ _ fun j _ hj=>h.err (by omega)

theorem WFH.sub {l l' : List OpV} (h:WFH l) (hs:l'.Sublist l):WFH l':=⟨Nat.le_trans hs.length_le h.len,fun o ho=>h.wf o (hs.subset ho),h.rel.sublist hs⟩
end Go.Proofs.Ytmnmakhpjgjdaaa
/-
 The two lists of a history's keys are equal: both ascend and have the same members.
-/
namespace Go.Proofs.Ytmnmakhpjgjdaaa
set_option linter.unusedVariables false
open Go.RowKit

end Go.Proofs.Ytmnmakhpjgjdaaa
/-
 Keys of maps that are structs of two ints.
-/
namespace Go.Proofs.Ytmnmakhpjgjdaaa
set_option linter.unusedVariables false
open Go.RowKit

theorem zia {P:Program} {k i:TypeId} {fs:Array Field} (hu:P.underlying k=some (.struct fs)) (hf:fs.toList.map (fun f=>(f.type,f.offset))=[(i,0),(i,1)]) (hn:fs.all (·.name != "_")=true)
  (hi:P.underlying i=some (.int .i64)) (c1:P.cellsOf i=1) (c2:P.cellsOf k=2) (hk:P.keyType k=true) (n:Nat) (ht:P.types.size=n+1) {a b:Int} (ha:(Lit.int .i64 a).wf=true) (hb:(Lit.int .i64 b).wf=true) :
  ∃ l,keyOf P k (.agg #[.int .i64 a,.int .i64 b])=some l:=by
 have hfs:∃ f g,fs.toList=[f,g]∧f.type=i∧f.offset=0∧g.type=i∧g.offset=1:=by
  generalize fs.toList=l at hf
  rcases l with _|⟨f,_|⟨g,_|⟨h,t⟩⟩⟩ <;> simp at hf
  exact ⟨f,g,rfl,hf.1.1,hf.1.2,hf.2.1,hf.2.2⟩
 obtain ⟨f,g,hl,f1,f2,g1,g2⟩:=hfs
 have one:∀ x,(Lit.int .i64 x).wf=true→P.keyLits (n+1) i [.int .i64 x]=some [.int .i64 x]:=fun x hx=>by
  unfold Program.keyLits
  rw [hi]
  simp [hx]
 have two:P.keyLits (P.types.size+1) k [.int .i64 a,.int .i64 b]=some [.int .i64 a,.int .i64 b]:=by
  unfold Program.keyLits
  rw [hu]
  have hall:(fs.toList.all fun x=>x.name != "_")=true:=by
   rw [Array.all_toList];exact hn
  simp only
  rw [if_pos ⟨by rw [c2];rfl,by simpa using hn⟩,hl,ht]
  simp [f1,f2,g1,g2,c1,one a ha,one b hb]
 unfold keyOf
 rw [hu]
 refine ⟨.string (keyBytes [.int .i64 a,.int .i64 b]),?_⟩
 have hfm:(Value.agg #[.int .i64 a,.int .i64 b]).formed P k=true:=by simp [Value.formed,hu,c2]
 simp only [hk,hfm,Bool.and_self,if_true]
 rw [show (Value.agg #[.int .i64 a,.int .i64 b]).cells.toList=[.int .i64 a,.int .i64 b] from rfl,two]
 rfl

theorem zkN:laidOutB Try.prog=true:=by kernel_rfl
def zka (P:Program) (k:TypeId):Array Field:=match P.underlying k with|some (.struct fs)=>fs|_=>#[]
def zcR (a b:Int):FV:=.agg [.int .i64 a,.int .i64 b]
theorem zdC {a:Int} (h:I64 a):(Lit.int .i64 a).wf=true:=by
 have h1:IntKind.i64.min = -9223372036854775808:=by kernel_rfl
 have h2:IntKind.i64.max=9223372036854775807:=by kernel_rfl
 unfold I64 at h
 simp [Lit.wf,h1,h2,h]
end Go.Proofs.Ytmnmakhpjgjdaaa
/-
 A region that draws its order and only reads: what nothing orders is apart whatever is read there,so one look at the text is enough.
-/
namespace Go.Proofs.Ytmnmakhpjgjdaaa
set_option linter.unusedVariables false
open Go.RowKit

/-! the same look,reckoned on numbers -/
end Go.Proofs.Ytmnmakhpjgjdaaa
/-
 Families of objects,one of them for each number of a range: their names told anew.
-/
namespace Go.Proofs.Ytmnmakhpjgjdaaa
set_option linter.unusedVariables false
open Go.RowKit

def zak (k:Nat):Nat→List (Nat×zh)
 | 0 => []
 | m+1 => (k, {}) :: zak (k+1) m
def Yp (N:Nat):List (Nat×zh):=zak 0 N
def Vr (B n:Nat) (f:Nat→zh):List (Nat×zh):=(List.range n).map fun v=>(B+v,f v)
theorem ZE {α:Type} {d:α}:∀ {l m:List (Nat×α)} {k:Nat},look d (l++m) k=if l.any (fun p=>Nat.beq p.1 k) then look d l k else look d m k
 | [], m, k => by simp
 | p::l,m,k=>by
  obtain ⟨i,x⟩:=p
  rw [List.cons_append,zx,zx,ZE,List.any_cons]
  by_cases h:i=k
  ·subst h;simp
  ·have:Nat.beq i k=false:=by
    cases hb:Nat.beq i k with
    | true => exact absurd (Nat.eq_of_beq_eq_true hb) h
    | false => rfl
   simp only [if_neg h,this,Bool.false_or]
theorem zbK {p:Nat×zh}:∀ {m k:Nat},p∈zak k m→p.1<k+m
 | 0, _, h => by cases h
 | m+1, k, h => by
  rcases List.mem_cons.1 h with rfl|h
  ·show k<k+(m+1);omega
  ·have:=zbK h;omega
theorem zdE {k:Nat} {l:List (Nat×zh)}:∀ {m q:Nat},look {} (zak q m++l) k=if q≤k∧k<q+m then {} else look {} l k
 | 0, q => by rw [if_neg (by omega)]; rfl
 | m+1,q=>by
  show look ({}:zh) ((q,{})::(zak (q+1) m++l)) k=_
  rw [zx,zdE]
  by_cases h:q=k
  ·subst h;simp
  ·rw [if_neg h]
   by_cases h2:q+1≤k∧k<q+1+m
   ·rw [if_pos h2,if_pos (by omega)]
   ·rw [if_neg h2,if_neg (by omega)]
theorem zfE {N k:Nat} {l:List (Nat×zh)}:look {} (Yp N++l) k=if k<N then {} else look {} l k:=by
 unfold Yp
 rw [zdE]
 simp
theorem zcn {B n k:Nat} {f:Nat→zh}:look {} (Vr B n f) k=if B≤k∧k<B+n then f (k - B) else {}:=by
 have key:∀ (L:List Nat),L.Nodup→look ({}:zh) (L.map fun v=>(B+v,f v)) k=if ∃ v∈L,B+v=k then f (k - B) else {}:=by
  intro L
  induction L with
  | nil => intro _; simp [look]
  | cons x L ih=>
   intro hn
   rw [List.nodup_cons] at hn
   rw [List.map_cons,zx,ih hn.2]
   by_cases h:B+x=k
   ·rw [if_pos h,if_pos ⟨x,by simp,h⟩,show k - B=x by omega]
   ·rw [if_neg h]
    by_cases h2:∃ v∈L,B+v=k
    ·rw [if_pos h2,if_pos (let ⟨v,h3,h4⟩:=h2;⟨v,by simp [h3],h4⟩)]
    ·rw [if_neg h2,if_neg]
     rintro ⟨v,hv,e⟩
     rcases List.mem_cons.1 hv with rfl|hv
     ·exact h e
     ·exact h2 ⟨v,hv,e⟩
 unfold Vr
 rw [key _ List.nodup_range]
 by_cases h:B≤k∧k<B+n
 ·rw [if_pos h,if_pos ⟨k - B,List.mem_range.2 (by omega),by omega⟩]
 ·rw [if_neg h,if_neg]
  rintro ⟨v,hv,e⟩
  have:=List.mem_range.1 hv
  omega
def zfs (B n:Nat) (s:Nat→Option Nat) (vo:Nat→Nat) (f:Nat→zh):List Ent:=(List.range n).map fun j=>⟨B+j,s j,vo j,f j⟩
theorem yD {B n:Nat} {s:Nat→Option Nat} {vo:Nat→Nat} {f:Nat→zh} {j:Nat} (h:j<n):(⟨B+j,s j,vo j,f j⟩:Ent)∈zfs B n s vo f:=List.mem_map.2 ⟨j,List.mem_range.2 h,rfl⟩
theorem zjA (B n:Nat) (s:Nat→Option Nat) (vo:Nat→Nat) (f:Nat→zh):((zfs B n s vo f).map fun e=>(e.new,e.b))=Vr B n f:=by
 unfold zfs Vr
 rw [List.map_map]
 rfl
def zjm (ob:List (Nat×zh)) (s:Option Nat) (vo:Nat) (b:zh):Prop:=(s=none∧b.life=.own∧b.es=[])∨∃ i,s=some i∧look {} ob i=⟨vo,b.life,b.E,b.sz,b.es⟩∧b.life.plain=true
theorem yQ.fam {L:List Nat} {ob:List (Nat×zh)} {M0:List Ent} {B:Nat} {s:Nat→Option Nat} {vo:Nat→Nat} {f:Nat→zh} (h:∀ j∈L,zjm ob (s j) (vo j) (f j)):yQ ob M0 (L.map fun j=>(⟨B+j,s j,vo j,f j⟩:Ent)):=by
 induction L with
 | nil => exact .nil
 | cons j L ih =>
  have hj:=h j (by simp)
  have ih':=ih fun k hk=>h k (by simp [hk])
  rw [List.map_cons]
  generalize s j=sj at hj
  generalize f j=b at hj
  obtain ⟨v,l,E,sz,es⟩:=b
  rcases hj with ⟨rfl,h1,h2⟩|⟨i,rfl,h1,h2⟩
  ·dsimp only at h1 h2;subst h1;subst h2;exact .new ih'
  ·exact .old h1 h2 rfl ih'
theorem yQ.append {ob:List (Nat×zh)} {M0 M1 M2:List Ent} (h1:yQ ob M0 M1) (h2:yQ ob M0 M2):yQ ob M0 (M1++M2):=by
 induction h1 with
 | nil => exact h2
 | old h hl e _ ih => exact .old h hl e ih
 | new _ ih => exact .new ih
 | oldH h e _ ih => exact .oldH h e ih
 | oldK h e _ ih => exact .oldK h e ih
 | oldM h e _ ih => exact .oldM h e ih
theorem zb1.all {ob:List (Nat×zh)}:∀ {M:List Ent},(∀ q∈M,q.new<zg)→zb1 ob M
 | [], _ => .nil
 | q ::M,h=>.low (by
     have:=h q (by simp)
     cases hb:Nat.ble zg q.new with
     | false => rfl
     | true => have := Nat.le_of_ble_eq_true hb; omega) (zb1.all fun p hp => h p (by simp [hp]))
theorem zjE {ob:List (Nat×zh)} (h:∀ p∈ob,p.1<zg):zjD ob=true:=List.all_eq_true.2 fun p hp=>by
 have:=h p hp
 cases hb:Nat.ble zg p.1 with
 | false => rfl
 | true => have := Nat.le_of_ble_eq_true hb; omega
theorem FLe.ext {t:List (Nat×FV)} {ob ob' : List (Nat×zh)} (h:∀ k,look {} ob' k=look {} ob k):FLe ⟨t,ob⟩ ⟨t,ob'⟩:=fun _ _ _ _ _ β hF=>⟨β,hF.ext (fun _=>rfl) h⟩
theorem FLe.pad {t:List (Nat×FV)} {C:List (Nat×zh)} {N B n:Nat} {f:Nat→zh} (h:N≤B):FLe ⟨t,C++Vr B n f⟩ ⟨t,C++(Yp N++Vr B n f)⟩:=by
 refine FLe.ext fun k=>?_
 rw [ZE,ZE (l:=C) (m:=Vr B n f),zfE]
 split
 ·rfl
 ·split
  ·rw [zcn,if_neg (by omega)]
  ·rfl
theorem FLe.convF {t t' : List (Nat×FV)} {ob:List (Nat×zh)} (C:List Ent) (N B n:Nat) (s:Nat→Option Nat) (vo:Nat→Nat) (f:Nat→zh) (hNB:N≤B) (hBn:B+n≤zg) (hCl:C.all (fun q=>Nat.blt q.new B)=true) (hCn:(C.map Ent.new).Nodup)
  (hsn:(C.filterMap Ent.src++(List.range n).filterMap s).Nodup) (hlow:∀ p∈ob,p.1<zg) (hf:∀ j,j<n→zjm ob (s j) (vo j) (f j)) (hC:yQ ob (C++zfs B n s vo f) C) (ht:SlC t (C++zfs B n s vo f) t') :
  FLe ⟨t,ob⟩ ⟨t',(C.map fun e=>(e.new,e.b))++(Yp N++Vr B n f)⟩:=by
 have hlt:∀ q∈C,q.new<B:=fun q hq=>Nat.le_of_ble_eq_true (List.all_eq_true.1 hCl q hq)
 refine FLe.trans ?_ (FLe.pad hNB)
 rw [← zjA B n s vo f,← List.map_append]
 refine FLe.conv (C++zfs B n s vo f) ?_ ?_ (zhS (zjE hlow) _) (zb1.all fun q hq=>?_) (hC.append (yQ.fam fun j hj=>hf j (List.mem_range.1 hj))) ht
 ·rw [List.map_append]
  refine List.nodup_append.2 ⟨hCn,?_,fun a ha b hb=>?_⟩
  ·unfold zfs
   rw [List.map_map]
   exact List.Pairwise.map _ (fun a b (hab:a≠b)=>by show B+a≠B+b;omega) List.nodup_range
  ·obtain ⟨q,hq,rfl⟩:=List.mem_map.1 ha
   obtain ⟨p,hp,rfl⟩:=List.mem_map.1 hb
   obtain ⟨j,hj,rfl⟩:=List.mem_map.1 hp
   have:=hlt q hq
   dsimp only
   omega
 ·rw [List.filterMap_append]
  unfold zfs
  rw [List.filterMap_map]
  exact hsn
 ·rcases List.mem_append.1 hq with hq|hq
  ·have:=hlt q hq;omega
  ·obtain ⟨j,hj,rfl⟩:=List.mem_map.1 hq
   have:=List.mem_range.1 hj
   show B+j<zg
   omega
theorem Ua.of {M:List Ent}:∀ {n:Nat} {c c' : Nat→FV},(∀ j,j<n→VY M (c j) (c' j))→Ua M ((List.range n).map fun j=>[c j]) ((List.range n).map fun j=>[c' j]):=by
 intro n c c' h
 have key:∀ L:List Nat,(∀ j∈L,VY M (c j) (c' j))→Ua M (L.map fun j=>[c j]) (L.map fun j=>[c' j]):=by
  intro L
  induction L with
  | nil => intro _; exact .nil
  | cons x L ih => intro h; exact .cons (h x (by simp)) (ih fun j hj => h j (by simp [hj]))
 exact key _ fun j hj=>h j (List.mem_range.1 hj)
theorem zan {α:Type} (n v:Nat) (f:Nat→α) (x:α):((List.range n).map f).set v x=(List.range n).map fun j=>if j=v then x else f j:=by
 apply List.ext_getElem
 ·simp
 ·intro i h1 h2
  rw [List.getElem_set,List.getElem_map,List.getElem_map,List.getElem_range]
  by_cases h:v=i
  ·subst h;simp
  ·rw [if_neg h,if_neg (fun e=>h e.symm)]
theorem zdR {w:World} {base:Nat} {I I' : Nat→Prop} {βid:Option Nat} {ob:zh} {u:Value} {o n:Nat} (hg:XN w βid ob u o n) (hr:zkC w base I βid ob) (hb:∀ b,βid=some b→I' b) (hI:∀ b,I b→I' b):Rd w I' u (.list ob.sz ((ob.es.drop o).take n)):=by
 obtain ⟨A,cc,rfl,e2,e3,e4,e5⟩:=hg.ex
 have hw:=hr.wide
 have hone:=hr.one
 have hwd:∀ e∈ob.es.drop o,e.length=ob.sz:=fun e he=>hw e (List.mem_of_mem_drop he)
 have hlen:((ob.es.drop o).take n).length=n:=by simp;omega
 have hfl:((ob.es.drop o).take n).flatten=(ob.es.flatten.drop (o * ob.sz)).take (n * ob.sz):=by rw [Zi _ hwd,xD _ hw]
 have hone' : ∀ f∈((ob.es.drop o).take n).flatten,f.one=true:=fun f hf=>by rw [hfl] at hf;exact hone f (List.mem_of_mem_drop (List.mem_of_mem_take hf))
 cases hbi:βid with
 | none =>
  obtain ⟨rfl,rfl⟩:=e4 hbi
  obtain rfl:n=0:=by omega
  exact .list none 0 0 _ _ [] (by simp) (Nat.le_refl _) (by simp) (by simp) (by simp) (by simp) (by simp)
 | some b=>
  obtain ⟨o',rfl,k2,k3⟩:=e5 b hbi
  obtain ⟨v',us,r1,r2,r3⟩:=hr.row
  have hR:RdL w I' ((us.drop (o * ob.sz)).take (n * ob.sz)) ((ob.es.drop o).take n).flatten:=by
   rw [hfl]
   exact ((r3.mono fun b hb=>⟨hI b hb,rfl⟩).drop _).take _
  refine .list _ n cc ob.sz _ _ hlen e2 (fun e he=>hwd e (List.mem_of_mem_take he)) hone' (fun h0=>⟨b,o',rfl,hb b hbi,fun j u hu=>?_⟩) hR.1 hR.2
  have:=k2 (.inl (by omega))
  subst this
  rw [List.getElem?_take] at hu
  split at hu
  ·rw [List.getElem?_drop] at hu
   have hcell:=r1.cells (g:=b) (by rw [r2];exact hbi) _ u hu
   rwa [yS,Nat.zero_add] at hcell
  ·cases hu
theorem FLe.deep {t:List (Nat×FV)} {ob:List (Nat×zh)} (id B n:Nat) {w E2 E sz:Nat} (vs:Nat→Nat) (es:Nat→List (List FV)) (h:look {} ob id=⟨w,.hrow,E2,1,(List.range n).map fun j=>[.own (B+j) (vs j) 0 (es j).length]⟩)
  (hf:∀ j,j<n→look {} ob (B+j)=⟨vs j,.own,E,sz,es j⟩) (hid:id<B):FLe ⟨t,ob⟩ ⟨t,(id,⟨w,.own,E2,1,(List.range n).map fun j=>[.list sz (es j)]⟩)::(Vr B n (fun j=>⟨vs j,.dead,E,sz,es j⟩)++ob)⟩:=by
 intro N w0 J a wd β hF
 refine ⟨β,?_⟩
 have ho:(⟨t,ob⟩:FSt).ob id=⟨w,.hrow,E2,1,(List.range n).map fun j=>[.own (B+j) (vs j) 0 (es j).length]⟩:=h
 have hlive:((⟨t,ob⟩:FSt).ob id).life≠.dead:=by rw [ho];exact (by decide:ya.hrow≠.dead)
 obtain ⟨s',hs'⟩:∃ s' : FSt,s'=⟨t,(id,⟨w,.own,E2,1,(List.range n).map fun j=>[.list sz (es j)]⟩)::(Vr B n (fun j=>⟨vs j,.dead,E,sz,es j⟩)++ob)⟩:=⟨_,rfl⟩
 rw [← hs']
 have hob:∀ k,s'.ob k=if id=k then ⟨w,.own,E2,1,(List.range n).map fun j=>[.list sz (es j)]⟩ else if B≤k∧k<B+n then ⟨vs (k - B),.dead,E,sz,es (k - B)⟩ else (⟨t,ob⟩:FSt).ob k:=fun k=>by
  rw [hs']
  show look ({}:zh) _ k=_
  rw [zx]
  split
  ·rfl
  ·rw [ZE]
   have hany:(Vr B n (fun j=>(⟨vs j,.dead,E,sz,es j⟩:zh))).any (fun p=>Nat.beq p.1 k)=decide (B≤k∧k<B+n):=by
    rw [Bool.eq_iff_iff,List.any_eq_true,decide_eq_true_eq]
    constructor
    ·rintro ⟨p,hp,e⟩
     obtain ⟨j,hj,rfl⟩:=List.mem_map.1 hp
     have h1:=Nat.eq_of_beq_eq_true e
     have h2:=List.mem_range.1 hj
     dsimp only at h1
     omega
    ·intro hk
     exact ⟨(k,_),List.mem_map.2 ⟨k - B,List.mem_range.2 (by omega),by rw [show B+(k - B)=k by omega]⟩,Nat.beq_refl k⟩
   rw [hany,zcn]
   by_cases hk:B≤k∧k<B+n
   ·rw [decide_eq_true hk,if_pos rfl,if_pos hk,if_pos hk]
   ·rw [decide_eq_false hk,if_neg (by decide),if_neg hk];rfl
 have hsub:∀ k,(s'.ob k).life≠.dead→((⟨t,ob⟩:FSt).ob k).life≠.dead:=fun k hl=>by
  rw [hob] at hl
  split at hl
  ·rename_i e;subst e;exact hlive
  ·split at hl
   ·exact absurd rfl hl
   ·exact hl
 have hmine:∀ k,(s'.ob k).life.mine=true→((⟨t,ob⟩:FSt).ob k).life.mine=true:=fun k hl=>by
  rw [hob] at hl
  split at hl
  ·rename_i e;subst e;rw [ho];rfl
  ·split at hl
   ·cases hl
   ·exact hl
 have hI:∀ b,Imm J wd β ⟨t,ob⟩ b→Imm J wd β s' b:=fun b hb=>⟨hb.1,hb.2.1,fun k hl=>hb.2.2 k (hmine k hl)⟩
 have hver:∀ k,(s'.ob k).ver=((⟨t,ob⟩:FSt).ob k).ver:=fun k=>by
  rw [hob]
  split
  ·rename_i e;subst e;rw [ho]
  ·split
   ·rename_i hk
    have:=hf (k - B) (by omega)
    rw [show B+(k - B)=k by omega] at this
    have e:(⟨t,ob⟩:FSt).ob k=look ({}:zh) ob k:=rfl
    rw [e,this]
   ·rfl
 refine hF.step (C:=fun k=>k=id∨(B≤k∧k<B+n)) hF.size hF.defers hF.bel (fun b hb=>⟨hI b hb,rfl⟩) (fun k=>.inl ⟨rfl,by rw [hs'];rfl⟩) (fun k hC=>?_) (fun k _=>Nat.le_of_eq (hver k).symm) (fun k hC hl _=>?_) (fun k hC hl T=>?_) (fun k k' b hl hl' e e'=>hF.inj k k' b (hsub k hl) (hsub k' hl') e e') (fun b _ hn=>⟨rfl,fun k hl=>hn k (hsub k hl)⟩)
 ·refine ⟨?_,rfl,fun _ _ _=>rfl⟩
  rw [hob,if_neg (fun e=>hC (.inl e.symm)),if_neg (fun e=>hC (.inr e))]
 ·rcases hC with rfl|hC
  ·refine ⟨hlive,rfl,by rw [hob,if_pos rfl,ho],by rw [hob,if_pos rfl,ho];rfl,fun v o m hv=>?_⟩
   rw [ho] at hv
   obtain ⟨A,c,k1,k2,k3,k4,k5⟩:=hv.ex
   rw [hob,if_pos rfl]
   exact ⟨rfl,A,c,k1,k2,by simpa using k3,k4,k5⟩
  ·exfalso
   rw [hob,if_neg (by omega),if_pos hC] at hl
   exact hl rfl
 ·rcases hC with rfl|hC
  ·rw [hob,if_pos rfl]
   have hH:=(hF.obj k hlive).rowH (by rw [ho];rfl) (by rw [ho];rfl)
   rw [ho] at hH
   obtain ⟨v,us,r1,r2,r3,r4⟩:=hH.row
   dsimp only at r1 r3 r4
   have hfl:∀ (g:Nat→FV),((List.range n).map fun j=>[g j]).flatten=(List.range n).map g:=fun g=>by
    generalize List.range n=L
    induction L with
    | nil => rfl
    | cons x L ih => simp [ih]
   rw [hfl] at r3 r4
   refine .ofRow ⟨fun e he=>?_,fun f hf'=>?_,v,us,?_,r2,?_,fun j u f hu hff=>?_⟩ (.own rfl) rfl
   ·obtain ⟨j,_,rfl⟩:=List.mem_map.1 he;rfl
   ·dsimp only at hf'
    rw [hfl] at hf'
    obtain ⟨j,_,rfl⟩:=List.mem_map.1 hf';rfl
   ·dsimp only
    rw [List.length_map] at r1 ⊢
    exact r1
   ·dsimp only
    rw [hfl,List.length_map] at *
    exact r3
   ·dsimp only at hff
    rw [hfl] at hff
    have hjn:j<n:=by have:=(List.getElem?_eq_some_iff.1 hff).1;simpa using this
    rw [List.getElem?_map,List.getElem?_range hjn] at hff
    injection hff with hff
    subst hff
    have hv:=r4 j u _ hu (by rw [List.getElem?_map,List.getElem?_range hjn];rfl)
    have hoj:(⟨t,ob⟩:FSt).ob (B+j)=⟨vs j,.own,E,sz,es j⟩:=hf j hjn
    have hlj:((⟨t,ob⟩:FSt).ob (B+j)).life≠.dead:=by rw [hoj];exact (by decide:ya.own≠.dead)
    have hov:=hv hlj (by rw [hoj])
    have hO:=hF.obj (B+j) hlj
    have hrr:=hO.rowR (by rw [hoj];rfl)
    have:=zdR (I':=Imm J wd β s') hov hrr (fun b hb=>?_) hI
    ·rw [hoj] at this
     dsimp only at this
     rwa [List.drop_zero,List.take_length] at this
    ·have hlt:=hO.lt hb
     refine ⟨hlt.2,hF.fresh b hlt.1 (.inr ⟨_,hlj,hb⟩),fun k' hl' e=>?_⟩
     have:=hF.inj (B+j) k' b hlj (hsub k' (ya.mine_ne hl')) hb e
     subst this
     rw [hob,if_neg (by omega),if_pos ⟨by omega,by omega⟩] at hl'
     cases hl'
  ·exfalso
   rw [hob,if_neg (by omega),if_pos hC] at hl
   exact hl rfl
theorem zlD {C:List (Nat×zh)} {N B n:Nat} {f:Nat→zh} (h1:∀ p∈C,p.1<zg) (h2:N≤zg) (h3:B+n≤zg):∀ p∈C++(Yp N++Vr B n f),p.1<zg:=by
 intro p hp
 rcases List.mem_append.1 hp with hp|hp
 ·exact h1 p hp
 ·rcases List.mem_append.1 hp with hp|hp
  ·have:=zbK hp;omega
  ·obtain ⟨j,hj,rfl⟩:=List.mem_map.1 hp
   have:=List.mem_range.1 hj
   show B+j<zg
   omega
theorem zZ {C:List (Nat×zh)} {N B n j:Nat} {f:Nat→zh} (hC:C.all (fun p=>Nat.blt p.1 B)=true) (hN:N≤B) (hj:j<n):look {} (C++(Yp N++Vr B n f)) (B+j)=f j:=by
 rw [ZE,zfE,zcn,if_neg,if_neg (by omega),if_pos ⟨by omega,by omega⟩,Nat.add_sub_cancel_left]
 intro h
 obtain ⟨p,hp,e⟩:=List.any_eq_true.1 h
 have h1:=Nat.le_of_ble_eq_true (List.all_eq_true.1 hC p hp)
 have h2:=Nat.eq_of_beq_eq_true e
 omega
theorem zdN {α:Type} (n:Nat) (x:α):List.replicate n x=(List.range n).map fun _=>x:=by
 apply List.ext_getElem
 ·simp
 ·intro i h1 h2;simp
theorem xz {α:Type} (n v:Nat) (f:Nat→α) (h:v<n):((List.range n).map f)[v]? = some (f v):=by
 rw [List.getElem?_map,List.getElem?_range h];rfl
def Low (ob:List (Nat×zh)):Prop:=∀ p∈ob,p.1<zg
theorem Low.nil:Low []:=fun p hp=>by cases hp
theorem Low.cons {i:Nat} {b:zh} {l:List (Nat×zh)} (h:Nat.blt i zg=true) (hl:Low l):Low ((i,b)::l):=fun p hp=>by
 rcases List.mem_cons.1 hp with rfl|hp
 ·exact Nat.le_of_ble_eq_true h
 ·exact hl p hp
theorem Low.fam {N B n:Nat} {f:Nat→zh} (h1:Nat.ble N zg=true) (h2:B+n≤zg):Low (Yp N++Vr B n f):=by
 have:=zlD (C:=[]) (N:=N) (f:=f) (by simp) (Nat.le_of_ble_eq_true h1) h2
 exact fun p hp=>this p hp
theorem zdb (n a B:Nat) (x:Option Nat) (l:List Nat) (h1:(l++x.toList).Nodup) (h2:∀ i∈l++x.toList,i<B∨i=B+a):(l++(List.range n).filterMap fun j=>if j=a then x else some (B+j)).Nodup:=by
 have hx:∀ i,x=some i→i∉l:=fun i hi hl=>by
  rw [hi] at h1
  exact (List.nodup_append.1 h1).2.2 i hl i (by simp) rfl
 refine List.nodup_append.2 ⟨(List.nodup_append.1 h1).1,?_,fun i hi k hk e=>?_⟩
 ·refine List.Pairwise.filterMap _ (R:=(·≠·)) (fun j j' hjj i hi i' hi' e=>?_) List.nodup_range
  subst e
  by_cases h:j=a
  ·by_cases h' : j'=a
   ·exact hjj (h.trans h'.symm)
   ·rw [if_pos h] at hi
    rw [if_neg h'] at hi'
    have hi2:i=B+j':=by simpa using hi'.symm
    have:=h2 i (by simp;right;simpa using hi)
    omega
  ·by_cases h' : j'=a
   ·rw [if_neg h] at hi
    rw [if_pos h'] at hi'
    have hi2:i=B+j:=by simpa using hi.symm
    have:=h2 i (by simp;right;simpa using hi')
    omega
   ·rw [if_neg h] at hi
    rw [if_neg h'] at hi'
    have h3:i=B+j:=by simpa using hi.symm
    have h4:i=B+j':=by simpa using hi'.symm
    omega
 ·subst e
  obtain ⟨j,_,hj⟩:=List.mem_filterMap.1 hk
  split at hj
  ·exact hx i hj hi
  ·have h3:i=B+j:=by simpa using hj.symm
   have:=h2 i (by simp [hi])
   rename_i hne
   omega
theorem FLe.convS {t t' : List (Nat×FV)} {ob:List (Nat×zh)} (C:List Ent) (B n a:Nat) (x:Option Nat) (vo:Nat→Nat) (f:Nat→zh) (hB:Nat.ble 200 B=true) (hBn:B+n≤zg) (hCl:C.all (fun q=>Nat.blt q.new B)=true) (hCn:(C.map Ent.new).Nodup)
  (hs1:(C.filterMap Ent.src++x.toList).Nodup) (hs2:∀ i∈C.filterMap Ent.src++x.toList,i<B∨i=B+a) (hlow:Low ob) (hf:∀ j,j<n→zjm ob (if j=a then x else some (B+j)) (vo j) (f j)) (hC:yQ ob (C++zfs B n (fun j=>if j=a then x else some (B+j)) vo f) C) (ht:SlC t (C++zfs B n (fun j=>if j=a then x else some (B+j)) vo f) t') :
  FLe ⟨t,ob⟩ ⟨t',(C.map fun e=>(e.new,e.b))++(Yp 200++Vr B n f)⟩:=
 FLe.convF C 200 B n _ vo f (Nat.le_of_ble_eq_true hB) hBn hCl hCn (zdb n a B x _ hs1 hs2) hlow hf hC ht
theorem FLe.convK {t t' : List (Nat×FV)} {ob:List (Nat×zh)} (C:List Ent) (B n:Nat) (vo:Nat→Nat) (f:Nat→zh) (hB:Nat.ble 200 B=true) (hBn:B+n≤zg) (hCl:C.all (fun q=>Nat.blt q.new B)=true) (hCn:(C.map Ent.new).Nodup)
  (hs1:(C.filterMap Ent.src).Nodup) (hs2:∀ i∈C.filterMap Ent.src,i<B) (hlow:Low ob) (hf:∀ j,j<n→zjm ob (some (B+j)) (vo j) (f j)) (hC:yQ ob (C++zfs B n (fun j=>some (B+j)) vo f) C) (ht:SlC t (C++zfs B n (fun j=>some (B+j)) vo f) t') :
  FLe ⟨t,ob⟩ ⟨t',(C.map fun e=>(e.new,e.b))++(Yp 200++Vr B n f)⟩:=
 FLe.convF C 200 B n _ vo f (Nat.le_of_ble_eq_true hB) hBn hCl hCn (by
  refine List.nodup_append.2 ⟨hs1,?_,fun i hi k hk e=>?_⟩
  ·refine List.Pairwise.filterMap _ (R:=(·≠·)) (fun j j' hjj i hi i' hi' e=>?_) List.nodup_range
   injection hi with hi;injection hi' with hi';omega
  ·obtain ⟨j,_,hj⟩:=List.mem_filterMap.1 hk
   injection hj with hj
   have:=hs2 i hi
   omega) hlow hf hC ht
theorem FLe.convN {t t' : List (Nat×FV)} {ob:List (Nat×zh)} (C:List Ent) (B n:Nat) (f:Nat→zh) (hB:Nat.ble 200 B=true) (hBn:B+n≤zg) (hCl:C.all (fun q=>Nat.blt q.new B)=true) (hCn:(C.map Ent.new).Nodup)
  (hs1:(C.filterMap Ent.src).Nodup) (hlow:Low ob) (hf:∀ j,j<n→(f j).life=.own∧(f j).es=[]) (hC:yQ ob (C++zfs B n (fun _=>none) (fun _=>0) f) C) (ht:SlC t (C++zfs B n (fun _=>none) (fun _=>0) f) t') :
  FLe ⟨t,ob⟩ ⟨t',(C.map fun e=>(e.new,e.b))++(Yp 200++Vr B n f)⟩:=
 FLe.convF C 200 B n _ _ f (Nat.le_of_ble_eq_true hB) hBn hCl hCn (by
  have:(List.range n).filterMap (fun _=>(none:Option Nat))=[]:=by induction List.range n <;> simp_all
  rw [this,List.append_nil];exact hs1) hlow (fun j hj=>.inl ⟨rfl,hf j hj⟩) hC ht
end Go.Proofs.Ytmnmakhpjgjdaaa
/-
 The successors of each vertex,at plain values.
-/
namespace Go.Proofs.Ytmnmakhpjgjdaaa
set_option linter.unusedVariables false
open Go.RowKit

def edf (e:Nat×Nat):List FV:=[.int .i64 (e.1:Int),.int .i64 (e.2:Int)]
def Yu (E:List (Nat×Nat)) (v k:Nat):List Int:=((E.take k).filter fun e=>decide (e.1=v)).map fun e=>(e.2:Int)
def zj9 (z:List Int):List Int:=Lib.compact (z.mergeSort fun x y=>decide (x≤y))
def zt (E:List (Nat×Nat)) (v:Nat):List Int:=zj9 (Yu E v E.length)
theorem zg9 (E:List (Nat×Nat)) (v k:Nat) (h:k<E.length):Yu E v (k+1)=Yu E v k++(if (nth E k).1=v then [((nth E k).2:Int)] else []):=by
 unfold Yu
 rw [List.take_succ_eq_append_getElem h,List.filter_append,List.map_append,nth_eq h]
 congr 1
 by_cases hv:E[k].1=v <;> simp [hv]
theorem zaB (E:List (Nat×Nat)) (v k:Nat):(Yu E v k).length≤E.length:=by
 unfold Yu
 rw [List.length_map]
 exact Nat.le_trans (List.length_filter_le _ _) (by rw [List.length_take];omega)
theorem zi9 (z:List Int):(zj9 z).length≤z.length:=by
 unfold zj9 Lib.compact Lib.compactUpTo
 rw [List.length_map]
 refine Nat.le_trans (List.length_filter_le _ _) ?_
 rw [List.length_range,List.length_mergeSort];exact Nat.le_refl _
def zhp (E:List (Nat×Nat)) (k j:Nat):zh:=⟨0,.own,3,1,(Yu E j k).map zy⟩
def zkl (E:List (Nat×Nat)) (k j:Nat):FV:=.own (1000+j) 0 0 (Yu E j k).length
def zj3 (E:List (Nat×Nat)) (i j:Nat):List Int:=if j<i then zt E j else Yu E j E.length
def zhq (E:List (Nat×Nat)) (i j:Nat):zh:=⟨0,.own,3,1,(zj3 E i j).map zy⟩
def zjt (E:List (Nat×Nat)) (i j:Nat):FV:=.own (1000+j) 0 0 (zj3 E i j).length
theorem zd5 (E:List (Nat×Nat)) (j:Nat):zj3 E 0 j=Yu E j E.length:=if_neg (by omega)
set_option maxHeartbeats 4000000 in
theorem ZL (n:Nat) (E:List (Nat×Nat)) (hn:n≤1000) (hE:E.length≤1000000) (hin:∀ e∈E,e.1<n∧e.2<n):yn Try.prog 59 [.int .i64 n,.list 2 (E.map edf)] .sh (.list 1 ((List.range n).map fun v=>[.list 1 ((zt E v).map zy)])):=by
 refine yn.of_body (c:=(ZO Try.prog zI zA 51)) ⟨Try.func59,rfl,Try.ntmps59,by kernel_rfl⟩ (by simp [FV.hand]) (by exact Nat.le_of_ble_eq_true rfl) rfl ?_
 change FW _ _ _ ⟨[(0,.int .i64 n),(1,.list 2 (E.map edf))],[]⟩
 (repeat (first|refine FW.seq ?_|refine FW.region ?_|refine FW.block ?_|refine zc.nil ?_|refine zb rfl rfl rfl ?_|refine za rfl rfl rfl ?_|refine zcD rfl rfl rfl rfl rfl rfl rfl rfl (by omega) (by omega) rfl rfl rfl ?_|refine zp rfl rfl (by first|exact List.length_map _|rfl|omega) rfl rfl ?_))
 rw [zdN]
 refine FW.loop (fun k:Nat=>⟨[(5,.own 100 0 0 n),(11,.list 2 (E.map edf)),(12,.int .i64 E.length),(13,.int .i64 k)],[(100,⟨0,.hrow,22,1,(List.range n).map fun j=>[zkl E k j]⟩)]++(Yp 200++Vr 1000 n (zhp E k))⟩) (fun k=>k≤E.length) (fun k=>E.length - k) 0 (Nat.zero_le _) ?_ ?_
 ·exact (FLe.toH (i:=10) rfl).trans (FLe.convN [⟨100,some 10,0+1,⟨0,.hrow,22,1,(List.range n).map fun j=>[zkl E 0 j]⟩⟩] 1000 n (zhp E 0) rfl (by unfold zg;omega) rfl (by simp) (by simp) (by repeat (first|exact Low.nil|exact Low.fam rfl (by unfold zg;omega)|refine Low.cons rfl ?_))
   (fun j _=>⟨rfl,rfl⟩) (.oldH rfl (Ua.of fun j hj=>.nil (List.mem_append_right _ (yD hj)) rfl) .nil) (by repeat (first|exact .nil|refine .cons (.plain rfl rfl rfl) ?_|refine .cons (.own rfl (.head _) rfl rfl) ?_)))
 intro k hk
 (repeat (first|refine FW.seq ?_|refine FW.region ?_|refine zc.nil ?_|refine zX rfl rfl rfl rfl ?_))
 refine FW.cond rfl (fun h=>?_) (fun h=>?_)
 ·have hlt:k<E.length:=by simpa using h
  clear h
  obtain ⟨⟨a,b⟩,he⟩:∃ e,nth E k=e:=⟨_,rfl⟩
  obtain ⟨ha,hb⟩:=hin (nth E k) (zC hlt)
  have hrs:=fun v=>zg9 E v k hlt
  rw [he] at ha hb
  simp only [he] at hrs
  have hrl:=zaB E a k
  (repeat (first|refine FW.seq ?_|refine FW.region ?_|refine FW.block ?_|refine FW.skip ?_|refine zc.nil ?_|refine zn rfl rfl rfl rfl rfl rfl (by simp;omega) rfl rfl ?_|refine yO rfl rfl rfl (by decide) (by simp;omega) (by first|exact zf (by omega)|rfl) rfl rfl rfl ?_|refine zD rfl rfl rfl rfl rfl rfl rfl ?_|refine zm rfl rfl rfl rfl rfl rfl rfl rfl rfl ?_))
  refine FW.le (s':=⟨[(7,.ptr 7 1 0 0),(5,.own 100 0 0 n),(11,.list 2 (E.map edf)),(12,.int .i64 E.length),(13,.int .i64 k)],[(100,⟨0,.hrow,22,1,(List.range n).map fun j=>[if j=a then .own 150 0 0 (Yu E a k).length else zkl E k j]⟩),(150,zhp E k a),(7,⟨1,.own,75,2,[edf (a,b)]⟩)]++(Yp 200++Vr 1000 n fun j=>if j=a then ⟨0,.own,3,1,[]⟩ else zhp E k j)⟩) ?_ ?_
  ·refine FW.draw ?_
   refine zS rfl rfl rfl ?_;refine xV rfl rfl rfl rfl rfl rfl rfl (by decide) (by simp;done) rfl rfl ?_;refine yJ rfl rfl rfl rfl rfl (by simp;done) rfl rfl rfl rfl rfl ?_;refine zS rfl rfl rfl ?_;refine xV rfl rfl rfl rfl rfl rfl rfl (by decide) (by simp;done) rfl rfl ?_;refine yJ rfl rfl rfl rfl rfl (by simp;done) rfl rfl rfl rfl rfl ?_
   refine Xi rfl rfl rfl rfl rfl rfl (by decide) rfl (by omega) rfl rfl ?_
   refine Uo rfl rfl rfl rfl (xz n a _ ha) rfl rfl ?_
   rw [if_pos rfl]
   refine xV rfl rfl rfl rfl rfl rfl rfl (by decide) (by simp;done) rfl rfl ?_;refine yJ rfl rfl rfl rfl rfl (by simp;done) rfl rfl rfl rfl rfl ?_;refine XI rfl rfl rfl rfl rfl rfl rfl rfl ?_
   refine zcv rfl rfl (by first|exact (List.length_map _).symm|(simp;omega)) rfl rfl rfl (by decide) (by exact Yg.own rfl rfl (by decide) (by first|exact List.length_map _|exact (List.length_map _).symm|exact List.length_replicate|rfl|(simp;done)|omega|(simp;omega))) (by simp;omega) (by simp;omega) rfl rfl rfl ?_
   refine Xi rfl rfl rfl rfl rfl rfl (by decide) rfl (by first|omega|(simp;omega)) rfl rfl ?_;refine VB rfl rfl rfl rfl rfl rfl (by decide) (by first|omega|(simp;omega)) rfl ?_
   refine zF.nil ⟨by kernel_rfl,?_⟩
   refine FW.region ?_
   refine zu rfl rfl (by omega) rfl rfl ?_;refine za rfl rfl rfl ?_
   refine zc.nil ?_
   have h1:∀ j,Yu E j (k+1)=Yu E j k++if a=j then [(b:Int)] else []:=hrs
   rw [zan]
   refine ⟨k+1,by omega,by omega,?_⟩
   refine FLe.convS [⟨100,some 100,0,⟨0,.hrow,22,1,(List.range n).map fun j=>[zkl E (k+1) j]⟩⟩] 1000 n a (some 28) (fun j=>if j=a then 1 else 0) (zhp E (k+1)) rfl (by unfold zg;omega) rfl (by simp) (by simp) (by simp) (by repeat (first|exact Low.nil|exact Low.fam rfl (by unfold zg;omega)|refine Low.cons rfl ?_)) ?_ ?_ ?_
   ·intro j hj
    by_cases hja:j=a
    ·subst hja
     rw [if_pos rfl,if_pos rfl]
     refine .inr ⟨28,rfl,?_,rfl⟩
     unfold zhp
     rw [h1,if_pos rfl,List.map_append]
     rfl
    ·rw [if_neg hja,if_neg hja]
     refine .inr ⟨_,rfl,(zZ (C:=[(100,_),(28,_),(150,_),(27,_),(100,_),(150,_),(7,_)]) rfl (by decide) hj).trans ?_,rfl⟩
     rw [if_neg hja]
     unfold zhp
     rw [h1,if_neg (fun e=>hja e.symm),List.append_nil]
   ·refine .oldH rfl ?_ .nil
    rw [show ((List.range n).map fun j=>if j=(a,b).1 then [FV.own 28 (0+1) 0 (List.map zy (Yu E a k)++[[FV.int IntKind.i64 ((a,b).2:Int)]]).length] else [if j=a then FV.own 150 0 0 (Yu E a k).length else zkl E k j])=(List.range n).map fun j=>[if j=a then FV.own 28 1 0 ((Yu E a k).length+1) else zkl E k j] from List.map_congr_left fun j _=>by
     by_cases hja:j=a
     ·rw [if_pos hja,if_pos hja,List.length_append,List.length_map];rfl
     ·rw [if_neg hja,if_neg hja,if_neg hja]]
    refine Ua.of fun j hj=>?_
    have hm:=yD (B:=1000) (s:=fun j=>if j=a then some 28 else some (1000+j)) (vo:=fun j=>if j=a then 1 else 0) (f:=zhp E (k+1)) hj
    unfold zkl
    by_cases hja:j=a
    ·subst hja
     simp only [if_pos] at hm
     rw [if_pos rfl,h1,if_pos rfl]
     exact .own (List.mem_append_right _ hm) rfl rfl (by simp)
    ·simp only [if_neg hja] at hm
     rw [if_neg hja,h1,if_neg (fun e=>hja e.symm),List.append_nil]
     exact .own (List.mem_append_right _ hm) rfl rfl rfl
   ·exact (by repeat (first|exact .nil|refine .cons (.plain rfl rfl rfl) ?_|refine .cons (.own rfl (.head _) rfl rfl) ?_))
  ·refine FLe.convS [⟨100,some 100,0,⟨0,.hrow,22,1,(List.range n).map fun j=>[if j=a then .own 150 0 0 (Yu E a k).length else zkl E k j]⟩⟩,⟨150,some (1000+a),0,zhp E k a⟩,⟨7,some 7,1,⟨1,.own,75,2,[edf (a,b)]⟩⟩] 1000 n a none (fun _=>0) (fun j=>if j=a then ⟨0,.own,3,1,[]⟩ else zhp E k j) rfl (by unfold zg;omega) rfl (by simp) (by simp <;> omega) (by simp <;> omega) (by repeat (first|exact Low.nil|exact Low.fam rfl (by unfold zg;omega)|refine Low.cons rfl ?_)) ?_ ?_ ?_
   ·intro j hj
    by_cases hja:j=a
    ·rw [if_pos hja,if_pos hja];exact .inl ⟨rfl,rfl,rfl⟩
    ·rw [if_neg hja,if_neg hja]
     exact .inr ⟨_,rfl,zZ (C:=[(7,_),(7,_),(100,_)]) rfl (by decide) hj,rfl⟩
   ·refine .oldH rfl (Ua.of fun j hj=>?_) (.old (zZ (C:=[(7,_),(7,_),(100,_)]) rfl (by decide) ha) rfl rfl (.old rfl rfl (by rw [he]) .nil))
    by_cases hja:j=a
    ·subst hja
     rw [if_pos rfl]
     exact .own (List.mem_cons_of_mem _ (List.mem_cons_self ..)) rfl rfl rfl
    ·rw [if_neg hja]
     have hm:=yD (B:=1000) (s:=fun j=>if j=a then none else some (1000+j)) (vo:=fun _=>0) (f:=fun j=>if j=a then ⟨0,.own,3,1,[]⟩ else zhp E k j) hj
     simp only [if_neg hja] at hm
     exact .own (List.mem_append_right _ hm) rfl rfl rfl
   ·exact (by repeat (first|exact .nil|refine .cons (.plain rfl rfl rfl) ?_|refine .cons (.own rfl (.head _) rfl rfl) ?_|refine .cons (.ptr rfl (.tail _ (.tail _ (.head _))) rfl) ?_))
 ·obtain rfl:k=E.length:=by simp at h;omega
  clear h hk
  (repeat (first|refine FW.seq ?_|refine FW.region ?_|refine FW.block ?_|refine FW.exit ?_|refine zc.nil ?_|refine za rfl rfl rfl ?_|refine yN rfl rfl rfl (by decide) rfl rfl ?_))
  refine FW.loop (fun i:Nat=>⟨[(5,.own 100 0 0 n),(32,.int .i64 n),(33,.int .i64 i)],[(100,⟨0,.hrow,22,1,(List.range n).map fun j=>[zjt E i j]⟩)]++(Yp 200++Vr 1000 n (zhq E i))⟩) (fun i=>i≤n) (fun i=>n - i) 0 (Nat.zero_le _) ?_ ?_
  ·refine FLe.convK [⟨100,some 100,0,⟨0,.hrow,22,1,(List.range n).map fun j=>[zjt E 0 j]⟩⟩] 1000 n (fun _=>0) (zhq E 0) rfl (by unfold zg;omega) rfl (by simp) (by simp) (by simp) (by repeat (first|exact Low.nil|exact Low.fam rfl (by unfold zg;omega)|refine Low.cons rfl ?_)) (fun j hj=>.inr ⟨_,rfl,(zZ (C:=[(100,_)]) rfl (by decide) hj).trans ?_,rfl⟩) (.oldH rfl (Ua.of fun j hj=>?_) .nil) (by repeat (first|exact .nil|refine .cons (.plain rfl rfl rfl) ?_|refine .cons (.own rfl (.head _) rfl rfl) ?_))
   ·unfold zhq zhp;rw [zd5]
   ·have hm:=yD (B:=1000) (s:=fun j=>some (1000+j)) (vo:=fun _=>0) (f:=zhq E 0) hj
    exact .own (List.mem_append_right _ hm) rfl rfl (by rw [zd5])
  intro i hi
  (repeat (first|refine FW.seq ?_|refine FW.region ?_|refine zc.nil ?_|refine zX rfl rfl rfl rfl ?_))
  refine FW.cond rfl (fun h=>?_) (fun h=>?_)
  ·have hlt:i<n:=by simpa using h
   clear h
   have hri:zj3 E i i=Yu E i E.length:=if_neg (by omega)
   have hrl:=zaB E i E.length
   have hr1:∀ j,zj3 E (i+1) j=if j=i then zt E i else zj3 E i j:=fun j=>by
    unfold zj3
    by_cases h1:j=i
    ·subst h1;rw [if_pos rfl,if_pos (by omega)]
    ·rw [if_neg h1]
     by_cases h2:j<i
     ·rw [if_pos h2,if_pos (by omega)]
     ·rw [if_neg h2,if_neg (by omega)]
   obtain ⟨z,hz⟩:∃ z,Yu E i E.length=z:=⟨_,rfl⟩
   have hsl:(z.mergeSort fun x y=>decide (x≤y)).length=z.length:=List.length_mergeSort _
   have hsz:zt E i=Lib.compact (z.mergeSort fun x y=>decide (x≤y)):=by rw [← hz];rfl
   rw [hz] at hri hrl
   refine FW.le (s':=⟨[(5,.own 100 0 0 n),(32,.int .i64 n),(33,.int .i64 i)],[(100,⟨0,.hrow,22,1,(List.range n).map fun j=>[if j=i then .own 150 0 0 z.length else zjt E i j]⟩),(150,⟨0,.own,3,1,z.map zy⟩)]++(Yp 200++Vr 1000 n fun j=>if j=i then ⟨0,.own,3,1,[]⟩ else zhq E i j)⟩) ?_ ?_
   ·(repeat (first|refine FW.seq ?_|refine FW.region ?_|refine FW.block ?_|refine FW.skip ?_))
    refine za rfl rfl rfl ?_;refine zb rfl rfl rfl ?_
    (repeat (first|refine FW.seq ?_|refine FW.region ?_|refine zc.nil ?_))
    refine za rfl rfl rfl ?_;refine za rfl rfl rfl ?_;refine zW rfl rfl rfl rfl rfl rfl (by decide) rfl (by omega) rfl rfl ?_
    refine Zu rfl rfl rfl rfl (xz n i _ hlt) rfl rfl ?_
    rw [if_pos rfl]
    refine xI (zhc 0 z (by omega)) [(5000,150)] rfl (zB.cons rfl rfl rfl zB.nil) rfl rfl rfl rfl rfl rfl ?_
    rintro _ _ ⟨rfl,h1⟩
    refine xg.one [(150,⟨0,.own,3,1,(z.mergeSort fun x y=>decide (x≤y)).map zy⟩)] (.tup []) rfl (congrArg (fun b=>[(150,zh.ren (gOf [(5000,150)]) b)]) h1) ?_
    (repeat (first|refine FW.region ?_|refine zc.nil ?_))
    refine za rfl rfl rfl ?_;refine za rfl rfl rfl ?_;refine za rfl rfl rfl ?_;refine za rfl rfl rfl ?_;refine zW rfl rfl rfl rfl rfl rfl (by decide) rfl (by omega) rfl rfl ?_
    refine Zu rfl rfl rfl rfl (xz n i _ hlt) rfl rfl ?_
    rw [if_pos rfl]
    refine xI (zb9 0 (z.mergeSort fun x y=>decide (x≤y)) (by rw [hsl];omega)) [(5000,150)] ?_ (zB.cons rfl rfl rfl zB.nil) rfl rfl rfl rfl rfl rfl ?_
    ·rw [hsl];rfl
    rintro _ _ ⟨rfl,h1⟩
    refine xg.one [(150,⟨1,.own,3,1,(zt E i).map zy⟩)] (.own 150 1 0 (zt E i).length) (by rw [hsz];rfl) (by rw [hsz];exact congrArg (fun b=>[(150,zh.ren (gOf [(5000,150)]) b)]) h1) ?_
    refine zW rfl rfl rfl rfl rfl rfl (by decide) rfl (by first|omega|(simp;omega)) rfl rfl ?_;refine zg4 rfl rfl rfl rfl rfl rfl (by decide) (by first|omega|(simp;omega)) rfl ?_
    (repeat (first|refine FW.region ?_|refine zc.nil ?_))
    refine zu rfl rfl (by omega) rfl rfl ?_;refine za rfl rfl rfl ?_
    (repeat (first|refine zc.nil ?_))
    rw [zan]
    refine ⟨i+1,by omega,by omega,?_⟩
    refine FLe.convS [⟨100,some 100,0,⟨0,.hrow,22,1,(List.range n).map fun j=>[zjt E (i+1) j]⟩⟩] 1000 n i (some 150) (fun j=>if j=i then 1 else 0) (zhq E (i+1)) rfl (by unfold zg;omega) rfl (by simp) (by simp) (by simp) (by repeat (first|exact Low.nil|exact Low.fam rfl (by unfold zg;omega)|refine Low.cons rfl ?_)) ?_ ?_ ?_
    ·intro j hj
     by_cases hja:j=i
     ·subst hja
      rw [if_pos rfl,if_pos rfl]
      refine .inr ⟨150,rfl,?_,rfl⟩
      unfold zhq
      rw [hr1,if_pos rfl]
      rfl
     ·rw [if_neg hja,if_neg hja]
      refine .inr ⟨_,rfl,(zZ (C:=[(100,_),(150,_),(150,_),(100,_),(150,_)]) rfl (by decide) hj).trans ?_,rfl⟩
      rw [if_neg hja]
      unfold zhq
      rw [hr1,if_neg hja]
    ·refine .oldH rfl ?_ .nil
     rw [show ((List.range n).map fun j=>if j=i then [FV.own 150 1 0 (zt E i).length] else [if j=i then FV.own 150 0 0 z.length else zjt E i j])=(List.range n).map fun j=>[if j=i then FV.own 150 1 0 (zt E i).length else zjt E i j] from List.map_congr_left fun j _=>by
      by_cases hja:j=i
      ·rw [if_pos hja,if_pos hja]
      ·rw [if_neg hja,if_neg hja,if_neg hja]]
     refine Ua.of fun j hj=>?_
     have hm:=yD (B:=1000) (s:=fun j=>if j=i then some 150 else some (1000+j)) (vo:=fun j=>if j=i then 1 else 0) (f:=zhq E (i+1)) hj
     unfold zjt
     by_cases hja:j=i
     ·subst hja
      simp only [if_pos] at hm
      rw [if_pos rfl,hr1,if_pos rfl]
      exact .own (List.mem_append_right _ hm) rfl rfl rfl
     ·simp only [if_neg hja] at hm
      rw [if_neg hja,hr1,if_neg hja]
      exact .own (List.mem_append_right _ hm) rfl rfl rfl
    ·exact (by repeat (first|exact .nil|refine .cons (.plain rfl rfl rfl) ?_|refine .cons (.own rfl (.head _) rfl rfl) ?_))
   ·refine FLe.convS [⟨100,some 100,0,⟨0,.hrow,22,1,(List.range n).map fun j=>[if j=i then .own 150 0 0 z.length else zjt E i j]⟩⟩,⟨150,some (1000+i),0,⟨0,.own,3,1,z.map zy⟩⟩] 1000 n i none (fun _=>0) (fun j=>if j=i then ⟨0,.own,3,1,[]⟩ else zhq E i j) rfl (by unfold zg;omega) rfl (by simp) (by simp <;> omega) (by simp <;> omega) (by repeat (first|exact Low.nil|exact Low.fam rfl (by unfold zg;omega)|refine Low.cons rfl ?_)) ?_ ?_ ?_
    ·intro j hj
     by_cases hja:j=i
     ·rw [if_pos hja,if_pos hja];exact .inl ⟨rfl,rfl,rfl⟩
     ·rw [if_neg hja,if_neg hja]
      exact .inr ⟨_,rfl,zZ (C:=[(100,_)]) rfl (by decide) hj,rfl⟩
    ·refine .oldH rfl (Ua.of fun j hj=>?_) (.old ((zZ (C:=[(100,_)]) rfl (by decide) hlt).trans (by unfold zhq;rw [hri])) rfl rfl .nil)
     by_cases hja:j=i
     ·subst hja
      rw [if_pos rfl]
      exact .own (List.mem_cons_of_mem _ (List.mem_cons_self ..)) rfl rfl (by rw [hri])
     ·rw [if_neg hja]
      have hm:=yD (B:=1000) (s:=fun j=>if j=i then none else some (1000+j)) (vo:=fun _=>0) (f:=fun j=>if j=i then ⟨0,.own,3,1,[]⟩ else zhq E i j) hj
      simp only [if_neg hja] at hm
      exact .own (List.mem_append_right _ hm) rfl rfl rfl
    ·exact (by repeat (first|exact .nil|refine .cons (.plain rfl rfl rfl) ?_|refine .cons (.own rfl (.head _) rfl rfl) ?_))
  ·obtain rfl:i=n:=by simp at h;omega
   clear h hi
   (repeat (first|refine FW.seq ?_|refine FW.region ?_|refine FW.exit ?_))
   refine za rfl rfl rfl ?_;refine zb rfl rfl rfl ?_
   refine zc.le ?_ ((FLe.deep 100 1000 i (w:=0) (E2:=22) (E:=3) (sz:=1) (fun _=>0) (fun j=>(zj3 E i j).map zy) ?_ (fun j hj=>zZ (C:=[(100,_)]) rfl (by decide) hj) (by decide)).trans (FLe.share 4 rfl rfl (by simp)))
   ·(repeat (first|refine zc.nil ?_))
    refine FW.ret ⟨.inl rfl,.sh (.cons (.tmp 4 rfl rfl) .nil) ?_ rfl⟩
    show FV.list 1 _=FV.list 1 _
    refine congrArg (FV.list 1) (List.map_congr_left fun j hj=>?_)
    rw [show zj3 E i j=zt E j from if_pos (List.mem_range.1 hj)]
   ·refine Eq.trans (b:=(⟨0,.hrow,22,1,(List.range i).map fun j=>[zjt E i j]⟩:zh)) rfl ?_
    refine congrArg (fun l=>(⟨0,.hrow,22,1,l⟩:zh)) (List.map_congr_left fun j _=>?_)
    rw [List.length_map];rfl
end Go.Proofs.Ytmnmakhpjgjdaaa
