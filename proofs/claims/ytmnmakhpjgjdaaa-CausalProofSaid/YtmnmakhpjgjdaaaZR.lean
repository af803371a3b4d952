/-
  Some texts as one: Row, RowOps, RowFm, SortPlain, WfPlain, FmOnce, FmHas, FmKeys, FmBefI, KeysPlain.
-/
import Derived.Test.YtmnmakhpjgjdaaaZD
import Derived.ProofKit
import Derived.OpenShut
import Derived.ShutString
import Derived.ChangeOld
import Derived.Below
import Derived.Deep.Slices
import Derived.Deep.Fields
import Derived.ChangeSame
namespace Go.Proofs.Ytmnmakhpjgjdaaa
set_option linter.unusedVariables false
set_option maxHeartbeats 16000000
section
set_option maxRecDepth 100000
open Go.ChangeShapes Go.WideShapes Go.ChangeAt Go.RowKit Go.Deep
theorem ziw {x:Int} (h:(Lit.int .i64 x).wf=true):I64 x:=by
 simp [Lit.wf,IntKind.min,IntKind.max,IntKind.signed,IntKind.bits] at h
 unfold I64
 omega
section
variable {H:Type} {enc:TypeId×Value→H} {W:World} {base:Nat} {spare:Nat→Bool} {held:Bool} {v:Value} {d:DataW H} {p:List MemPlace} {r:Reach} {b0:Nat}
theorem zjU {w:World} {a:Addr} {u:Value} (h:w.cell? a=some u):a=⟨a.block,a.off,none⟩:=by
 obtain ⟨b,o,s⟩:=a
 cases s with
 | none => rfl
 | some s =>
  unfold World.cell? at h
  simp only [Option.isSome_some,if_true] at h
  split at h <;> cases h
theorem zkd (a:Addr) (h:a=⟨a.block,a.off,none⟩) (n:Nat):a.add n=⟨a.block,a.off+n,none⟩:=by
 obtain ⟨b,o,s⟩:=a
 obtain rfl:s=none:=by injection h
 unfold Addr.add
 split
 ·subst n;rfl
 ·rfl
theorem zjj (hv:Value.okWide Try.prog W r b0 22 v) (h:DataW.Trod enc Try.prog W base spare held 22 v d p) :
  ∃ A c l,v=.slice A l.length c∧Sl Um W W.heap.size A l∧(∀ x∈l,I64 x)∧l.length≤9223372036854775807:=by
 obtain ⟨a0,len0,cap0,rfl⟩:=okWide_slice Try.underlying22 hv
 obtain ⟨fuel,hf⟩:=h
 rcases open_ints Try.underlying22 Try.underlying3 zi hf with ⟨hcs,_⟩|⟨x,l,c,zs,hcs,_,hl,hm,hz,_,hcell,hwz⟩
 ·simp [Value.cells] at hcs
  obtain ⟨rfl,rfl,rfl⟩:=hcs
  exact ⟨none,0,[],rfl,Sl.nil_ _ _ _ _,by simp,Nat.zero_le _⟩
 ·simp [Value.cells] at hcs
  obtain ⟨rfl,rfl,rfl⟩:=hcs
  have hlz:len0≤zs.length:=by rw [hz];split <;> omega
  have hlen:(zs.take len0).length=len0:=by simp;omega
  refine ⟨some x,cap0,zs.take len0,by rw [hlen],fun hne=>?_,fun y hy=>ziw (hwz y (List.mem_of_mem_take hy)),by unfold maxLen at hm;omega⟩
  have h0:0<len0:=by
   rcases Nat.eq_zero_or_pos len0 with e|e
   ·subst e;simp at hne
   ·exact e
  have hc0:=hcell 0 za
  rw [show x.add 0=x by simp [Addr.add]] at hc0
  have hs:=zjU hc0
  refine ⟨x.block,x.off,by rw [← hs],World.block_lt_of_cell? W x hc0,fun j u hu=>?_⟩
  rw [xZ,List.getElem?_map,List.getElem?_take] at hu
  split at hu
  ·have hj:j<zs.length:=by omega
   have:=hcell j hj
   rw [zkd x hs] at this
   rw [this]
   simpa [hj] using hu
  ·simp at hu
end
section
variable {H:Type} {enc:TypeId×Value→H} {W:World} {base:Nat} {spare:Nat→Bool} {held:Bool} {v:Value} {d:DataW H} {p:List MemPlace} {r:Reach} {b0:Nat}
end
section
variable {H:Type} {enc:TypeId×Value→H} {W:World} {base:Nat} {spare:Nat→Bool} {held:Bool} {v:Value} {d:DataW H} {p:List MemPlace} {r:Reach} {b0:Nat}
theorem zlw (hv:Value.okWide Try.prog W r b0 22 v) (h:DataW.Trod enc Try.prog W base spare held 22 v d p) :
  ∃ l:List Int,Rd W (fun b=>b<W.heap.size) v (.list 1 (l.map zp))∧(∀ x∈l,I64 x)∧l.length≤9223372036854775807:=by
 have h':=h
 obtain ⟨A,c,l,rfl,s,i,m⟩:=zjj hv h
 refine ⟨l,?_,i,m⟩
 obtain ⟨fuel,hf⟩:=h'
 rcases open_ints Try.underlying22 Try.underlying3 zi hf with ⟨hcs,_⟩|⟨x,l',c',zs,hcs,_,hl,hm,hz,_,hcell,hwz⟩
 ·simp [Value.cells] at hcs
  obtain ⟨rfl,h0,rfl⟩:=hcs
  exact zeC.to s (by simp [h0])
 ·simp [Value.cells] at hcs
  obtain ⟨rfl,h0,rfl⟩:=hcs
  exact zeC.to s za
end
end
section
open Go.RowKit
theorem zeJ {zs:List Int} (h:zs.Pairwise (·≤·)):(Lib.compact zs).Pairwise (· < ·):=by
 unfold Lib.compact Lib.compactUpTo
 have hs:(List.range zs.length).Pairwise (· < ·):=List.pairwise_lt_range
 rw [List.pairwise_map]
 refine ((hs.filter (Lib.keeps zs.toArray)).imp_of_mem ?_)
 intro i j hi hj hij
 have hj':=List.mem_filter.1 hj
 have hjl:j<zs.length:=List.mem_range.1 hj'.1
 have hk:=hj'.2
 have hil:i<zs.length:=by omega
 have e1:zs.toArray[i]! = zs[i]:=by simp [hil]
 have e2:zs.toArray[j]! = zs[j]:=by simp [hjl]
 have e3:zs.toArray[j - 1]! = zs[j - 1]:=by simp [show j - 1<zs.length by omega]
 have hk2:zs[j]≠zs[j - 1]:=by
  unfold Lib.keeps at hk
  rw [e2,e3] at hk
  have:j≠0:=by omega
  simpa [this] using hk
 rw [e1,e2]
 have h1:zs[i]≤zs[j - 1]:=by
  rcases Nat.lt_or_ge i (j - 1) with hl|hl
  ·exact List.pairwise_iff_getElem.1 h i (j - 1) hil za hl
  ·have:i=j - 1:=by omega
   subst this;exact Int.le_refl _
 have h2:zs[j - 1]≤zs[j]:=List.pairwise_iff_getElem.1 h (j - 1) j za hjl za
 omega
theorem zeK {zs:List Int} {y:Int}:y∈Lib.compact zs↔y∈zs:=by
 unfold Lib.compact Lib.compactUpTo
 constructor
 ·intro h
  obtain ⟨j,hj,rfl⟩:=List.mem_map.1 h
  have hjl:j<zs.length:=List.mem_range.1 (List.mem_filter.1 hj).1
  have e2:zs.toArray[j]! = zs[j]:=by simp [hjl]
  rw [e2]
  exact List.getElem_mem hjl
 ·intro h
  have key:∀ n j,j≤n→(hj:j<zs.length)→zs[j]=y→∃ k,k∈(List.range zs.length).filter (Lib.keeps zs.toArray)∧zs.toArray[k]! = y:=by
   intro n
   induction n with
   | zero =>
    intro j hjn hj e
    have:j=0:=by omega
    subst this
    exact ⟨0,List.mem_filter.2 ⟨List.mem_range.2 hj,by simp [Lib.keeps]⟩,by simp [hj,e]⟩
   | succ n ih=>
    intro j hjn hj e
    have e2:zs.toArray[j]! = zs[j]:=by simp [hj]
    by_cases hk:Lib.keeps zs.toArray j=true
    ·exact ⟨j,List.mem_filter.2 ⟨List.mem_range.2 hj,hk⟩,by rw [e2,e]⟩
    ·have hj0:j≠0:=by rintro rfl;exact hk (by simp [Lib.keeps])
     have e3:zs.toArray[j - 1]! = zs[j - 1]:=by simp [show j - 1<zs.length by omega]
     have:zs[j]=zs[j - 1]:=by
      unfold Lib.keeps at hk
      rw [e2,e3] at hk
      simpa [hj0] using hk
     exact ih (j - 1) za za (by rw [← this];exact e)
  obtain ⟨j,hj,e⟩:=List.getElem_of_mem h
  obtain ⟨k,h1,h2⟩:=key j j (Nat.le_refl _) hj e
  exact List.mem_map.2 ⟨k,h1,h2⟩
theorem zjT (zs:List Int):(zs.mergeSort fun x y=>decide (x≤y)).Pairwise (·≤·):=by
 have:=List.pairwise_mergeSort (le:=fun x y:Int=>decide (x≤y)) (by intro a b c h1 h2;simp at *;omega) (by intro a b;simp;omega) zs
 exact this.imp (by intro a b h;simpa using h)
end
def zne (a b:OpV):Prop:=a.call<b.call∧(a.done=true→a.ret≠b.call∧(b.done=true→b.ret≠a.ret))∧(a.p=b.p→a.done=true∧a.ret≤b.call)
structure WFH (l:List OpV):Prop where
 len:l.length≤300
 wf:∀ o∈l,wfB o=true
 rel:l.Pairwise zne
section
open Go.RowKit
theorem zcV (a b:List Int) (ha:a.length≤1000000000) (hb:b.length≤1000000000):zU Try.prog 42 [.list 1 (a.map zp),.list 1 (b.map zp)] .fr (.bool (decide (a=b))):=by
 refine zU.of_body (c:=(xT Try.prog zE zt 26)) ⟨Try.func42,rfl,Try.ntmps42,by kernel_rfl⟩ zL zw rfl ?_
 change FW _ _ _ ⟨[(0,.list 1 (a.map zp)),(1,.list 1 (b.map zp))],[]⟩
 refine zb ?_
 refine FW.cond rfl (fun h=>?_) (fun h=>?_)
 ·refine zb ?_
  refine FW.ret ⟨.inl rfl,zK rfl rfl ?_ rfl⟩
  have:a≠b:=by rintro rfl;simp at h
  simp [this];rfl
 ·have hlen:a.length=b.length:=by simp at h;omega
  refine zb ?_
  refine FW.loop (fun k:Nat=>⟨[(0,.list 1 (a.map zp)),(1,.list 1 (b.map zp)),(5,.int .i64 k)],[]⟩) (fun k=>k≤a.length∧a.take k=b.take k) (fun k=>a.length - k) 0 zd (FLe.cv [] yK (by repeat (first|exact .nil|refine .cons (.plain rfl rfl rfl) ?_))) ?_
  rintro k ⟨hk,hab⟩
  refine zb ?_
  refine FW.cond rfl (fun h=>?_) (fun h=>?_)
  ·have hlt:k<a.length:=by simpa using h
   clear h
   refine zY ?_
   refine ⟨by kernel_rfl,?_⟩
   refine FW.cond rfl (fun h=>?_) (fun h=>?_)
   ·refine zb ?_
    refine FW.ret ⟨.inl rfl,zK rfl rfl ?_ rfl⟩
    have:a≠b:=by rintro rfl;simp at h
    simp [this];rfl
   ·refine zb ?_
    refine ⟨k+1,⟨by omega,?_⟩,by omega,(FLe.cv [] yK (by repeat (first|exact .nil|refine .cons (.plain rfl rfl rfl) ?_)))⟩
    have h1:nth a k=nth b k:=by simpa using h
    rw [List.take_succ_eq_append_getElem hlt,List.take_succ_eq_append_getElem za,hab,← nth_eq hlt,← nth_eq za,h1]
  ·refine zb ?_
   refine FW.ret ⟨.inl rfl,zK rfl rfl ?_ rfl⟩
   have:k=a.length:=by simp at h;omega
   subst this
   have:a=b:=by rw [List.take_of_length_le (Nat.le_refl _),List.take_of_length_le za] at hab;exact hab
   simp [this];rfl
def zgO (l:List Int) (n:Int):Bool:=decide (n∈l)
theorem zkw (l:List Int) (n:Int) (hl:l.length≤1000000000):zU Try.prog 23 [.list 1 (l.map zp),.int .i64 n] .fr (.bool (zgO l n)):=by
 refine zU.of_body (c:=(xT Try.prog zE zt 18)) ⟨Try.func23,rfl,Try.ntmps23,by kernel_rfl⟩ zL zw rfl ?_
 change FW _ _ _ ⟨[(0,.list 1 (l.map zp)),(1,.int .i64 n)],[]⟩
 refine zb ?_
 refine FW.loop (fun k:Nat=>⟨[(0,.list 1 (l.map zp)),(1,.int .i64 n),(5,.int .i64 k)],[]⟩) (fun k=>k≤l.length∧n∉l.take k) (fun k=>l.length - k) 0 zd (FLe.cv [] yK (by repeat (first|exact .nil|refine .cons (.plain rfl rfl rfl) ?_))) ?_
 rintro k ⟨hk,hn⟩
 refine zb ?_
 refine FW.cond rfl (fun h=>?_) (fun h=>?_)
 ·have hlt:k<l.length:=by simpa using h
  refine zb ?_
  refine FW.cond rfl (fun h=>?_) (fun h=>?_)
  ·refine zb ?_
   refine FW.ret ⟨.inl rfl,?_⟩
   have e:zgO l n=true:=by
    have:nth l k=n:=by simpa using h
    simp only [zgO,decide_eq_true_eq,← this]
    exact zu hlt
   rw [e]
   exact .flat (.cons (.tmp 4 rfl rfl) .nil) rfl rfl
  ·refine zb ?_
   refine ⟨k+1,⟨by omega,?_⟩,by omega,(FLe.cv [] yK (by repeat (first|exact .nil|refine .cons (.plain rfl rfl rfl) ?_)))⟩
   have:nth l k≠n:=by simpa using h
   rw [List.take_succ_eq_append_getElem hlt,List.mem_append]
   rintro (h1|h1)
   ·exact hn h1
   ·rw [nth_eq hlt] at this
    simp at h1;exact this h1.symm
 ·refine zb ?_
  refine FW.ret ⟨.inl rfl,?_⟩
  have e:zgO l n=false:=by
   have:k=l.length:=by simp at h;omega
   subst this
   simpa [zgO] using hn
  rw [e]
  exact .flat (.cons (.tmp 4 rfl rfl) .nil) rfl rfl
end
end Go.Proofs.Ytmnmakhpjgjdaaa
