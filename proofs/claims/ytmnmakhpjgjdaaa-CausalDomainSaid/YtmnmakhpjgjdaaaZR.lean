/-
  Some texts as one: Row, RowOps, RowFm, SortPlain, FmOnce, FmHas, FmKeys, FmBefI, WfPlain, KeysPlain, KeyTwo, FmQt, FmFam, FmSucc.
-/
import Derived.Test.YtmnmakhpjgjdaaaZD
import Derived.ProofKit
import Derived.OpenShut
import Derived.ShutString
import Derived.ChangeOld
import Derived.Below
import Derived.Deep.Slices
import Derived.Deep.Fields
import Derived.ChangeSame
import Derived.Test.YtmnmakhpjgjdaaaZFmM
import Derived.DeepKeys4
import Derived.Maps.Keyed
import Derived.Test.YtmnmakhpjgjdaaaZFmDw
import Derived.Test.YtmnmakhpjgjdaaaZC
namespace Go.Proofs.Ytmnmakhpjgjdaaa
set_option linter.unusedVariables false
set_option maxHeartbeats 16000000
section
set_option maxRecDepth 100000
open Go.ChangeShapes Go.WideShapes Go.ChangeAt Go.RowKit Go.Deep
theorem Zn {x:Int} (h:(Lit.int .i64 x).wf=true):I64 x:=by
 simp [Lit.wf,IntKind.min,IntKind.max,IntKind.signed,IntKind.bits] at h;unfold I64;omega
section
variable {H:Type} {enc:TypeId×Value→H} {W:World} {base:Nat} {spare:Nat→Bool} {held:Bool} {v:Value} {d:DataW H} {p:List MemPlace} {r:Reach} {b0:Nat}
theorem zf2 {w:World} {a:Addr} {u:Value} (h:w.cell? a=some u):a=⟨a.block,a.off,none⟩:=by
 obtain ⟨b,o,s⟩:=a;cases s with
 | none => rfl
 | some s =>
  unfold World.cell? at h;simp only [Option.isSome_some,if_true] at h;split at h <;> cases h
theorem zhd (a:Addr) (h:a=⟨a.block,a.off,none⟩) (n:Nat):a.add n=⟨a.block,a.off+n,none⟩:=by
 obtain ⟨b,o,s⟩:=a;obtain rfl:s=none:=by injection h
 unfold Addr.add;split
 ·subst n;rfl
 ·rfl
theorem zls (hv:Value.okWide Try.prog W r b0 22 v) (h:DataW.Trod enc Try.prog W base spare held 22 v d p) :
  ∃ A c l,v=.slice A l.length c∧Sl XD W W.heap.size A l∧(∀ x∈l,I64 x)∧l.length≤9223372036854775807:=by
 obtain ⟨a0,len0,cap0,rfl⟩:=okWide_slice Try.underlying22 hv;obtain ⟨fuel,hf⟩:=h;rcases open_ints Try.underlying22 Try.underlying3 zj hf with ⟨hcs,_⟩|⟨x,l,c,zs,hcs,_,hl,hm,hz,_,hcell,hwz⟩
 ·simp [Value.cells] at hcs;obtain ⟨rfl,rfl,rfl⟩:=hcs;exact ⟨none,0,[],rfl,Sl.nil_ _ _ _ _,by simp,Nat.zero_le _⟩
 ·simp [Value.cells] at hcs;obtain ⟨rfl,rfl,rfl⟩:=hcs;have hlz:len0≤zs.length:=by rw [hz];split <;> omega
  have hlen:(zs.take len0).length=len0:=by simp;omega
  refine ⟨some x,cap0,zs.take len0,by rw [hlen],fun hne=>?_,fun y hy=>Zn (hwz y (List.mem_of_mem_take hy)),by unfold maxLen at hm;omega⟩;have h0:0<len0:=by
   rcases Nat.eq_zero_or_pos len0 with e|e
   ·subst e;simp at hne
   ·exact e
  have hc0:=hcell 0 za;rw [show x.add 0=x by simp [Addr.add]] at hc0;have hs:=zf2 hc0;refine ⟨x.block,x.off,by rw [← hs],World.block_lt_of_cell? W x hc0,fun j u hu=>?_⟩;rw [Zk,List.getElem?_map,List.getElem?_take] at hu;split at hu
  ·have hj:j<zs.length:=by omega
   have:=hcell j hj;rw [zhd x hs] at this;rw [this];simpa [hj] using hu
  ·simp at hu
end
section
variable {H:Type} {enc:TypeId×Value→H} {W:World} {base:Nat} {spare:Nat→Bool} {held:Bool} {v:Value} {d:DataW H} {p:List MemPlace} {r:Reach} {b0:Nat}
theorem zgV {n:Nat} {cs:List Value} {x:DataW H×List MemPlace} (h:DataW.trod enc Try.prog W base spare held n 43 cs=some x):∃ o:OpV,cs=o.vals∧Ve o:=by
 obtain ⟨xs,m,_,_,hlen,hxl,hf⟩:=DataW.trod_struct Try.underlying43 h;have hC:Try.prog.cellsOf 43=8:=by kernel_rfl
 have k1:Try.prog.cellsOf 3=1:=by kernel_rfl
 have k2:Try.prog.cellsOf 4=1:=by kernel_rfl
 rw [hC] at hlen
 match cs,hlen with
 | [c0,c1,c2,c3,c4,c5,c6,c7],_=>
  match xs,hxl with
  | [y0, y1, y2, y3, y4, y5, y6, y7], _ =>
   have g0:DataW.trod enc Try.prog W base spare held m 3 [c0]=some y0:=by simpa [k1] using hf 0 _ rfl
   have g1:DataW.trod enc Try.prog W base spare held m 3 [c1]=some y1:=by simpa [k1] using hf 1 _ rfl
   have g2:DataW.trod enc Try.prog W base spare held m 3 [c2]=some y2:=by simpa [k1] using hf 2 _ rfl
   have g3:DataW.trod enc Try.prog W base spare held m 3 [c3]=some y3:=by simpa [k1] using hf 3 _ rfl
   have g4:DataW.trod enc Try.prog W base spare held m 3 [c4]=some y4:=by simpa [k1] using hf 4 _ rfl
   have g5:DataW.trod enc Try.prog W base spare held m 3 [c5]=some y5:=by simpa [k1] using hf 5 _ rfl
   have g6:DataW.trod enc Try.prog W base spare held m 3 [c6]=some y6:=by simpa [k1] using hf 6 _ rfl
   have g7:DataW.trod enc Try.prog W base spare held m 4 [c7]=some y7:=by simpa [k2] using hf 7 _ rfl
   obtain ⟨n0,e0,_,w0⟩:=DataW.trod_int Try.underlying3 g0;obtain ⟨n1,e1,_,w1⟩:=DataW.trod_int Try.underlying3 g1;obtain ⟨n2,e2,_,w2⟩:=DataW.trod_int Try.underlying3 g2;obtain ⟨n3,e3,_,w3⟩:=DataW.trod_int Try.underlying3 g3;obtain ⟨n4,e4,_,w4⟩:=DataW.trod_int Try.underlying3 g4;obtain ⟨n5,e5,_,w5⟩:=DataW.trod_int Try.underlying3 g5;obtain ⟨n6,e6,_,w6⟩:=DataW.trod_int Try.underlying3 g6;obtain ⟨b7,e7,_⟩:=DataW.trod_bool Try.underlying4 g7;injection e0 with e0;injection e1 with e1;injection e2 with e2;injection e3 with e3;injection e4 with e4;injection e5 with e5;injection e6 with e6;injection e7 with e7
   subst e0 e1 e2 e3 e4 e5 e6 e7;exact ⟨⟨n0,n1,n2,n3,n4,n5,n6,b7⟩,rfl,Zn w0,Zn w1,Zn w2,Zn w3,Zn w4,Zn w5,Zn w6⟩
theorem zmV (hv:Value.okWide Try.prog W r b0 23 v) (h:DataW.Trod enc Try.prog W base spare held 23 v d p) :
  ∃ A c l,v=.slice A l.length c∧Sl OpV.vals W W.heap.size A l∧(∀ o∈l,Ve o)∧l.length≤c∧c≤9223372036854775807:=by
 obtain ⟨a0,len0,cap0,rfl⟩:=okWide_slice Try.underlying23 hv;obtain ⟨fuel,hf⟩:=h;rcases open_slice Try.underlying23 hf with ⟨hcs,_⟩|⟨a,len,cap,m,n,D,Pl,hcs,hb,hl,hm,hmm,hx,hi⟩
 ·simp [Value.cells] at hcs;obtain ⟨rfl,rfl,rfl⟩:=hcs;exact ⟨none,0,[],rfl,Sl.nil_ _ _ _ _,by simp,Nat.zero_le _,Nat.zero_le _⟩
 ·simp [Value.cells] at hcs;obtain ⟨rfl,rfl,rfl⟩:=hcs;have hC:Try.prog.cellsOf 43=8:=by kernel_rfl
  have hlm:len0≤m:=by rw [hmm];split <;> omega
  have key:∀ i,i<len0→∃ o:OpV,Ve o∧∀ j,j<8→W.cell? (a.add (i * 8+j))=o.vals[j]?:=by
   intro i hil;obtain ⟨cs',h1,h2⟩:=hi i za;rw [hC] at h1;obtain ⟨_,hcl,hat⟩:=World.cells?_some h1;obtain ⟨o,rfl,ho⟩:=zgV h2;exact ⟨o,ho,fun j hj=>by rw [← Go.Deep.add_add];exact hat j hj⟩
  obtain ⟨f,hfun⟩:∃ f:Nat→OpV,∀ i,i<len0→Ve (f i)∧∀ j,j<8→W.cell? (a.add (i * 8+j))=(f i).vals[j]?:=
   ⟨fun i=>if hh:i<len0 then (key i hh).choose else default,fun i hh=>by dsimp only;rw [dif_pos hh];exact (key i hh).choose_spec⟩
  have hlen:((List.range len0).map f).length=len0:=by simp
  refine ⟨some a,cap0,(List.range len0).map f,by rw [hlen],fun hne=>?_,fun o ho=>?_,by rw [hlen];exact hl,by unfold maxLen at hm;omega⟩
  ·have h0:0<len0:=by
    rcases Nat.eq_zero_or_pos len0 with e|e
    ·subst e;simp at hne
    ·exact e
   have hc0:=(hfun 0 h0).2 0 za;rw [show a.add (0 * 8+0)=a by simp [Addr.add]] at hc0;have hs:=zf2 (hc0.trans (show (f 0).vals[0]? = some (.int .i64 (f 0).p) from rfl));refine ⟨a.block,a.off,by rw [← hs],World.block_lt_of_cell? W a (hc0.trans (show (f 0).vals[0]? = some (.int .i64 (f 0).p) from rfl)),fun j u hu=>?_⟩;have hj:j<len0 * 8:=by
    have:=(List.getElem?_eq_some_iff.1 hu).1;rw [zmz OpV.wide,hlen] at this;exact this
   have hq:j / 8<len0:=by omega
   have hj2:j / 8 * 8+j % 8=j:=by omega
   have h3:=(hfun (j / 8) hq).2 (j % 8) za;rw [hj2,zhd a hs] at h3;rw [h3];have h4:=zad OpV.wide ((List.range len0).map f) (j / 8) (j % 8) (by rw [hlen];exact hq) za;rw [hj2,hu] at h4;rw [h4];simp
  ·obtain ⟨i,hi2,rfl⟩:=List.mem_map.1 ho;exact (hfun i (by simpa using hi2)).1
end
section
variable {H:Type} {enc:TypeId×Value→H} {W:World} {base:Nat} {spare:Nat→Bool} {held:Bool} {v:Value} {d:DataW H} {p:List MemPlace} {r:Reach} {b0:Nat}
theorem znL (hv:Value.okWide Try.prog W r b0 22 v) (h:DataW.Trod enc Try.prog W base spare held 22 v d p) :
  ∃ l:List Int,Rd W (fun b=>b<W.heap.size) v (.list 1 (l.map zD))∧(∀ x∈l,I64 x)∧l.length≤9223372036854775807:=by
 have h':=h;obtain ⟨A,c,l,rfl,s,i,m⟩:=zls hv h;refine ⟨l,?_,i,m⟩;obtain ⟨fuel,hf⟩:=h';rcases open_ints Try.underlying22 Try.underlying3 zj hf with ⟨hcs,_⟩|⟨x,l',c',zs,hcs,_,hl,hm,hz,_,hcell,hwz⟩
 ·simp [Value.cells] at hcs;obtain ⟨rfl,h0,rfl⟩:=hcs;exact zfc.to s (by simp [h0])
 ·simp [Value.cells] at hcs;obtain ⟨rfl,h0,rfl⟩:=hcs;exact zfc.to s za
theorem zoJ (hv:Value.okWide Try.prog W r b0 23 v) (h:DataW.Trod enc Try.prog W base spare held 23 v d p) :
  ∃ l:List OpV,Rd W (fun b=>b<W.heap.size) v (.list 8 (l.map OpV.fv))∧(∀ o∈l,Ve o)∧l.length≤9223372036854775807:=by
 obtain ⟨A,c,l,rfl,s,i,j,m⟩:=zmV hv h;exact ⟨l,opT.to s j,i,by omega⟩
end
end
section
open Go.RowKit
theorem zgk {zs:List Int} (h:zs.Pairwise (·≤·)):(Lib.compact zs).Pairwise (· < ·):=by
 unfold Lib.compact Lib.compactUpTo;have hs:(List.range zs.length).Pairwise (· < ·):=List.pairwise_lt_range;rw [List.pairwise_map];refine ((hs.filter (Lib.keeps zs.toArray)).imp_of_mem ?_);intro i j hi hj hij;have hj':=List.mem_filter.1 hj;have hjl:j<zs.length:=List.mem_range.1 hj'.1;have hk:=hj'.2;have hil:i<zs.length:=by omega
 have e1:zs.toArray[i]! = zs[i]:=by simp [hil]
 have e2:zs.toArray[j]! = zs[j]:=by simp [hjl]
 have e3:zs.toArray[j - 1]! = zs[j - 1]:=by simp [show j - 1<zs.length by omega]
 have hk2:zs[j]≠zs[j - 1]:=by
  unfold Lib.keeps at hk;rw [e2,e3] at hk;have:j≠0:=by omega
  simpa [this] using hk
 rw [e1,e2];have h1:zs[i]≤zs[j - 1]:=by
  rcases Nat.lt_or_ge i (j - 1) with hl|hl
  ·exact List.pairwise_iff_getElem.1 h i (j - 1) hil za hl
  ·have:i=j - 1:=by omega
   subst this;exact Int.le_refl _
 have h2:zs[j - 1]≤zs[j]:=List.pairwise_iff_getElem.1 h (j - 1) j za hjl za;omega
theorem zgl {zs:List Int} {y:Int}:y∈Lib.compact zs↔y∈zs:=by
 unfold Lib.compact Lib.compactUpTo;constructor
 ·intro h;obtain ⟨j,hj,rfl⟩:=List.mem_map.1 h;have hjl:j<zs.length:=List.mem_range.1 (List.mem_filter.1 hj).1;have e2:zs.toArray[j]! = zs[j]:=by simp [hjl]
  rw [e2];exact List.getElem_mem hjl
 ·intro h;have key:∀ n j,j≤n→(hj:j<zs.length)→zs[j]=y→∃ k,k∈(List.range zs.length).filter (Lib.keeps zs.toArray)∧zs.toArray[k]! = y:=by
   intro n
   induction n with
   | zero =>
    intro j hjn hj e;have:j=0:=by omega
    subst this;exact ⟨0,List.mem_filter.2 ⟨List.mem_range.2 hj,by simp [Lib.keeps]⟩,by simp [hj,e]⟩
   | succ n ih=>
    intro j hjn hj e;have e2:zs.toArray[j]! = zs[j]:=by simp [hj]
    by_cases hk:Lib.keeps zs.toArray j=true
    ·exact ⟨j,List.mem_filter.2 ⟨List.mem_range.2 hj,hk⟩,by rw [e2,e]⟩
    ·have hj0:j≠0:=by rintro rfl;exact hk (by simp [Lib.keeps])
     have e3:zs.toArray[j - 1]! = zs[j - 1]:=by simp [show j - 1<zs.length by omega]
     have:zs[j]=zs[j - 1]:=by
      unfold Lib.keeps at hk;rw [e2,e3] at hk;simpa [hj0] using hk
     exact ih (j - 1) za za (by rw [← this];exact e)
  obtain ⟨j,hj,e⟩:=List.getElem_of_mem h;obtain ⟨k,h1,h2⟩:=key j j (Nat.le_refl _) hj e;exact List.mem_map.2 ⟨k,h1,h2⟩
theorem zl3 (zs:List Int):(zs.mergeSort fun x y=>decide (x≤y)).Pairwise (·≤·):=by
 have:=List.pairwise_mergeSort (le:=fun x y:Int=>decide (x≤y)) (by intro a b c h1 h2;simp at *;omega) (by intro a b;simp;omega) zs;exact this.imp (by intro a b h;simpa using h)
theorem zeb (a b:List Int) (ha:a.length≤1000000000) (hb:b.length≤1000000000):zX Try.prog 42 [.list 1 (a.map zD),.list 1 (b.map zD)] .fr (.bool (decide (a=b))):=by
 refine zX.of_body (c:=(xx Try.prog zE zt 26)) ⟨Try.func42,rfl,Try.ntmps42,by kernel_rfl⟩ zH zw rfl ?_;change FW _ _ _ ⟨[(0,.list 1 (a.map zD)),(1,.list 1 (b.map zD))],[]⟩;refine zb ?_;refine FW.cond rfl (fun h=>?_) (fun h=>?_)
 ·refine zb ?_;refine FW.ret ⟨.inl rfl,zF rfl rfl ?_ rfl⟩;have:a≠b:=by rintro rfl;simp at h
  simp [this];rfl
 ·have hlen:a.length=b.length:=by simp at h;omega
  refine zb ?_;refine FW.loop (fun k:Nat=>⟨[(0,.list 1 (a.map zD)),(1,.list 1 (b.map zD)),(5,.int .i64 k)],[]⟩) (fun k=>k≤a.length∧a.take k=b.take k) (fun k=>a.length - k) 0 zc (FLe.cv [] zB zd) ?_;rintro k ⟨hk,hab⟩;refine zb ?_;refine FW.cond rfl (fun h=>?_) (fun h=>?_)
  ·have hlt:k<a.length:=by simpa using h
   clear h;refine zQ ?_;refine ⟨by kernel_rfl,?_⟩;refine FW.cond rfl (fun h=>?_) (fun h=>?_)
   ·refine zb ?_;refine FW.ret ⟨.inl rfl,zF rfl rfl ?_ rfl⟩;have:a≠b:=by rintro rfl;simp at h
    simp [this];rfl
   ·refine zb ?_;refine ⟨k+1,⟨by omega,?_⟩,by omega,(FLe.cv [] zB zd)⟩;have h1:nth a k=nth b k:=by simpa using h
    rw [List.take_succ_eq_append_getElem hlt,List.take_succ_eq_append_getElem za,hab,← nth_eq hlt,← nth_eq za,h1]
  ·refine zb ?_;refine FW.ret ⟨.inl rfl,zF rfl rfl ?_ rfl⟩;have:k=a.length:=by simp at h;omega
   subst this;have:a=b:=by rw [List.take_of_length_le (Nat.le_refl _),List.take_of_length_le za] at hab;exact hab
   simp [this];rfl
def ziR (l:List Int) (n:Int):Bool:=decide (n∈l)
theorem zhE (l:List Int) (n:Int) (hl:l.length≤1000000000):zX Try.prog 23 [.list 1 (l.map zD),.int .i64 n] .fr (.bool (ziR l n)):=by
 refine zX.of_body (c:=(xx Try.prog zE zt 18)) ⟨Try.func23,rfl,Try.ntmps23,by kernel_rfl⟩ zH zw rfl ?_;change FW _ _ _ ⟨[(0,.list 1 (l.map zD)),(1,.int .i64 n)],[]⟩;refine zb ?_;refine FW.loop (fun k:Nat=>⟨[(0,.list 1 (l.map zD)),(1,.int .i64 n),(5,.int .i64 k)],[]⟩) (fun k=>k≤l.length∧n∉l.take k) (fun k=>l.length - k) 0 zc (FLe.cv [] zB zd) ?_;rintro k ⟨hk,hn⟩;refine zb ?_;refine FW.cond rfl (fun h=>?_) (fun h=>?_)
 ·have hlt:k<l.length:=by simpa using h
  refine zb ?_;refine FW.cond rfl (fun h=>?_) (fun h=>?_)
  ·refine zb ?_;refine FW.ret ⟨.inl rfl,?_⟩;have e:ziR l n=true:=by
    have:nth l k=n:=by simpa using h
    simp only [ziR,decide_eq_true_eq,← this];exact zC hlt
   rw [e];exact .flat (.cons (.tmp 4 rfl rfl) .nil) rfl rfl
  ·refine zb ?_;refine ⟨k+1,⟨by omega,?_⟩,by omega,(FLe.cv [] zB zd)⟩;have:nth l k≠n:=by simpa using h
   rw [List.take_succ_eq_append_getElem hlt,List.mem_append];rintro (h1|h1)
   ·exact hn h1
   ·rw [nth_eq hlt] at this;simp at h1;exact this h1.symm
 ·refine zb ?_;refine FW.ret ⟨.inl rfl,?_⟩;have e:ziR l n=false:=by
   have:k=l.length:=by simp at h;omega
   subst this;simpa [ziR] using hn
  rw [e];exact .flat (.cons (.tmp 4 rfl rfl) .nil) rfl rfl
end
section
open Go.RowKit
theorem zkT {P:Program} {k i:TypeId} {fs:Array Field} (hu:P.underlying k=some (.struct fs)) (hf:fs.toList.map (fun f=>(f.type,f.offset))=[(i,0),(i,1)]) (hn:fs.all (·.name != "_")=true)
  (hi:P.underlying i=some (.int .i64)) (c1:P.cellsOf i=1) (c2:P.cellsOf k=2) (hk:P.keyType k=true) (n:Nat) (ht:P.types.size=n+1) {a b:Int} (ha:(Lit.int .i64 a).wf=true) (hb:(Lit.int .i64 b).wf=true) :
  ∃ l,keyOf P k (.agg #[.int .i64 a,.int .i64 b])=some l:=by
 have hfs:∃ f g,fs.toList=[f,g]∧f.type=i∧f.offset=0∧g.type=i∧g.offset=1:=by
  generalize fs.toList=l at hf;rcases l with _|⟨f,_|⟨g,_|⟨h,t⟩⟩⟩ <;> simp at hf
  exact ⟨f,g,rfl,hf.1.1,hf.1.2,hf.2.1,hf.2.2⟩
 obtain ⟨f,g,hl,f1,f2,g1,g2⟩:=hfs;have one:∀ x,(Lit.int .i64 x).wf=true→P.keyLits (n+1) i [.int .i64 x]=some [.int .i64 x]:=fun x hx=>by
  unfold Program.keyLits;rw [hi];simp [hx]
 have two:P.keyLits (P.types.size+1) k [.int .i64 a,.int .i64 b]=some [.int .i64 a,.int .i64 b]:=by
  unfold Program.keyLits;rw [hu];have hall:(fs.toList.all fun x=>x.name != "_")=true:=by
   rw [Array.all_toList];exact hn
  simp only;rw [if_pos ⟨by rw [c2];rfl,by simpa using hn⟩,hl,ht];simp [f1,f2,g1,g2,c1,one a ha,one b hb]
 unfold keyOf;rw [hu];refine ⟨.string (keyBytes [.int .i64 a,.int .i64 b]),?_⟩;have hfm:(Value.agg #[.int .i64 a,.int .i64 b]).formed P k=true:=by simp [Value.formed,hu,c2]
 simp only [hk,hfm,Bool.and_self,if_true];rw [show (Value.agg #[.int .i64 a,.int .i64 b]).cells.toList=[.int .i64 a,.int .i64 b] from rfl,two];rfl
theorem znO:laidOutB Try.prog=true:=by kernel_rfl
def zne (P:Program) (k:TypeId):Array Field:=match P.underlying k with|some (.struct fs)=>fs|_=>#[]
def zeo (a b:Int):FV:=.agg [.int .i64 a,.int .i64 b]
theorem zfn {a:Int} (h:I64 a):(Lit.int .i64 a).wf=true:=by
 have h1:IntKind.i64.min = -9223372036854775808:=by kernel_rfl
 have h2:IntKind.i64.max=9223372036854775807:=by kernel_rfl
 unfold I64 at h;simp [Lit.wf,h1,h2,h]
def zhT (l:List Oper):Bool:=zdS l && (List.range l.length).all fun i=>(List.range i).all fun j=>((zhg l []).getD i []).contains j || (l.getD j default).apart l.toArray (l.getD i default)
def still (tr:List Rec):Bool:=tr.all fun r=>r.wr.isEmpty
theorem UW {c:Ctx} {l:List Oper} {s s' : FSt} {tr:List Rec} (hst:zhT l=true) (hx:zj8 c l.toArray s l tr s') (hs:still tr=true):Uf l.toArray tr=true:=by
 obtain ⟨hlen,_,hrec⟩:=hx.at;unfold zhT at hst;rw [Bool.and_eq_true] at hst;unfold Uf;rw [Bool.and_eq_true];refine ⟨hst.1,?_⟩;unfold zgU;rw [List.all_eq_true];intro i hi;rw [List.all_eq_true];intro j hj;have hi2:i<l.length:=by rw [← hlen];exact List.mem_range.1 hi
 have hj2:j<i:=List.mem_range.1 hj;have h:=List.all_eq_true.1 (List.all_eq_true.1 hst.2 i (List.mem_range.2 hi2)) j hj;rw [Bool.or_eq_true] at h ⊢;refine h.imp id (fun h=>?_);have key:∀ k,k<l.length→(tr.getD k default).wr=[]:=fun k hk=>by
  have hk' : k<tr.length:=by omega
  have:tr.getD k default∈tr:=by
   rw [List.getD_eq_getElem?_getD,List.getElem?_eq_getElem hk',Option.getD_some];exact List.getElem_mem hk'
  have:=List.all_eq_true.1 hs _ this;exact List.isEmpty_iff.1 this
 unfold YY;rw [key i hi2,key j za,(hrec i hi2).1,(hrec j za).1,h];rfl
/-! the same look,reckoned on numbers -/
def zav:List Nat→Nat
 | [] => 0
 | t :: l => (1 <<< t) ||| zav l
theorem VS {d:Nat}:∀ {l:List Nat},d∈l→(zav l).testBit d=true
 | t :: l, h => by
  unfold zav;rw [Nat.testBit_or,Bool.or_eq_true];rcases List.mem_cons.1 h with rfl|h
  ·left;rw [Nat.testBit_shiftLeft];simp
  ·exact .inr (VS h)
def znI (o:Oper):Nat:=match o.dst with|some d=>1 <<< d|none=>0
theorem zaE {o:Oper} {d:Nat} (h:o.dst=some d):(znI o).testBit d=true:=by
 unfold znI;rw [h];dsimp only;rw [Nat.testBit_shiftLeft];simp
def frc (n:Nat) (k:Nat→Bool):Bool:=match n with|0=>k 0|m+1=>k (m+1)
theorem zky (n:Nat) (k:Nat→Bool):frc n k=k n:=by cases n <;> rfl
def zmR (A D L:Nat):Nat→List (Nat×Nat)→Bool
 | _, [] => true
 | j, p :: rest => (A.testBit (j - 1) || (Nat.beq (p.1 &&& (L ||| D)) 0 && Nat.beq (D &&& p.2) 0)) && zmR A D L (j - 1) rest
def zoo (i:Nat) (acc:List Nat):List Edge→Nat
 | [] => 0
 | e :: es => (if Region.binds .any e then (1 <<< e.on) ||| acc.getD (i - 1 - e.on) 0 else 0) ||| zoo i acc es
def ziC (i:Nat):List Edge→Bool
 | [] => true
 | e :: es => (!Region.binds .any e || Nat.blt e.on i) && ziC i es
def zhz (ops:Array Oper):List Oper→Nat→List (Nat×Nat)→List Nat→Bool
 | [], _, _, _ => true
 | o :: l, i, prev, acc => frc (znI o) fun D => frc (zav (o.looksAt ops)) fun L => frc (zoo i acc o.after.toList) fun A => ziC i o.after.toList && zmR A D L i prev && zhz ops l (i+1) ((D, L) :: prev) (A :: acc)
def zhA (l:List Oper):Bool:=zhz l.toArray l 0 [] []
theorem zhY {A D L:Nat}:∀ {prev:List (Nat×Nat)} {j:Nat},prev.length=j→zmR A D L j prev=true→∀ x,x<j→A.testBit x=true∨((prev.getD (j - 1 - x) (0,0)).1 &&& (L ||| D)=0∧D &&& (prev.getD (j - 1 - x) (0,0)).2=0)
 | [], j, hl, _, x, hx => by simp at hl; omega
 | p::rest,j,hl,h,x,hx=>by
  unfold zmR at h;rw [Bool.and_eq_true] at h;rcases Nat.eq_or_lt_of_le (show x≤j - 1 by omega) with e|hlt
  ·subst e;rw [Nat.sub_self,List.getD_cons_zero];rw [Bool.or_eq_true,Bool.and_eq_true] at h;exact h.1.imp id fun h=>⟨Nat.eq_of_beq_eq_true h.1,Nat.eq_of_beq_eq_true h.2⟩
  ·have:=zhY (by simp at hl;omega) h.2 x hlt;rwa [show j - 1 - x=(j - 1 - 1 - x)+1 by omega,List.getD_cons_succ]
theorem zkg {i:Nat} {accM:List Nat} {acc:List (List Nat)} (hl:acc.length=i) (hm:∀ k,k<i→∀ b,(accM.getD (i - 1 - k) 0).testBit b=true→b∈acc.getD k []):∀ (es:List Edge),ziC i es=true→∀ b,(zoo i accM es).testBit b=true→
  b∈es.flatMap fun e=>if Region.binds .any e then e.on::acc.getD e.on [] else []
 | [], _, b, h => by simp [zoo] at h
 | e ::es,he,b,h=>by
  unfold ziC at he;rw [Bool.and_eq_true] at he;unfold zoo at h;rw [Nat.testBit_or,Bool.or_eq_true] at h;rw [List.flatMap_cons,List.mem_append];rcases h with h|h
  ·left;by_cases hb:Region.binds .any e=true
   ·rw [if_pos hb] at h ⊢;rw [Nat.testBit_or,Bool.or_eq_true] at h;rcases h with h|h
    ·rw [Nat.one_shiftLeft,Nat.testBit_two_pow] at h;have:e.on=b:=of_decide_eq_true h;rw [this];exact List.mem_cons_self
    ·have h1:=he.1;rw [hb] at h1;have h1:e.on<i:=by simpa using h1
     exact List.mem_cons_of_mem _ (hm _ h1 b h)
   ·rw [if_neg hb] at h;simp at h
  ·exact .inr (zkg hl hm es he.2 b h)
theorem zhu {i:Nat}:∀ {es:List Edge},ziC i es=true→∀ e∈es,(!Region.binds .any e || decide (e.on<i))=true
 | e::es,h,e',he=>by
  unfold ziC at h;rw [Bool.and_eq_true] at h;rcases List.mem_cons.1 he with rfl|he
  ·have:=h.1;rw [Bool.or_eq_true] at this ⊢;exact this.imp id fun h=>decide_eq_true (Nat.le_of_ble_eq_true h)
  ·exact zhu h.2 e' he
theorem zkh {a b d:Nat} (h:a &&& b=0) (ha:a.testBit d=true):b.testBit d=false:=by
 have:(a &&& b).testBit d=false:=by rw [h];exact Nat.zero_testBit d
 rw [Nat.testBit_and,ha,Bool.true_and] at this;exact this
theorem zio {ops:Array Oper} {x y:Oper} (h1:znI x &&& (zav (y.looksAt ops) ||| znI y)=0) (h2:znI y &&& zav (x.looksAt ops)=0):x.apart ops y=true:=by
 unfold Oper.apart;rw [Bool.and_eq_true];constructor
 ·cases hd:x.dst with
  | none => rfl
  | some d=>
   have:=zkh h1 (zaE hd);rw [Nat.testBit_or,Bool.or_eq_false_iff] at this;dsimp only;rw [Bool.and_eq_true];constructor
   ·cases hc:(y.looksAt ops).contains d with
    | false => rfl
    | true =>
     have:=this.1;rw [VS (by simpa using hc)] at this;cases this
   ·simp only [bne_iff_ne,ne_eq];intro e;have:=this.2;rw [zaE e] at this;cases this
 ·cases hd:y.dst with
  | none => rfl
  | some d =>
   have:=zkh h2 (zaE hd);dsimp only;cases hc:(x.looksAt ops).contains d with
   | false => rfl
   | true => rw [VS (by simpa using hc)] at this; cases this
theorem zeR {ops:Array Oper}:∀ {l:List Oper} {first:List Oper} {i:Nat} {prev:List (Nat×Nat)} {accM:List Nat} {acc:List (List Nat)},first.length=i→prev.length=i→accM.length=i→acc.length=i→
  (∀ j,j<i→prev.getD (i - 1 - j) (0,0)=(znI (first.getD j default),zav ((first.getD j default).looksAt ops)))→(∀ k,k<i→∀ b,(accM.getD (i - 1 - k) 0).testBit b=true→b∈acc.getD k [])→
  zhz ops l i prev accM=true→∀ k,k<l.length→(∀ e∈(l.getD k default).after.toList,(!Region.binds .any e || decide (e.on<i+k))=true)∧∀ j,j<i+k→j∈(zhg l acc).getD (i+k) []∨((first++l).getD j default).apart ops (l.getD k default)=true
 | [], _, _, _, _, _, _, _, _, _, _, _, _, k, hk => by simp at hk
 | o ::l,first,i,prev,accM,acc,hf,hp,ha,hc,h1,h2,h,k,hk=>by
  unfold zhz at h;rw [zky,zky,zky,Bool.and_eq_true,Bool.and_eq_true] at h;obtain ⟨⟨he,hpr⟩,hrest⟩:=h;have hanc:∀ b,(zoo i accM o.after.toList).testBit b=true→b∈o.after.toList.flatMap fun e=>if Region.binds .any e then e.on::acc.getD e.on [] else []:=zkg hc h2 _ he
  cases k with
  | zero=>
   refine ⟨fun e hee=>zhu he e (by simpa using hee),fun j hj=>?_⟩;rw [Nat.add_zero] at hj ⊢;rw [List.getD_cons_zero];rcases zhY hp hpr j hj with q|⟨q1,q2⟩
   ·left;rw [zhg,zhh l _ i zx,List.getD_eq_getElem?_getD,List.getElem?_append_right za,hc,Nat.sub_self];simpa using hanc j q
   ·right;rw [h1 j hj] at q1 q2;rw [List.getD_eq_getElem?_getD,List.getElem?_append_left za,← List.getD_eq_getElem?_getD];exact zio q1 q2
  | succ k=>
   have:=zeR (first:=first++[o]) (i:=i+1) (acc:=acc++[o.after.toList.flatMap fun e=>if Region.binds .any e then e.on::acc.getD e.on [] else []]) zx zx zx zx (fun j hj=>?_) (fun q hq b hb=>?_) hrest k (by simpa using hk)
   ·rw [show i+1+k=i+(k+1) by omega] at this;rw [List.getD_cons_succ,zhg];rw [List.append_assoc] at this;exact this
   ·rcases Nat.eq_or_lt_of_le (show j≤i by omega) with e|hlt
    ·subst e;rw [Nat.add_sub_cancel,Nat.sub_self,List.getD_cons_zero];have:(first++[o]).getD j default=o:=by rw [List.getD_eq_getElem?_getD,List.getElem?_append_right za,hf,Nat.sub_self];rfl
     rw [this]
    ·rw [show i+1 - 1 - j=(i - 1 - j)+1 by omega,List.getD_cons_succ,h1 j hlt];have:(first++[o]).getD j default=first.getD j default:=by rw [List.getD_eq_getElem?_getD,List.getElem?_append_left za,← List.getD_eq_getElem?_getD]
     rw [this]
   ·rcases Nat.eq_or_lt_of_le (show q≤i by omega) with e|hlt
    ·subst e;rw [Nat.add_sub_cancel,Nat.sub_self,List.getD_cons_zero] at hb;rw [List.getD_eq_getElem?_getD,List.getElem?_append_right za,hc,Nat.sub_self];simpa using hanc b hb
    ·rw [show i+1 - 1 - q=(i - 1 - q)+1 by omega,List.getD_cons_succ] at hb;rw [List.getD_eq_getElem?_getD,List.getElem?_append_left za,← List.getD_eq_getElem?_getD];exact h2 q hlt b hb
theorem zcc {l:List Oper} (h:zhA l=true):zhT l=true:=by
 have key:=zeR (first:=[]) (acc:=[]) (i:=0) rfl rfl rfl rfl (fun j hj=>by omega) (fun j hj=>by omega) h;unfold zhT;rw [Bool.and_eq_true];constructor
 ·unfold zdS;rw [List.all_eq_true];intro i hi;rw [List.all_eq_true];intro e he;have:=(key i (List.mem_range.1 hi)).1 e he;rwa [Nat.zero_add] at this
 ·rw [List.all_eq_true];intro i hi;rw [List.all_eq_true];intro j hj;have:=(key i (List.mem_range.1 hi)).2 j (by rw [Nat.zero_add];exact List.mem_range.1 hj);rw [Nat.zero_add,List.nil_append] at this;rw [Bool.or_eq_true];exact this.imp (fun h=>by simpa using h) id
theorem FW.drawQ {c:Ctx} {Q:Exit→FSt→Prop} {s:FSt} {id:Nat} {l:List Oper} (hst:zhA l=true) (h:zN c l.toArray l s [] fun s' tr=>still tr=true∧Q .normal s'):FW c (.region id l.toArray true) Q s:=by
 obtain ⟨tr,s',hx,hs,hq⟩:=h;exact FW.draw ⟨tr,s',hx,UW (zcc hst) hx (by simpa using hs),hq⟩
def zbg (k:Nat):Nat→List (Nat×zq)
 | 0 => []
 | m+1 => (k, {}) :: zbg (k+1) m
def YJ (N:Nat):List (Nat×zq):=zbg 0 N
def VY (B n:Nat) (f:Nat→zq):List (Nat×zq):=(List.range n).map fun v=>(B+v,f v)
theorem ZY {α:Type} {d:α}:∀ {l m:List (Nat×α)} {k:Nat},look d (l++m) k=if l.any (fun p=>Nat.beq p.1 k) then look d l k else look d m k
 | [], m, k => by simp
 | p::l,m,k=>by
  obtain ⟨i,x⟩:=p;rw [List.cons_append,zI,zI,ZY,List.any_cons];by_cases h:i=k
  ·subst h;simp
  ·have:Nat.beq i k=false:=by
    cases hb:Nat.beq i k with
    | true => exact absurd (Nat.eq_of_beq_eq_true hb) h
    | false => rfl
   simp only [if_neg h,this,Bool.false_or]
theorem zcO {p:Nat×zq}:∀ {m k:Nat},p∈zbg k m→p.1<k+m
 | 0, _, h => by cases h
 | m+1, k, h => by
  rcases List.mem_cons.1 h with rfl|h
  ·show k<k+(m+1);omega
  ·have:=zcO h;omega
theorem zfp {k:Nat} {l:List (Nat×zq)}:∀ {m q:Nat},look {} (zbg q m++l) k=if q≤k∧k<q+m then {} else look {} l k
 | 0, q => by rw [if_neg za]; rfl
 | m+1,q=>by
  show look ({}:zq) ((q,{})::(zbg (q+1) m++l)) k=_;rw [zI,zfp];by_cases h:q=k
  ·subst h;simp
  ·rw [if_neg h];by_cases h2:q+1≤k∧k<q+1+m
   ·rw [if_pos h2,if_pos za]
   ·rw [if_neg h2,if_neg za]
theorem zhO {N k:Nat} {l:List (Nat×zq)}:look {} (YJ N++l) k=if k<N then {} else look {} l k:=by
 unfold YJ;rw [zfp];simp
theorem zdL {B n k:Nat} {f:Nat→zq}:look {} (VY B n f) k=if B≤k∧k<B+n then f (k - B) else {}:=by
 have key:∀ (L:List Nat),L.Nodup→look ({}:zq) (L.map fun v=>(B+v,f v)) k=if ∃ v∈L,B+v=k then f (k - B) else {}:=by
  intro L
  induction L with
  | nil => intro _; simp [look]
  | cons x L ih=>
   intro hn;rw [List.nodup_cons] at hn;rw [List.map_cons,zI,ih hn.2];by_cases h:B+x=k
   ·rw [if_pos h,if_pos ⟨x,by simp,h⟩,show k - B=x by omega]
   ·rw [if_neg h];by_cases h2:∃ v∈L,B+v=k
    ·rw [if_pos h2,if_pos (let ⟨v,h3,h4⟩:=h2;⟨v,by simp [h3],h4⟩)]
    ·rw [if_neg h2,if_neg];rintro ⟨v,hv,e⟩;rcases List.mem_cons.1 hv with rfl|hv
     ·exact h e
     ·exact h2 ⟨v,hv,e⟩
 unfold VY;rw [key _ List.nodup_range];by_cases h:B≤k∧k<B+n
 ·rw [if_pos h,if_pos ⟨k - B,List.mem_range.2 za,by omega⟩]
 ·rw [if_neg h,if_neg];rintro ⟨v,hv,e⟩;have:=List.mem_range.1 hv;omega
def zhy (B n:Nat) (s:Nat→Option Nat) (vo:Nat→Nat) (f:Nat→zq):List Ent:=(List.range n).map fun j=>⟨B+j,s j,vo j,f j⟩
theorem yF {B n:Nat} {s:Nat→Option Nat} {vo:Nat→Nat} {f:Nat→zq} {j:Nat} (h:j<n):(⟨B+j,s j,vo j,f j⟩:Ent)∈zhy B n s vo f:=List.mem_map.2 ⟨j,List.mem_range.2 h,rfl⟩
theorem zmy (B n:Nat) (s:Nat→Option Nat) (vo:Nat→Nat) (f:Nat→zq):((zhy B n s vo f).map fun e=>(e.new,e.b))=VY B n f:=by
 unfold zhy VY;rw [List.map_map];rfl
def zmf (ob:List (Nat×zq)) (s:Option Nat) (vo:Nat) (b:zq):Prop:=(s=none∧b.life=.own∧b.es=[])∨∃ i,s=some i∧look {} ob i=⟨vo,b.life,b.E,b.sz,b.es⟩∧b.life.plain=true
theorem yN.fam {L:List Nat} {ob:List (Nat×zq)} {M0:List Ent} {B:Nat} {s:Nat→Option Nat} {vo:Nat→Nat} {f:Nat→zq} (h:∀ j∈L,zmf ob (s j) (vo j) (f j)):yN ob M0 (L.map fun j=>(⟨B+j,s j,vo j,f j⟩:Ent)):=by
 induction L with
 | nil => exact .nil
 | cons j L ih =>
  have hj:=h j zc;have ih':=ih fun k hk=>h k (by simp [hk]);rw [List.map_cons];generalize s j=sj at hj;generalize f j=b at hj;obtain ⟨v,l,E,sz,es⟩:=b;rcases hj with ⟨rfl,h1,h2⟩|⟨i,rfl,h1,h2⟩
  ·dsimp only at h1 h2;subst h1;subst h2;exact .new ih'
  ·exact .old h1 h2 rfl ih'
theorem yN.append {ob:List (Nat×zq)} {M0 M1 M2:List Ent} (h1:yN ob M0 M1) (h2:yN ob M0 M2):yN ob M0 (M1++M2):=by
 induction h1 with
 | nil => exact h2
 | old h hl e _ ih => exact .old h hl e ih
 | new _ ih => exact .new ih
 | oldH h e _ ih => exact .oldH h e ih
 | oldK h e _ ih => exact .oldK h e ih
 | oldM h e _ ih => exact .oldM h e ih
theorem zdk.all {ob:List (Nat×zq)}:∀ {M:List Ent},(∀ q∈M,q.new<zh)→zdk ob M
 | [], _ => .nil
 | q ::M,h=>.low (by
     have:=h q zc;cases hb:Nat.ble zh q.new with
     | false => rfl
     | true => have := Nat.le_of_ble_eq_true hb; omega) (zdk.all fun p hp => h p (by simp [hp]))
theorem zmE {ob:List (Nat×zq)} (h:∀ p∈ob,p.1<zh):zmD ob=true:=List.all_eq_true.2 fun p hp=>by
 have:=h p hp;cases hb:Nat.ble zh p.1 with
 | false => rfl
 | true => have := Nat.le_of_ble_eq_true hb; omega
theorem FLe.ext {t:List (Nat×FV)} {ob ob' : List (Nat×zq)} (h:∀ k,look {} ob' k=look {} ob k):FLe ⟨t,ob⟩ ⟨t,ob'⟩:=fun _ _ _ _ _ β hF=>⟨β,hF.ext (fun _=>rfl) h⟩
theorem FLe.pad {t:List (Nat×FV)} {C:List (Nat×zq)} {N B n:Nat} {f:Nat→zq} (h:N≤B):FLe ⟨t,C++VY B n f⟩ ⟨t,C++(YJ N++VY B n f)⟩:=by
 refine FLe.ext fun k=>?_;rw [ZY,ZY (l:=C) (m:=VY B n f),zhO];split
 ·rfl
 ·split
  ·rw [zdL,if_neg za]
  ·rfl
theorem FLe.convF {t t' : List (Nat×FV)} {ob:List (Nat×zq)} (C:List Ent) (N B n:Nat) (s:Nat→Option Nat) (vo:Nat→Nat) (f:Nat→zq) (hNB:N≤B) (hBn:B+n≤zh) (hCl:C.all (fun q=>Nat.blt q.new B)=true) (hCn:(C.map Ent.new).Nodup)
  (hsn:(C.filterMap Ent.src++(List.range n).filterMap s).Nodup) (hlow:∀ p∈ob,p.1<zh) (hf:∀ j,j<n→zmf ob (s j) (vo j) (f j)) (hC:yN ob (C++zhy B n s vo f) C) (ht:SlC t (C++zhy B n s vo f) t') :
  FLe ⟨t,ob⟩ ⟨t',(C.map fun e=>(e.new,e.b))++(YJ N++VY B n f)⟩:=by
 have hlt:∀ q∈C,q.new<B:=fun q hq=>Nat.le_of_ble_eq_true (List.all_eq_true.1 hCl q hq);refine FLe.trans ?_ (FLe.pad hNB);rw [← zmy B n s vo f,← List.map_append];refine FLe.conv (C++zhy B n s vo f) ?_ ?_ (zkC (zmE hlow) _) (zdk.all fun q hq=>?_) (hC.append (yN.fam fun j hj=>hf j (List.mem_range.1 hj))) ht
 ·rw [List.map_append];refine List.nodup_append.2 ⟨hCn,?_,fun a ha b hb=>?_⟩
  ·unfold zhy;rw [List.map_map];exact List.Pairwise.map _ (fun a b (hab:a≠b)=>by show B+a≠B+b;omega) List.nodup_range
  ·obtain ⟨q,hq,rfl⟩:=List.mem_map.1 ha;obtain ⟨p,hp,rfl⟩:=List.mem_map.1 hb;obtain ⟨j,hj,rfl⟩:=List.mem_map.1 hp;have:=hlt q hq;dsimp only;omega
 ·rw [List.filterMap_append];unfold zhy;rw [List.filterMap_map];exact hsn
 ·rcases List.mem_append.1 hq with hq|hq
  ·have:=hlt q hq;omega
  ·obtain ⟨j,hj,rfl⟩:=List.mem_map.1 hq;have:=List.mem_range.1 hj;show B+j<zh;omega
theorem UN.of {M:List Ent}:∀ {n:Nat} {c c' : Nat→FV},(∀ j,j<n→UL M (c j) (c' j))→UN M ((List.range n).map fun j=>[c j]) ((List.range n).map fun j=>[c' j]):=by
 intro n c c' h;have key:∀ L:List Nat,(∀ j∈L,UL M (c j) (c' j))→UN M (L.map fun j=>[c j]) (L.map fun j=>[c' j]):=by
  intro L
  induction L with
  | nil => intro _; exact .nil
  | cons x L ih => intro h; exact .cons (h x zc) (ih fun j hj => h j (by simp [hj]))
 exact key _ fun j hj=>h j (List.mem_range.1 hj)
theorem VC {α:Type} (n v:Nat) (f:Nat→α) (x:α):((List.range n).map f).set v x=(List.range n).map fun j=>if j=v then x else f j:=by
 apply List.ext_getElem
 ·simp
 ·intro i h1 h2;rw [List.getElem_set,List.getElem_map,List.getElem_map,List.getElem_range];by_cases h:v=i
  ·subst h;simp
  ·rw [if_neg h,if_neg (fun e=>h e.symm)]
theorem zfI {w:World} {base:Nat} {I I' : Nat→Prop} {βid:Option Nat} {ob:zq} {u:Value} {o n:Nat} (hg:Wv w βid ob u o n) (hr:znB w base I βid ob) (hb:∀ b,βid=some b→I' b) (hI:∀ b,I b→I' b):Rd w I' u (.list ob.sz ((ob.es.drop o).take n)):=by
 obtain ⟨A,cc,rfl,e2,e3,e4,e5⟩:=hg.ex;have hw:=hr.wide;have hone:=hr.one;have hwd:∀ e∈ob.es.drop o,e.length=ob.sz:=fun e he=>hw e (List.mem_of_mem_drop he);have hlen:((ob.es.drop o).take n).length=n:=by simp;omega
 have hfl:((ob.es.drop o).take n).flatten=(ob.es.flatten.drop (o * ob.sz)).take (n * ob.sz):=by rw [Zm _ hwd,xI _ hw]
 have hone' : ∀ f∈((ob.es.drop o).take n).flatten,f.one=true:=fun f hf=>by rw [hfl] at hf;exact hone f (List.mem_of_mem_drop (List.mem_of_mem_take hf))
 cases hbi:βid with
 | none =>
  obtain ⟨rfl,rfl⟩:=e4 hbi;obtain rfl:n=0:=by omega
  exact .list none 0 0 _ _ [] zc (Nat.le_refl _) zc zc zc zc zc
 | some b=>
  obtain ⟨o',rfl,k2,k3⟩:=e5 b hbi;obtain ⟨v',us,r1,r2,r3⟩:=hr.row;have hR:RdL w I' ((us.drop (o * ob.sz)).take (n * ob.sz)) ((ob.es.drop o).take n).flatten:=by
   rw [hfl];exact ((r3.mono fun b hb=>⟨hI b hb,rfl⟩).drop _).take _
  refine .list _ n cc ob.sz _ _ hlen e2 (fun e he=>hwd e (List.mem_of_mem_take he)) hone' (fun h0=>⟨b,o',rfl,hb b hbi,fun j u hu=>?_⟩) hR.1 hR.2;have:=k2 (.inl za);subst this;rw [List.getElem?_take] at hu;split at hu
  ·rw [List.getElem?_drop] at hu;have hcell:=r1.cells (g:=b) (by rw [r2];exact hbi) _ u hu;rwa [yP,Nat.zero_add] at hcell
  ·cases hu
theorem FLe.deep {t:List (Nat×FV)} {ob:List (Nat×zq)} (id B n:Nat) {w E2 E sz:Nat} (vs:Nat→Nat) (es:Nat→List (List FV)) (h:look {} ob id=⟨w,.hrow,E2,1,(List.range n).map fun j=>[.own (B+j) (vs j) 0 (es j).length]⟩)
  (hf:∀ j,j<n→look {} ob (B+j)=⟨vs j,.own,E,sz,es j⟩) (hid:id<B):FLe ⟨t,ob⟩ ⟨t,(id,⟨w,.own,E2,1,(List.range n).map fun j=>[.list sz (es j)]⟩)::(VY B n (fun j=>⟨vs j,.dead,E,sz,es j⟩)++ob)⟩:=by
 intro N w0 J a wd β hF;refine ⟨β,?_⟩;have ho:(⟨t,ob⟩:FSt).ob id=⟨w,.hrow,E2,1,(List.range n).map fun j=>[.own (B+j) (vs j) 0 (es j).length]⟩:=h;have hlive:((⟨t,ob⟩:FSt).ob id).life≠.dead:=by rw [ho];exact (by decide:yf.hrow≠.dead)
 obtain ⟨s',hs'⟩:∃ s' : FSt,s'=⟨t,(id,⟨w,.own,E2,1,(List.range n).map fun j=>[.list sz (es j)]⟩)::(VY B n (fun j=>⟨vs j,.dead,E,sz,es j⟩)++ob)⟩:=⟨_,rfl⟩
 rw [← hs'];have hob:∀ k,s'.ob k=if id=k then ⟨w,.own,E2,1,(List.range n).map fun j=>[.list sz (es j)]⟩ else if B≤k∧k<B+n then ⟨vs (k - B),.dead,E,sz,es (k - B)⟩ else (⟨t,ob⟩:FSt).ob k:=fun k=>by
  rw [hs'];show look ({}:zq) _ k=_;rw [zI];split
  ·rfl
  ·rw [ZY];have hany:(VY B n (fun j=>(⟨vs j,.dead,E,sz,es j⟩:zq))).any (fun p=>Nat.beq p.1 k)=decide (B≤k∧k<B+n):=by
    rw [Bool.eq_iff_iff,List.any_eq_true,decide_eq_true_eq];constructor
    ·rintro ⟨p,hp,e⟩;obtain ⟨j,hj,rfl⟩:=List.mem_map.1 hp;have h1:=Nat.eq_of_beq_eq_true e;have h2:=List.mem_range.1 hj;dsimp only at h1;omega
    ·intro hk;exact ⟨(k,_),List.mem_map.2 ⟨k - B,List.mem_range.2 za,by rw [show B+(k - B)=k by omega]⟩,Nat.beq_refl k⟩
   rw [hany,zdL];by_cases hk:B≤k∧k<B+n
   ·rw [decide_eq_true hk,if_pos rfl,if_pos hk,if_pos hk]
   ·rw [decide_eq_false hk,if_neg zg,if_neg hk];rfl
 have hsub:∀ k,(s'.ob k).life≠.dead→((⟨t,ob⟩:FSt).ob k).life≠.dead:=fun k hl=>by
  rw [hob] at hl;split at hl
  ·rename_i e;subst e;exact hlive
  ·split at hl
   ·exact absurd rfl hl
   ·exact hl
 have hmine:∀ k,(s'.ob k).life.mine=true→((⟨t,ob⟩:FSt).ob k).life.mine=true:=fun k hl=>by
  rw [hob] at hl;split at hl
  ·rename_i e;subst e;rw [ho];rfl
  ·split at hl
   ·cases hl
   ·exact hl
 have hI:∀ b,Imm J wd β ⟨t,ob⟩ b→Imm J wd β s' b:=fun b hb=>⟨hb.1,hb.2.1,fun k hl=>hb.2.2 k (hmine k hl)⟩
 have hver:∀ k,(s'.ob k).ver=((⟨t,ob⟩:FSt).ob k).ver:=fun k=>by
  rw [hob];split
  ·rename_i e;subst e;rw [ho]
  ·split
   ·rename_i hk;have:=hf (k - B) za;rw [show B+(k - B)=k by omega] at this;have e:(⟨t,ob⟩:FSt).ob k=look ({}:zq) ob k:=rfl;rw [e,this]
   ·rfl
 refine hF.step (C:=fun k=>k=id∨(B≤k∧k<B+n)) hF.size hF.defers hF.bel (fun b hb=>⟨hI b hb,rfl⟩) (fun k=>.inl ⟨rfl,by rw [hs'];rfl⟩) (fun k hC=>?_) (fun k _=>Nat.le_of_eq (hver k).symm) (fun k hC hl _=>?_) (fun k hC hl T=>?_) (fun k k' b hl hl' e e'=>hF.inj k k' b (hsub k hl) (hsub k' hl') e e') (fun b _ hn=>⟨rfl,fun k hl=>hn k (hsub k hl)⟩)
 ·refine ⟨?_,rfl,fun _ _ _=>rfl⟩;rw [hob,if_neg (fun e=>hC (.inl e.symm)),if_neg (fun e=>hC (.inr e))]
 ·rcases hC with rfl|hC
  ·refine ⟨hlive,rfl,by rw [hob,if_pos rfl,ho],by rw [hob,if_pos rfl,ho];rfl,fun v o m hv=>?_⟩;rw [ho] at hv;obtain ⟨A,c,k1,k2,k3,k4,k5⟩:=hv.ex;rw [hob,if_pos rfl];exact ⟨rfl,A,c,k1,k2,by simpa using k3,k4,k5⟩
  ·exfalso;rw [hob,if_neg za,if_pos hC] at hl;exact hl rfl
 ·rcases hC with rfl|hC
  ·rw [hob,if_pos rfl];have hH:=(hF.obj k hlive).rowH (by rw [ho];rfl) (by rw [ho];rfl);rw [ho] at hH;obtain ⟨v,us,r1,r2,r3,r4⟩:=hH.row;dsimp only at r1 r3 r4;have hfl:∀ (g:Nat→FV),((List.range n).map fun j=>[g j]).flatten=(List.range n).map g:=fun g=>by
    generalize List.range n=L
    induction L with
    | nil => rfl
    | cons x L ih => simp [ih]
   rw [hfl] at r3 r4;refine .ofRow ⟨fun e he=>?_,fun f hf'=>?_,v,us,?_,r2,?_,fun j u f hu hff=>?_⟩ (.own rfl) rfl
   ·obtain ⟨j,_,rfl⟩:=List.mem_map.1 he;rfl
   ·dsimp only at hf';rw [hfl] at hf';obtain ⟨j,_,rfl⟩:=List.mem_map.1 hf';rfl
   ·dsimp only;rw [List.length_map] at r1 ⊢;exact r1
   ·dsimp only;rw [hfl,List.length_map] at *;exact r3
   ·dsimp only at hff;rw [hfl] at hff;have hjn:j<n:=by have:=(List.getElem?_eq_some_iff.1 hff).1;simpa using this
    rw [List.getElem?_map,List.getElem?_range hjn] at hff;injection hff with hff
    subst hff;have hv:=r4 j u _ hu (by rw [List.getElem?_map,List.getElem?_range hjn];rfl);have hoj:(⟨t,ob⟩:FSt).ob (B+j)=⟨vs j,.own,E,sz,es j⟩:=hf j hjn;have hlj:((⟨t,ob⟩:FSt).ob (B+j)).life≠.dead:=by rw [hoj];exact (by decide:yf.own≠.dead)
    have hov:=hv hlj (by rw [hoj]);have hO:=hF.obj (B+j) hlj;have hrr:=hO.rowR (by rw [hoj];rfl);have:=zfI (I':=Imm J wd β s') hov hrr (fun b hb=>?_) hI
    ·rw [hoj] at this;dsimp only at this;rwa [List.drop_zero,List.take_length] at this
    ·have hlt:=hO.lt hb;refine ⟨hlt.2,hF.fresh b hlt.1 (.inr ⟨_,hlj,hb⟩),fun k' hl' e=>?_⟩;have:=hF.inj (B+j) k' b hlj (hsub k' (yf.mine_ne hl')) hb e;subst this;rw [hob,if_neg za,if_pos ⟨by omega,by omega⟩] at hl';cases hl'
  ·exfalso;rw [hob,if_neg za,if_pos hC] at hl;exact hl rfl
theorem zoH {C:List (Nat×zq)} {N B n:Nat} {f:Nat→zq} (h1:∀ p∈C,p.1<zh) (h2:N≤zh) (h3:B+n≤zh):∀ p∈C++(YJ N++VY B n f),p.1<zh:=by
 intro p hp;rcases List.mem_append.1 hp with hp|hp
 ·exact h1 p hp
 ·rcases List.mem_append.1 hp with hp|hp
  ·have:=zcO hp;omega
  ·obtain ⟨j,hj,rfl⟩:=List.mem_map.1 hp;have:=List.mem_range.1 hj;show B+j<zh;omega
theorem ye {C:List (Nat×zq)} {N B n j:Nat} {f:Nat→zq} (hC:C.all (fun p=>Nat.blt p.1 B)=true) (hN:N≤B) (hj:j<n):look {} (C++(YJ N++VY B n f)) (B+j)=f j:=by
 rw [ZY,zhO,zdL,if_neg,if_neg za,if_pos ⟨by omega,by omega⟩,Nat.add_sub_cancel_left];intro h;obtain ⟨p,hp,e⟩:=List.any_eq_true.1 h;have h1:=Nat.le_of_ble_eq_true (List.all_eq_true.1 hC p hp);have h2:=Nat.eq_of_beq_eq_true e;omega
theorem zbl {α:Type} (n:Nat) (x:α):List.replicate n x=(List.range n).map fun _=>x:=by
 apply List.ext_getElem
 ·simp
 ·intro i h1 h2;simp
theorem xF {α:Type} (n v:Nat) (f:Nat→α) (h:v<n):((List.range n).map f)[v]? = some (f v):=by
 rw [List.getElem?_map,List.getElem?_range h];rfl
def Low (ob:List (Nat×zq)):Prop:=∀ p∈ob,p.1<zh
theorem Low.nil:Low []:=fun p hp=>by cases hp
theorem Low.cons {i:Nat} {b:zq} {l:List (Nat×zq)} (h:Nat.blt i zh=true) (hl:Low l):Low ((i,b)::l):=fun p hp=>by
 rcases List.mem_cons.1 hp with rfl|hp
 ·exact Nat.le_of_ble_eq_true h
 ·exact hl p hp
theorem Low.fam {N B n:Nat} {f:Nat→zq} (h1:Nat.ble N zh=true) (h2:B+n≤zh):Low (YJ N++VY B n f):=by
 have:=zoH (C:=[]) (N:=N) (f:=f) zc (Nat.le_of_ble_eq_true h1) h2;exact fun p hp=>this p hp
theorem zeQ (n a B:Nat) (x:Option Nat) (l:List Nat) (h1:(l++x.toList).Nodup) (h2:∀ i∈l++x.toList,i<B∨i=B+a):(l++(List.range n).filterMap fun j=>if j=a then x else some (B+j)).Nodup:=by
 have hx:∀ i,x=some i→i∉l:=fun i hi hl=>by
  rw [hi] at h1;exact (List.nodup_append.1 h1).2.2 i hl i zc rfl
 refine List.nodup_append.2 ⟨(List.nodup_append.1 h1).1,?_,fun i hi k hk e=>?_⟩
 ·refine List.Pairwise.filterMap _ (R:=(·≠·)) (fun j j' hjj i hi i' hi' e=>?_) List.nodup_range;subst e;by_cases h:j=a
  ·by_cases h' : j'=a
   ·exact hjj (h.trans h'.symm)
   ·rw [if_pos h] at hi;rw [if_neg h'] at hi';have hi2:i=B+j':=by simpa using hi'.symm
    have:=h2 i (by simp;right;simpa using hi);omega
  ·by_cases h' : j'=a
   ·rw [if_neg h] at hi;rw [if_pos h'] at hi';have hi2:i=B+j:=by simpa using hi.symm
    have:=h2 i (by simp;right;simpa using hi');omega
   ·rw [if_neg h] at hi;rw [if_neg h'] at hi';have h3:i=B+j:=by simpa using hi.symm
    have h4:i=B+j':=by simpa using hi'.symm
    omega
 ·subst e;obtain ⟨j,_,hj⟩:=List.mem_filterMap.1 hk;split at hj
  ·exact hx i hj hi
  ·have h3:i=B+j:=by simpa using hj.symm
   have:=h2 i (by simp [hi]);rename_i hne;omega
theorem FLe.convS {t t' : List (Nat×FV)} {ob:List (Nat×zq)} (C:List Ent) (B n a:Nat) (x:Option Nat) (vo:Nat→Nat) (f:Nat→zq) (hB:Nat.ble 200 B=true) (hBn:B+n≤zh) (hCl:C.all (fun q=>Nat.blt q.new B)=true) (hCn:(C.map Ent.new).Nodup)
  (hs1:(C.filterMap Ent.src++x.toList).Nodup) (hs2:∀ i∈C.filterMap Ent.src++x.toList,i<B∨i=B+a) (hlow:Low ob) (hf:∀ j,j<n→zmf ob (if j=a then x else some (B+j)) (vo j) (f j)) (hC:yN ob (C++zhy B n (fun j=>if j=a then x else some (B+j)) vo f) C) (ht:SlC t (C++zhy B n (fun j=>if j=a then x else some (B+j)) vo f) t') :
  FLe ⟨t,ob⟩ ⟨t',(C.map fun e=>(e.new,e.b))++(YJ 200++VY B n f)⟩:=
 FLe.convF C 200 B n _ vo f (Nat.le_of_ble_eq_true hB) hBn hCl hCn (zeQ n a B x _ hs1 hs2) hlow hf hC ht
theorem FLe.convK {t t' : List (Nat×FV)} {ob:List (Nat×zq)} (C:List Ent) (B n:Nat) (vo:Nat→Nat) (f:Nat→zq) (hB:Nat.ble 200 B=true) (hBn:B+n≤zh) (hCl:C.all (fun q=>Nat.blt q.new B)=true) (hCn:(C.map Ent.new).Nodup)
  (hs1:(C.filterMap Ent.src).Nodup) (hs2:∀ i∈C.filterMap Ent.src,i<B) (hlow:Low ob) (hf:∀ j,j<n→zmf ob (some (B+j)) (vo j) (f j)) (hC:yN ob (C++zhy B n (fun j=>some (B+j)) vo f) C) (ht:SlC t (C++zhy B n (fun j=>some (B+j)) vo f) t') :
  FLe ⟨t,ob⟩ ⟨t',(C.map fun e=>(e.new,e.b))++(YJ 200++VY B n f)⟩:=
 FLe.convF C 200 B n _ vo f (Nat.le_of_ble_eq_true hB) hBn hCl hCn (by
  refine List.nodup_append.2 ⟨hs1,?_,fun i hi k hk e=>?_⟩
  ·refine List.Pairwise.filterMap _ (R:=(·≠·)) (fun j j' hjj i hi i' hi' e=>?_) List.nodup_range;injection hi with hi;injection hi' with hi';omega
  ·obtain ⟨j,_,hj⟩:=List.mem_filterMap.1 hk;injection hj with hj
   have:=hs2 i hi;omega) hlow hf hC ht
theorem FLe.convN {t t' : List (Nat×FV)} {ob:List (Nat×zq)} (C:List Ent) (B n:Nat) (f:Nat→zq) (hB:Nat.ble 200 B=true) (hBn:B+n≤zh) (hCl:C.all (fun q=>Nat.blt q.new B)=true) (hCn:(C.map Ent.new).Nodup)
  (hs1:(C.filterMap Ent.src).Nodup) (hlow:Low ob) (hf:∀ j,j<n→(f j).life=.own∧(f j).es=[]) (hC:yN ob (C++zhy B n (fun _=>none) (fun _=>0) f) C) (ht:SlC t (C++zhy B n (fun _=>none) (fun _=>0) f) t') :
  FLe ⟨t,ob⟩ ⟨t',(C.map fun e=>(e.new,e.b))++(YJ 200++VY B n f)⟩:=
 FLe.convF C 200 B n _ _ f (Nat.le_of_ble_eq_true hB) hBn hCl hCn (by
  have:(List.range n).filterMap (fun _=>(none:Option Nat))=[]:=by induction List.range n <;> simp_all
  rw [this,List.append_nil];exact hs1) hlow (fun j hj=>.inl ⟨rfl,hf j hj⟩) hC ht
def edf (e:Nat×Nat):List FV:=[.int .i64 (e.1:Int),.int .i64 (e.2:Int)]
def YO (E:List (Nat×Nat)) (v k:Nat):List Int:=((E.take k).filter fun e=>decide (e.1=v)).map fun e=>(e.2:Int)
def znd (z:List Int):List Int:=Lib.compact (z.mergeSort fun x y=>decide (x≤y))
def zy (E:List (Nat×Nat)) (v:Nat):List Int:=znd (YO E v E.length)
theorem zjM (E:List (Nat×Nat)) (v k:Nat) (h:k<E.length):YO E v (k+1)=YO E v k++(if (nth E k).1=v then [((nth E k).2:Int)] else []):=by
 unfold YO;rw [List.take_succ_eq_append_getElem h,List.filter_append,List.map_append,nth_eq h];congr 1;by_cases hv:E[k].1=v <;> simp [hv]
theorem zbC (E:List (Nat×Nat)) (v k:Nat):(YO E v k).length≤E.length:=by
 unfold YO;rw [List.length_map];exact Nat.le_trans (List.length_filter_le _ _) (by rw [List.length_take];omega)
theorem zl2 (z:List Int):(znd z).length≤z.length:=by
 unfold znd Lib.compact Lib.compactUpTo;rw [List.length_map];refine Nat.le_trans (List.length_filter_le _ _) ?_;rw [List.length_range,List.length_mergeSort];exact Nat.le_refl _
def zj5 (E:List (Nat×Nat)) (k j:Nat):zq:=⟨0,.own,3,1,(YO E j k).map zD⟩
def znn (E:List (Nat×Nat)) (k j:Nat):FV:=.own (1000+j) 0 0 (YO E j k).length
def zm3 (E:List (Nat×Nat)) (i j:Nat):List Int:=if j<i then zy E j else YO E j E.length
def zj6 (E:List (Nat×Nat)) (i j:Nat):zq:=⟨0,.own,3,1,(zm3 E i j).map zD⟩
def zmp (E:List (Nat×Nat)) (i j:Nat):FV:=.own (1000+j) 0 0 (zm3 E i j).length
theorem zfX (E:List (Nat×Nat)) (j:Nat):zm3 E 0 j=YO E j E.length:=if_neg za
theorem Yf (n:Nat) (E:List (Nat×Nat)) (hn:n≤1000) (hE:E.length≤1000000) (hin:∀ e∈E,e.1<n∧e.2<n):zX Try.prog 59 [.int .i64 n,.list 2 (E.map edf)] .sh (.list 1 ((List.range n).map fun v=>[.list 1 ((zy E v).map zD)])):=by
 refine zX.of_body (c:=(xx Try.prog zE zt 51)) ⟨Try.func59,rfl,Try.ntmps59,by kernel_rfl⟩ zH zw rfl ?_;change FW _ _ _ ⟨[(0,.int .i64 n),(1,.list 2 (E.map edf))],[]⟩;refine zb ?_;rw [zbl];refine FW.loop (fun k:Nat=>⟨[(5,.own 100 0 0 n),(11,.list 2 (E.map edf)),(12,.int .i64 E.length),(13,.int .i64 k)],[(100,⟨0,.hrow,22,1,(List.range n).map fun j=>[znn E k j]⟩)]++(YJ 200++VY 1000 n (zj5 E k))⟩) (fun k=>k≤E.length) (fun k=>E.length - k) 0 (Nat.zero_le _) ?_ ?_
 ·exact (FLe.toH (i:=10) rfl).trans (FLe.convN [⟨100,some 10,0+1,⟨0,.hrow,22,1,(List.range n).map fun j=>[znn E 0 j]⟩⟩] 1000 n (zj5 E 0) rfl (by unfold zh;omega) rfl zc zc (by repeat (first|exact Low.nil|exact Low.fam rfl (by unfold zh;omega)|refine Low.cons rfl ?_))
   (fun j _=>⟨rfl,rfl⟩) (.oldH rfl (UN.of fun j hj=>.nil (List.mem_append_right _ (yF hj)) rfl) .nil) zd)
 intro k hk;refine zb ?_;refine FW.cond rfl (fun h=>?_) (fun h=>?_)
 ·have hlt:k<E.length:=by simpa using h
  clear h;obtain ⟨⟨a,b⟩,he⟩:∃ e,nth E k=e:=⟨_,rfl⟩
  obtain ⟨ha,hb⟩:=hin (nth E k) (zC hlt);have hrs:=fun v=>zjM E v k hlt;rw [he] at ha hb;simp only [he] at hrs;have hrl:=zbC E a k;refine zb ?_;refine FW.le (s':=⟨[(7,.ptr 7 1 0 0),(5,.own 100 0 0 n),(11,.list 2 (E.map edf)),(12,.int .i64 E.length),(13,.int .i64 k)],[(100,⟨0,.hrow,22,1,(List.range n).map fun j=>[if j=a then .own 150 0 0 (YO E a k).length else znn E k j]⟩),(150,zj5 E k a),(7,⟨1,.own,75,2,[edf (a,b)]⟩)]++(YJ 200++VY 1000 n fun j=>if j=a then ⟨0,.own,3,1,[]⟩ else zj5 E k j)⟩) ?_ ?_
  ·refine FW.draw ?_;refine Yt rfl rfl rfl ?_;refine YK rfl rfl rfl rfl rfl rfl rfl zg xG rfl rfl ?_;refine Yn rfl rfl rfl rfl rfl xG rfl rfl rfl rfl rfl ?_;refine Yt rfl rfl rfl ?_;refine YK rfl rfl rfl rfl rfl rfl rfl zg xG rfl rfl ?_;refine Yn rfl rfl rfl rfl rfl xG rfl rfl rfl rfl rfl ?_;refine zbo rfl rfl rfl rfl rfl rfl zg rfl za rfl rfl ?_;refine zh3 rfl rfl rfl rfl (xF n a _ ha) rfl rfl ?_;rw [if_pos rfl];refine YK rfl rfl rfl rfl rfl rfl rfl zg xG rfl rfl ?_;refine Yn rfl rfl rfl rfl rfl xG rfl rfl rfl rfl rfl ?_;refine Uj rfl rfl rfl rfl rfl rfl rfl rfl ?_;refine zg0 rfl rfl (by first|exact (List.length_map _).symm|(simp;omega)) rfl rfl rfl zg (by exact Zv.own rfl rfl zg (by first|exact List.length_map _|exact (List.length_map _).symm|exact List.length_replicate|rfl|(simp;done)|omega|(simp;omega))) zx zx rfl rfl rfl ?_;refine zbo rfl rfl rfl rfl rfl rfl zg rfl yQ rfl rfl ?_;refine zcZ rfl rfl rfl rfl rfl rfl zg yQ rfl ?_;refine zN.nil ⟨by kernel_rfl,?_⟩;refine FW.region ?_;refine UI rfl rfl za rfl rfl ?_;refine zG rfl rfl rfl ?_;refine zn.nil ?_;have h1:∀ j,YO E j (k+1)=YO E j k++if a=j then [(b:Int)] else []:=hrs
   rw [VC];refine ⟨k+1,by omega,by omega,?_⟩;refine FLe.convS [⟨100,some 100,0,⟨0,.hrow,22,1,(List.range n).map fun j=>[znn E (k+1) j]⟩⟩] 1000 n a (some 28) (fun j=>if j=a then 1 else 0) (zj5 E (k+1)) rfl (by unfold zh;omega) rfl zc zc zc (by repeat (first|exact Low.nil|exact Low.fam rfl (by unfold zh;omega)|refine Low.cons rfl ?_)) ?_ ?_ ?_
   ·intro j hj;by_cases hja:j=a
    ·subst hja;rw [if_pos rfl,if_pos rfl];refine .inr ⟨28,rfl,?_,rfl⟩;unfold zj5;rw [h1,if_pos rfl,List.map_append];rfl
    ·rw [if_neg hja,if_neg hja];refine .inr ⟨_,rfl,(ye (C:=[(100,_),(28,_),(150,_),(27,_),(100,_),(150,_),(7,_)]) rfl zg hj).trans ?_,rfl⟩;rw [if_neg hja];unfold zj5;rw [h1,if_neg (fun e=>hja e.symm),List.append_nil]
   ·refine .oldH rfl ?_ .nil;rw [show ((List.range n).map fun j=>if j=(a,b).1 then [FV.own 28 (0+1) 0 (List.map zD (YO E a k)++[[FV.int IntKind.i64 ((a,b).2:Int)]]).length] else [if j=a then FV.own 150 0 0 (YO E a k).length else znn E k j])=(List.range n).map fun j=>[if j=a then FV.own 28 1 0 ((YO E a k).length+1) else znn E k j] from List.map_congr_left fun j _=>by
     by_cases hja:j=a
     ·rw [if_pos hja,if_pos hja,List.length_append,List.length_map];rfl
     ·rw [if_neg hja,if_neg hja,if_neg hja]]
    refine UN.of fun j hj=>?_;have hm:=yF (B:=1000) (s:=fun j=>if j=a then some 28 else some (1000+j)) (vo:=fun j=>if j=a then 1 else 0) (f:=zj5 E (k+1)) hj;unfold znn;by_cases hja:j=a
    ·subst hja;simp only [if_pos] at hm;rw [if_pos rfl,h1,if_pos rfl];exact .own (List.mem_append_right _ hm) rfl rfl zc
    ·simp only [if_neg hja] at hm;rw [if_neg hja,h1,if_neg (fun e=>hja e.symm),List.append_nil];exact .own (List.mem_append_right _ hm) rfl rfl rfl
   ·exact zd
  ·refine FLe.convS [⟨100,some 100,0,⟨0,.hrow,22,1,(List.range n).map fun j=>[if j=a then .own 150 0 0 (YO E a k).length else znn E k j]⟩⟩,⟨150,some (1000+a),0,zj5 E k a⟩,⟨7,some 7,1,⟨1,.own,75,2,[edf (a,b)]⟩⟩] 1000 n a none (fun _=>0) (fun j=>if j=a then ⟨0,.own,3,1,[]⟩ else zj5 E k j) rfl (by unfold zh;omega) rfl zc (by simp <;> omega) (by simp <;> omega) (by repeat (first|exact Low.nil|exact Low.fam rfl (by unfold zh;omega)|refine Low.cons rfl ?_)) ?_ ?_ ?_
   ·intro j hj;by_cases hja:j=a
    ·rw [if_pos hja,if_pos hja];exact .inl ⟨rfl,rfl,rfl⟩
    ·rw [if_neg hja,if_neg hja];exact .inr ⟨_,rfl,ye (C:=[(7,_),(7,_),(100,_)]) rfl zg hj,rfl⟩
   ·refine .oldH rfl (UN.of fun j hj=>?_) (.old (ye (C:=[(7,_),(7,_),(100,_)]) rfl zg ha) rfl rfl (.old rfl rfl (by rw [he]) .nil));by_cases hja:j=a
    ·subst hja;rw [if_pos rfl];exact .own (List.mem_cons_of_mem _ (List.mem_cons_self ..)) rfl rfl rfl
    ·rw [if_neg hja];have hm:=yF (B:=1000) (s:=fun j=>if j=a then none else some (1000+j)) (vo:=fun _=>0) (f:=fun j=>if j=a then ⟨0,.own,3,1,[]⟩ else zj5 E k j) hj;simp only [if_neg hja] at hm;exact .own (List.mem_append_right _ hm) rfl rfl rfl
   ·exact zd
 ·obtain rfl:k=E.length:=by simp at h;omega
  clear h hk;refine zb ?_;refine FW.loop (fun i:Nat=>⟨[(5,.own 100 0 0 n),(32,.int .i64 n),(33,.int .i64 i)],[(100,⟨0,.hrow,22,1,(List.range n).map fun j=>[zmp E i j]⟩)]++(YJ 200++VY 1000 n (zj6 E i))⟩) (fun i=>i≤n) (fun i=>n - i) 0 (Nat.zero_le _) ?_ ?_
  ·refine FLe.convK [⟨100,some 100,0,⟨0,.hrow,22,1,(List.range n).map fun j=>[zmp E 0 j]⟩⟩] 1000 n (fun _=>0) (zj6 E 0) rfl (by unfold zh;omega) rfl zc zc zc (by repeat (first|exact Low.nil|exact Low.fam rfl (by unfold zh;omega)|refine Low.cons rfl ?_)) (fun j hj=>.inr ⟨_,rfl,(ye (C:=[(100,_)]) rfl zg hj).trans ?_,rfl⟩) (.oldH rfl (UN.of fun j hj=>?_) .nil) zd
   ·unfold zj6 zj5;rw [zfX]
   ·have hm:=yF (B:=1000) (s:=fun j=>some (1000+j)) (vo:=fun _=>0) (f:=zj6 E 0) hj;exact .own (List.mem_append_right _ hm) rfl rfl (by rw [zfX])
  intro i hi;refine zb ?_;refine FW.cond rfl (fun h=>?_) (fun h=>?_)
  ·have hlt:i<n:=by simpa using h
   clear h;have hri:zm3 E i i=YO E i E.length:=if_neg za;have hrl:=zbC E i E.length;have hr1:∀ j,zm3 E (i+1) j=if j=i then zy E i else zm3 E i j:=fun j=>by
    unfold zm3;by_cases h1:j=i
    ·subst h1;rw [if_pos rfl,if_pos za]
    ·rw [if_neg h1];by_cases h2:j<i
     ·rw [if_pos h2,if_pos za]
     ·rw [if_neg h2,if_neg za]
   obtain ⟨z,hz⟩:∃ z,YO E i E.length=z:=⟨_,rfl⟩
   have hsl:(z.mergeSort fun x y=>decide (x≤y)).length=z.length:=List.length_mergeSort _;have hsz:zy E i=Lib.compact (z.mergeSort fun x y=>decide (x≤y)):=by rw [← hz];rfl
   rw [hz] at hri hrl;refine FW.le (s':=⟨[(5,.own 100 0 0 n),(32,.int .i64 n),(33,.int .i64 i)],[(100,⟨0,.hrow,22,1,(List.range n).map fun j=>[if j=i then .own 150 0 0 z.length else zmp E i j]⟩),(150,⟨0,.own,3,1,z.map zD⟩)]++(YJ 200++VY 1000 n fun j=>if j=i then ⟨0,.own,3,1,[]⟩ else zj6 E i j)⟩) ?_ ?_
   ·refine yh ?_;refine zG rfl rfl rfl ?_;refine zV rfl rfl rfl ?_;refine yh ?_;refine zG rfl rfl rfl ?_;refine zG rfl rfl rfl ?_;refine xS rfl rfl rfl rfl rfl rfl zg rfl za rfl rfl ?_;refine Ws rfl rfl rfl rfl (xF n i _ hlt) rfl rfl ?_;rw [if_pos rfl];refine xR (zjQ 0 z za) [(5000,150)] rfl (zJ.cons rfl rfl rfl zJ.nil) rfl rfl rfl rfl rfl rfl ?_;rintro _ _ ⟨rfl,h1⟩;refine xf.one [(150,⟨0,.own,3,1,(z.mergeSort fun x y=>decide (x≤y)).map zD⟩)] (.tup []) rfl (congrArg (fun b=>[(150,zq.ren (gOf [(5000,150)]) b)]) h1) ?_;refine yh ?_;refine zG rfl rfl rfl ?_;refine zG rfl rfl rfl ?_;refine zG rfl rfl rfl ?_;refine zG rfl rfl rfl ?_;refine xS rfl rfl rfl rfl rfl rfl zg rfl za rfl rfl ?_;refine Ws rfl rfl rfl rfl (xF n i _ hlt) rfl rfl ?_;rw [if_pos rfl];refine xR (zdt 0 (z.mergeSort fun x y=>decide (x≤y)) (by rw [hsl];omega)) [(5000,150)] ?_ (zJ.cons rfl rfl rfl zJ.nil) rfl rfl rfl rfl rfl rfl ?_
    ·rw [hsl];rfl
    rintro _ _ ⟨rfl,h1⟩;refine xf.one [(150,⟨1,.own,3,1,(zy E i).map zD⟩)] (.own 150 1 0 (zy E i).length) (by rw [hsz];rfl) (by rw [hsz];exact congrArg (fun b=>[(150,zq.ren (gOf [(5000,150)]) b)]) h1) ?_;refine xS rfl rfl rfl rfl rfl rfl zg rfl yQ rfl rfl ?_;refine zjH rfl rfl rfl rfl rfl rfl zg yQ rfl ?_;refine yh ?_;refine UI rfl rfl za rfl rfl ?_;refine zG rfl rfl rfl ?_;refine yh ?_;rw [VC];refine ⟨i+1,by omega,by omega,?_⟩;refine FLe.convS [⟨100,some 100,0,⟨0,.hrow,22,1,(List.range n).map fun j=>[zmp E (i+1) j]⟩⟩] 1000 n i (some 150) (fun j=>if j=i then 1 else 0) (zj6 E (i+1)) rfl (by unfold zh;omega) rfl zc zc zc (by repeat (first|exact Low.nil|exact Low.fam rfl (by unfold zh;omega)|refine Low.cons rfl ?_)) ?_ ?_ ?_
    ·intro j hj;by_cases hja:j=i
     ·subst hja;rw [if_pos rfl,if_pos rfl];refine .inr ⟨150,rfl,?_,rfl⟩;unfold zj6;rw [hr1,if_pos rfl];rfl
     ·rw [if_neg hja,if_neg hja];refine .inr ⟨_,rfl,(ye (C:=[(100,_),(150,_),(150,_),(100,_),(150,_)]) rfl zg hj).trans ?_,rfl⟩;rw [if_neg hja];unfold zj6;rw [hr1,if_neg hja]
    ·refine .oldH rfl ?_ .nil;rw [show ((List.range n).map fun j=>if j=i then [FV.own 150 1 0 (zy E i).length] else [if j=i then FV.own 150 0 0 z.length else zmp E i j])=(List.range n).map fun j=>[if j=i then FV.own 150 1 0 (zy E i).length else zmp E i j] from List.map_congr_left fun j _=>by
      by_cases hja:j=i
      ·rw [if_pos hja,if_pos hja]
      ·rw [if_neg hja,if_neg hja,if_neg hja]]
     refine UN.of fun j hj=>?_;have hm:=yF (B:=1000) (s:=fun j=>if j=i then some 150 else some (1000+j)) (vo:=fun j=>if j=i then 1 else 0) (f:=zj6 E (i+1)) hj;unfold zmp;by_cases hja:j=i
     ·subst hja;simp only [if_pos] at hm;rw [if_pos rfl,hr1,if_pos rfl];exact .own (List.mem_append_right _ hm) rfl rfl rfl
     ·simp only [if_neg hja] at hm;rw [if_neg hja,hr1,if_neg hja];exact .own (List.mem_append_right _ hm) rfl rfl rfl
    ·exact zd
   ·refine FLe.convS [⟨100,some 100,0,⟨0,.hrow,22,1,(List.range n).map fun j=>[if j=i then .own 150 0 0 z.length else zmp E i j]⟩⟩,⟨150,some (1000+i),0,⟨0,.own,3,1,z.map zD⟩⟩] 1000 n i none (fun _=>0) (fun j=>if j=i then ⟨0,.own,3,1,[]⟩ else zj6 E i j) rfl (by unfold zh;omega) rfl zc (by simp <;> omega) (by simp <;> omega) (by repeat (first|exact Low.nil|exact Low.fam rfl (by unfold zh;omega)|refine Low.cons rfl ?_)) ?_ ?_ ?_
    ·intro j hj;by_cases hja:j=i
     ·rw [if_pos hja,if_pos hja];exact .inl ⟨rfl,rfl,rfl⟩
     ·rw [if_neg hja,if_neg hja];exact .inr ⟨_,rfl,ye (C:=[(100,_)]) rfl zg hj,rfl⟩
    ·refine .oldH rfl (UN.of fun j hj=>?_) (.old ((ye (C:=[(100,_)]) rfl zg hlt).trans (by unfold zj6;rw [hri])) rfl rfl .nil);by_cases hja:j=i
     ·subst hja;rw [if_pos rfl];exact .own (List.mem_cons_of_mem _ (List.mem_cons_self ..)) rfl rfl (by rw [hri])
     ·rw [if_neg hja];have hm:=yF (B:=1000) (s:=fun j=>if j=i then none else some (1000+j)) (vo:=fun _=>0) (f:=fun j=>if j=i then ⟨0,.own,3,1,[]⟩ else zj6 E i j) hj;simp only [if_neg hja] at hm;exact .own (List.mem_append_right _ hm) rfl rfl rfl
    ·exact zd
  ·obtain rfl:i=n:=by simp at h;omega
   clear h hi;refine yh ?_;refine zG rfl rfl rfl ?_;refine zV rfl rfl rfl ?_;refine zn.le ?_ ((FLe.deep 100 1000 i (w:=0) (E2:=22) (E:=3) (sz:=1) (fun _=>0) (fun j=>(zm3 E i j).map zD) ?_ (fun j hj=>ye (C:=[(100,_)]) rfl zg hj) zg).trans (FLe.share 4 rfl rfl zc))
   ·refine yh ?_;refine FW.ret ⟨.inl rfl,.sh (.cons (.tmp 4 rfl rfl) .nil) ?_ rfl⟩;show FV.list 1 _=FV.list 1 _;refine congrArg (FV.list 1) (List.map_congr_left fun j hj=>?_);rw [show zm3 E i j=zy E j from if_pos (List.mem_range.1 hj)]
   ·refine Eq.trans (b:=(⟨0,.hrow,22,1,(List.range i).map fun j=>[zmp E i j]⟩:zq)) rfl ?_;refine congrArg (fun l=>(⟨0,.hrow,22,1,l⟩:zq)) (List.map_congr_left fun j _=>?_);rw [List.length_map];rfl
end
end Go.Proofs.Ytmnmakhpjgjdaaa
