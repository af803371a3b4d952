/-
  Some texts as one: Types, Maps, HCheck, FmT, FmO, ShelfI, FmSort, CheckBase, Around, FmHist0.
-/
import Derived.Test.YtmnmakhpjgjdaaaZA
import Derived.Test.YtmnmakhpjgjdaaaProg
import Derived.KernelRfl
import Derived.Maps.OwnSet
import Derived.DeepKeys4
import Derived.Deep.RegionHeld3
import Derived.Deep.DrawnRows
import Derived.Deep.DeepCutAuto
import Derived.Test.YtmnmakhpjgjdaaaZFmDw
import Derived.Test.YtmnmakhpjgjdaaaZC
import Derived.Test.YtmnmakhpjgjdaaaChecked
import Derived.Shelf.Sort.Plain
import Derived.Shelf.Slices.CompactI
namespace Go.Proofs.Ytmnmakhpjgjdaaa
set_option linter.unusedVariables false
set_option maxHeartbeats 16000000
section
open Go.RowKit
structure OpV where
 p:Int
 k:Int
 key:Int
 arg:Int
 res:Int
 call:Int
 ret:Int
 done:Bool
 deriving DecidableEq,Inhabited
def OpV.vals (o:OpV):List Value:=[.int .i64 o.p,.int .i64 o.k,.int .i64 o.key,.int .i64 o.arg,.int .i64 o.res,.int .i64 o.call,.int .i64 o.ret,.bool o.done]
theorem OpV.wide:znC 8 OpV.vals:=fun _=>rfl
theorem OpV.one (o:OpV):∀ u∈o.vals,u.oneCell'=true:=by intro u hu;simp [OpV.vals] at hu;rcases hu with rfl|rfl|rfl|rfl|rfl|rfl|rfl|rfl <;> rfl
def XD (x:Int):List Value:=[.int .i64 x]
theorem zkR:znC 1 XD:=fun _=>rfl
section
variable {w:World} {B:Nat} {A:Option Addr}
theorem Sl.op {l:List OpV} (h:Sl OpV.vals w B A l) {i:Nat} (hi:i<l.length):∃ b off,A=some ⟨b,off,none⟩∧b<B∧
  w.cell? ⟨b,off+i * 8,none⟩=some (.int .i64 (nth l i).p)∧w.cell? ⟨b,off+i * 8+1,none⟩=some (.int .i64 (nth l i).k)∧w.cell? ⟨b,off+i * 8+2,none⟩=some (.int .i64 (nth l i).key)∧
  w.cell? ⟨b,off+i * 8+3,none⟩=some (.int .i64 (nth l i).arg)∧w.cell? ⟨b,off+i * 8+4,none⟩=some (.int .i64 (nth l i).res)∧w.cell? ⟨b,off+i * 8+5,none⟩=some (.int .i64 (nth l i).call)∧
  w.cell? ⟨b,off+i * 8+6,none⟩=some (.int .i64 (nth l i).ret)∧w.cell? ⟨b,off+i * 8+7,none⟩=some (.bool (nth l i).done):=by
 obtain ⟨b,off,ha,hb,hc⟩:=h.get OpV.wide hi;rw [← nth_eq hi] at hc;exact ⟨b,off,ha,hb,hc 0 _ za rfl,hc 1 _ za rfl,hc 2 _ za rfl,hc 3 _ za rfl,hc 4 _ za rfl,hc 5 _ za rfl,hc 6 _ za rfl,hc 7 _ za rfl⟩
theorem Sl.int {l:List Int} (h:Sl XD w B A l) {i:Nat} (hi:i<l.length):∃ b off,A=some ⟨b,off,none⟩∧b<B∧w.cell? ⟨b,off+i,none⟩=some (.int .i64 (nth l i)):=by
 obtain ⟨b,off,ha,hb,hc⟩:=h.get zkR hi;rw [← nth_eq hi] at hc;exact ⟨b,off,ha,hb,by have:=hc 0 _ za rfl;simpa using this⟩
theorem Sl.op' {b off:Nat} {l:List OpV} (h:Sl OpV.vals w B (some ⟨b,off,none⟩) l) {i:Nat} (hi:i<l.length) :
  w.cell? ⟨b,off+i * 8,none⟩=some (.int .i64 (nth l i).p)∧w.cell? ⟨b,off+i * 8+1,none⟩=some (.int .i64 (nth l i).k)∧w.cell? ⟨b,off+i * 8+2,none⟩=some (.int .i64 (nth l i).key)∧
  w.cell? ⟨b,off+i * 8+3,none⟩=some (.int .i64 (nth l i).arg)∧w.cell? ⟨b,off+i * 8+4,none⟩=some (.int .i64 (nth l i).res)∧w.cell? ⟨b,off+i * 8+5,none⟩=some (.int .i64 (nth l i).call)∧
  w.cell? ⟨b,off+i * 8+6,none⟩=some (.int .i64 (nth l i).ret)∧w.cell? ⟨b,off+i * 8+7,none⟩=some (.bool (nth l i).done):=by
 obtain ⟨b',off',ha,_,hc⟩:=h.op hi;injection ha with ha;injection ha with h1 h2;subst h1;subst h2
 exact hc
end
theorem Zk (l:List Int):flat XD l=l.map (Value.int .i64):=by
 induction l with
 | nil => rfl
 | cons a l ih => simp only [flat, List.flatMap_cons, XD, List.map_cons, List.cons_append, List.nil_append] at *; rw [ih]
theorem Blk.setInt {w:World} {g:Nat} {t:TypeId} {l:List Int} (h:Blk w g t (flat XD l)) (i:Nat) (x:Int):Blk (w.setCell ⟨g,i,none⟩ (.int .i64 x)) g t (flat XD (l.set i x)):=by
 have:=h.set_ i (.int .i64 x);rw [Zk] at *;rw [List.map_set];exact this
theorem Blk.op {w:World} {g:Nat} {t:TypeId} {o:OpV} (h:Blk w g t o.vals):w.cell? ⟨g,0,none⟩=some (.int .i64 o.p)∧w.cell? ⟨g,1,none⟩=some (.int .i64 o.k)∧w.cell? ⟨g,2,none⟩=some (.int .i64 o.key)∧
  w.cell? ⟨g,3,none⟩=some (.int .i64 o.arg)∧w.cell? ⟨g,4,none⟩=some (.int .i64 o.res)∧w.cell? ⟨g,5,none⟩=some (.int .i64 o.call)∧w.cell? ⟨g,6,none⟩=some (.int .i64 o.ret)∧w.cell? ⟨g,7,none⟩=some (.bool o.done):=
 ⟨h.cell 0,h.cell 1,h.cell 2,h.cell 3,h.cell 4,h.cell 5,h.cell 6,h.cell 7⟩
theorem zpy:zhc Try.prog 23 43 8 64:=⟨Try.underlying23,by
 obtain ⟨i,h0,h1,h2,h3⟩:=info_parts (P:=Try.prog) (e:=43) (z:=.agg #[.int .i64 0,.int .i64 0,.int .i64 0,.int .i64 0,.int .i64 0,.int .i64 0,.int .i64 0,.bool false]) (size:=8) (bytes:=64) zj;exact ⟨i,_,h0,h1,h2,h3,rfl⟩,by omega⟩
theorem znc:zhc Try.prog 22 3 1 8:=⟨Try.underlying22,by
 obtain ⟨i,h0,h1,h2,h3⟩:=info_parts (P:=Try.prog) (e:=3) (z:=.int .i64 0) (size:=1) (bytes:=8) zj;exact ⟨i,_,h0,h1,h2,h3,rfl⟩,by omega⟩
def zpw (x y:OpV):Bool:=decide (x=y)
@[go_sem] theorem OpV.eta (x:OpV):(⟨x.p,x.k,x.key,x.arg,x.res,x.call,x.ret,x.done⟩:OpV)=x:=rfl
@[go_sem ↓] theorem eqIn_op (w:World) (a1 a2 a3 a4 a5 a6 a7 b1 b2 b3 b4 b5 b6 b7:Int) (a8 b8:Bool):(Op.equalIn 10000 43 (.agg #[.int .i64 a1,.int .i64 a2,.int .i64 a3,.int .i64 a4,.int .i64 a5,.int .i64 a6,.int .i64 a7,.bool a8])
  (.agg #[.int .i64 b1,.int .i64 b2,.int .i64 b3,.int .i64 b4,.int .i64 b5,.int .i64 b6,.int .i64 b7,.bool b8])).run Try.prog w=.ok (zpw ⟨a1,a2,a3,a4,a5,a6,a7,a8⟩ ⟨b1,b2,b3,b4,b5,b6,b7,b8⟩) w:=by
 unfold zpw;have hS:Try.prog.underlying 43=some (.struct (Try.prog.fieldsOf 43)):=by kernel_rfl
 have hp:Try.prog.stoodInHeld 43=false:=by kernel_rfl
 rw [show (10000:Nat)=9999+1 from rfl,run_equalIn_agg w 9999 43 _ _ hS hp];simp only [Program.fieldsOf,Try.underlying43];simp [go_sem];by_cases h1:a1=b1
 ·by_cases h2:a2=b2
  ·by_cases h3:a3=b3
   ·by_cases h4:a4=b4
    ·by_cases h5:a5=b5
     ·by_cases h6:a6=b6
      ·by_cases h7:a7=b7
       ·by_cases h8:a8=b8 <;> simp [h1,h2,h3,h4,h5,h6,h7,h8]
       ·simp [h1,h2,h3,h4,h5,h6,h7]
      ·simp [h1,h2,h3,h4,h5,h6]
     ·simp [h1,h2,h3,h4,h5]
    ·simp [h1,h2,h3,h4]
   ·simp [h1,h2,h3]
  ·simp [h1,h2]
 ·simp [h1]
end
section
open Go.RowKit Go.Maps Go.MapKept Go.ChangeMaps
structure zox (P:Program) (k:TypeId) (κ:Type) (ek:κ→Value) (ok:κ→Prop):Prop where
 K:Keyed P k
 of:∀ x,ok x→∃ l,keyOf P k (ek x)=some l
 inj:∀ x y,ek x=ek y→x=y
def YU {κ:Type} (ek:κ→Value) (ok:κ→Prop) (w:World) (b n:Nat) (f:κ→Option Value):Prop:=
 ∃ es clock,w.heap[b]? = some (.map es clock)∧es.size≤n∧Stamped es clock∧(∀ e∈es.toList,∃ x,ok x∧e.key=ek x)∧∀ x u,f x=some u↔∃ e∈es.toList,e.key=ek x∧e.val=u
open Classical in
noncomputable def upd {κ:Type} (f:κ→Option Value) (x:κ) (u:Value):κ→Option Value:=fun y=>if y=x then some u else f y
theorem zan {κ:Type} (f:κ→Option Value) (x:κ) (u:Value):upd f x u x=some u:=by simp [upd]
theorem VM {κ:Type} (f:κ→Option Value) {x y:κ} (u:Value) (h:y≠x):upd f x u y=f y:=by simp [upd,h]
section
variable {κ:Type} {ek:κ→Value} {ok:κ→Prop} {P:Program} {k:TypeId} {w w' : World} {b n:Nat} {f:κ→Option Value}
theorem YU.made (w:World):YU ek ok (w.alloc (.map #[] 0)) w.heap.size 0 (fun _=>none):=
 ⟨#[],0,heap_alloc_new w _,Nat.le_refl _,stamped_empty _,by simp,by simp⟩
theorem YU.lt (h:YU ek ok w b n f):b<w.heap.size:=by
 obtain ⟨es,clock,hb,_⟩:=h;exact (Array.getElem?_eq_some_iff.1 hb).1
theorem YU.mono (h:YU ek ok w b n f) {n' : Nat} (hn:n≤n'):YU ek ok w b n' f:=by
 obtain ⟨es,clock,hb,hs,r⟩:=h;exact ⟨es,clock,hb,by omega,r⟩
theorem YU.of_block (h:YU ek ok w b n f) (hb:w'.heap[b]? = w.heap[b]?):YU ek ok w' b n f:=by
 obtain ⟨es,clock,hh,r⟩:=h;exact ⟨es,clock,hb.trans hh,r⟩
theorem YU.drewN (h:YU ek ok w b n f) (m:Nat):YU ek ok (w.drewN m) b n f:=h
theorem YU.alloc (h:YU ek ok w b n f) (o:Obj):YU ek ok (w.alloc o) b n f:=h.of_block (Below.heap_alloc w o b h.lt)
theorem YU.grown {row:Option Nat} (h:YU ek ok w b n f) (hg:w.grownBy w' row) (hr:some b≠row):YU ek ok w' b n f:=h.of_block (hg.block b h.lt hr)
theorem YU.ext (h:YU ek ok w b n f) (hb:Below w.heap.size w w'):YU ek ok w' b n f:=h.of_block (hb.block b h.lt)
theorem YU.ne_blk (h:YU ek ok w b n f) {g:Nat} {t:TypeId} {cs:List Value} (ho:Blk w g t cs):b≠g:=by
 obtain ⟨es,clock,hb,_⟩:=h;rintro rfl;unfold Blk at ho;rw [hb] at ho;cases ho
theorem zm7 {e t:TypeId} {z:Value} (T:zox P k κ ek ok) (ht:P.underlying t=some (.map k e)) (hz:(zeroValue e).run P w=.ok z w) (h:YU ek ok w b n f) (c:Bool) (x:κ) (hx:ok x) :
  (Instr.lookup t (.map (some b)) (ek x) c).run P w=.ok (if c then .tuple #[(f x).getD z,.bool (f x).isSome] else (f x).getD z) w:=by
 obtain ⟨es,clock,hb,hs,hst,hkeys,hf⟩:=h;obtain ⟨l,hl⟩:=T.of x hx;have hks:∀ e∈es.toList,∃ l,keyOf P k e.key=some l:=fun e he=>by
  obtain ⟨y,hy,he⟩:=hkeys e he;obtain ⟨l,hl⟩:=T.of y hy;exact ⟨l,by rw [he];exact hl⟩
 rcases T.K.find w hl es.toList hks with ⟨h1,h2⟩|⟨j,e0,h1,h2,h3⟩
 ·have hn:f x=none:=by
   cases hfx:f x with
   | none => rfl
   | some u =>
    obtain ⟨e,he,hk,_⟩:=(hf x u).1 hfx;exact absurd hk (h2 e he)
  cases c <;> simp [Instr.lookup,run_underlying ht,MapKept.run_getObj_map hb,T.K.check w _ hl,h1,hz,Result.andThen,hn]
 ·have hn:f x=some e0.val:=(hf x _).2 ⟨e0,List.mem_of_getElem? h2,h3,rfl⟩;cases c <;> simp [Instr.lookup,run_underlying ht,MapKept.run_getObj_map hb,T.K.check w _ hl,h1,Result.andThen,hn]
theorem zoc {e t:TypeId} (T:zox P k κ ek ok) (ht:P.underlying t=some (.map k e)) (h:YU ek ok w b n f) (x:κ) (hx:ok x) (u:Value) :
  ∃ w',(Instr.mapUpdate t (.map (some b)) (ek x) u).run P w=.ok () w'∧YU ek ok w' b (n+1) (upd f x u)∧w.grownBy w' (some b):=by
 obtain ⟨es,clock,hb,hs,hst,hkeys,hf⟩:=h;obtain ⟨l,hl⟩:=T.of x hx;have hks:∀ e∈es.toList,∃ l,keyOf P k e.key=some l:=fun e he=>by
  obtain ⟨y,hy,he⟩:=hkeys e he;obtain ⟨l,hl⟩:=T.of y hy;exact ⟨l,by rw [he];exact hl⟩
 have gr:∀ o,w.grownBy (setBlock w b o) (some b):=fun o=>⟨rfl,rfl,rfl,by simp [setBlock],fun i _ hi=>heap_setBlock_other hb _ (fun e=>hi (by rw [e]))⟩
 rcases T.K.find w hl es.toList hks with ⟨h1,h2⟩|⟨j,e0,h1,h2,h3⟩
 ·refine ⟨setBlock w b (.map (es.push ⟨ek x,u,clock⟩) (clock+1)),?_,⟨_,_,heap_setBlock_same hb _,by simp;omega,stamped_push hst h2,?_,?_⟩,gr _⟩
  ·simp [Instr.mapUpdate,run_underlying ht,MapKept.run_getObj_map hb,T.K.check w false hl,h1,MapKept.run_setObj_map _ hb,Result.andThen,setBlock]
  ·intro e he;simp only [Array.toList_push,List.mem_append,List.mem_singleton] at he;rcases he with he|rfl
   ·exact hkeys e he
   ·exact ⟨x,hx,rfl⟩
  ·intro y v;by_cases hy:y=x
   ·subst hy;rw [zan];constructor
    ·intro hv;injection hv with hv;exact ⟨⟨ek y,u,clock⟩,by simp,rfl,hv⟩
    ·rintro ⟨e,he,hk,hv⟩;simp only [Array.toList_push,List.mem_append,List.mem_singleton] at he;rcases he with he|rfl
     ·exact absurd hk (h2 e he)
     ·rw [← hv]
   ·rw [VM f u hy,hf];constructor
    ·rintro ⟨e,he,hk,hv⟩;exact ⟨e,by simp [he],hk,hv⟩
    ·rintro ⟨e,he,hk,hv⟩;simp only [Array.toList_push,List.mem_append,List.mem_singleton] at he;rcases he with he|rfl
     ·exact ⟨e,he,hk,hv⟩
     ·exact absurd (T.inj _ _ hk).symm hy
 ·have hj:es[j]? = some e0:=by simpa using h2
  have hjl:j<es.toList.length:=(List.getElem?_eq_some_iff.1 h2).1;have hkeyf:∀ e',es[j]? = some e'→({ e' with key:=ek x,val:=u }:MapEntry).key=e'.key:=fun e' he'=>by rw [hj] at he';cases he';exact h3.symm
  have hlist:(es.modify j (fun e'=>{ e' with key:=ek x,val:=u })).toList=es.toList.set j { e0 with key:=ek x,val:=u }:=by rw [Array.toList_modify,modify_eq_set _ _ _ _ h2]
  have hd:=((stamped_iff es clock).1 hst).2.2;have other:∀ i e,es.toList[i]? = some e→i≠j→e.key≠ek x:=by
   intro i e hi hne;rw [← h3];obtain ⟨hil,rfl⟩:=List.getElem?_eq_some_iff.1 hi;obtain ⟨_,rfl⟩:=List.getElem?_eq_some_iff.1 h2;rcases Nat.lt_or_gt_of_ne hne with hlt|hgt
   ·exact List.pairwise_iff_getElem.1 hd i j hil hjl hlt
   ·exact (List.pairwise_iff_getElem.1 hd j i hjl hil hgt).symm
  have who:∀ y∈es.toList.set j { e0 with key:=ek x,val:=u },y={ e0 with key:=ek x,val:=u }∨(y∈es.toList∧y.key≠ek x):=by
   intro y hy;obtain ⟨i,hi,ex⟩:=List.getElem_of_mem hy;rw [List.getElem_set] at ex;split at ex
   ·exact Or.inl ex.symm
   ·rename_i hne;have hi' : i<es.toList.length:=by simpa using hi
    exact Or.inr ⟨ex▸List.getElem_mem hi',other i y (by rw [List.getElem?_eq_getElem hi',ex]) (fun e1=>hne e1.symm)⟩
  refine ⟨setBlock w b (.map (es.modify j (fun e'=>{ e' with key:=ek x,val:=u })) clock),?_,⟨_,_,heap_setBlock_same hb _,by simp;omega,stamped_modify hst _ _ (fun _ _=>rfl) (fun e' _ he'=>hkeyf e' he'),?_,?_⟩,gr _⟩
  ·simp [Instr.mapUpdate,run_underlying ht,MapKept.run_getObj_map hb,T.K.check w false hl,h1,hj,h3,T.K.stays w hl,MapKept.run_setObj_map _ hb,Result.andThen,setBlock]
  ·intro e he;rw [hlist] at he;rcases who e he with rfl|⟨he,_⟩
   ·exact ⟨x,hx,rfl⟩
   ·exact hkeys e he
  ·intro y v;rw [hlist];by_cases hy:y=x
   ·subst hy;rw [zan];constructor
    ·intro hv;injection hv with hv
     exact ⟨{ e0 with key:=ek y,val:=u },List.mem_iff_getElem.2 ⟨j,by simpa using hjl,by simp⟩,rfl,hv⟩
    ·rintro ⟨e,he,hk,hv⟩;rcases who e he with rfl|⟨_,hne⟩
     ·rw [← hv]
     ·exact absurd hk hne
   ·rw [VM f u hy,hf];constructor
    ·rintro ⟨e,he,hk,hv⟩;obtain ⟨i,hi,rfl⟩:=List.getElem_of_mem he;have hij:i≠j:=by
      rintro rfl;obtain ⟨_,h2'⟩:=List.getElem?_eq_some_iff.1 h2;rw [h2',h3] at hk;exact hy (T.inj _ _ hk).symm
     exact ⟨es.toList[i],List.mem_iff_getElem.2 ⟨i,by simpa using hi,by rw [List.getElem_set,if_neg (fun e=>hij e.symm)]⟩,hk,hv⟩
    ·rintro ⟨e,he,hk,hv⟩;rcases who e he with rfl|⟨he,_⟩
     ·exact absurd (T.inj _ _ hk).symm hy
     ·exact ⟨e,he,hk,hv⟩
theorem Zg {e t:TypeId} {z:Value} {ops:Array Oper} {rest:List Oper} {o:Oper} {a:Act} {Q:Exit→Act→World→Prop}
  (T:zox P k κ ek ok) (ht:P.underlying t=some (.map k e)) (hz:(zeroValue e).run P w=.ok z w) (h:YU ek ok w b n f) (x:κ) (hx:ok x)
  (hg:o.guard=none) (m i:Operand) (hop:o.op=Op.lookup t m i true) (hm:a.eval m=.map (some b)) (hi:a.eval i=ek x)
  (hK:wpList P ops Q rest (a.put o.dst (.tuple #[(f x).getD z,.bool (f x).isSome])) w):wpList P ops Q (o::rest) a w:=by
 refine wpList_plain hg fun K' hK'=>?_;have hrun:=zm7 T ht hz h true x hx;unfold Oper.wp;simp [execOp,hop,hm,hi,hrun,Result.andThen];exact hK' _ _ hK
theorem Wu {e t:TypeId} {ops:Array Oper} {rest:List Oper} {o:Oper} {a:Act} {Q:Exit→Act→World→Prop}
  (T:zox P k κ ek ok) (ht:P.underlying t=some (.map k e)) (h:YU ek ok w b n f) (x:κ) (hx:ok x) (u:Value)
  (hg:o.guard=none) (m i v:Operand) (hop:o.op=Op.mapUpdate t m i v) (hm:a.eval m=.map (some b)) (hi:a.eval i=ek x) (hv:a.eval v=u)
  (hK:∀ w',YU ek ok w' b (n+1) (upd f x u)→w.grownBy w' (some b)→wpList P ops Q rest (a.put o.dst undef) w'):wpList P ops Q (o::rest) a w:=by
 refine wpList_plain hg fun K' hK'=>?_;obtain ⟨w',hrun,h1,h2⟩:=zoc T ht h x hx u;unfold Oper.wp;simp [execOp,hop,hm,hi,hv,hrun,Result.andThen];exact hK' _ _ (hK w' h1 h2)
end
def zmJ (x:Int):Value:=.int .i64 x
theorem zoK {x:Int} (h:I64 x):(Lit.int .i64 x).wf=true:=WalkArith.wf_i64 (by unfold I64 at h;omega)
theorem intKeys:zox Try.prog 3 Int zmJ I64:=⟨int_keyed Try.underlying3,fun x hx=>⟨_,keyOf_int_mk Try.underlying3 (zoK hx)⟩,fun x y h=>by injection h⟩
end
section
open Go.RowKit
attribute [local go_sem ↓] Go.wp_at_zero Go.wp_at_succ
def Ve (o:OpV):Prop:=I64 o.p∧I64 o.k∧I64 o.key∧I64 o.arg∧I64 o.res∧I64 o.call∧I64 o.ret
noncomputable def setMap (B:Int→Bool):Int→Option Value:=fun x=>if B x then some (.agg #[]) else none
theorem Uq (B:Int→Bool) (x:Int):(setMap B x).getD (.agg #[])=.agg #[]:=by unfold setMap;split <;> rfl
theorem WX (B:Int→Bool) (x:Int):(setMap B x).isSome=B x:=by unfold setMap;split <;> simp_all
theorem zdb (B:Int→Bool) (x:Int):upd (setMap B) x (.agg #[])=setMap (fun y=>B y || y == x):=by
 funext y;by_cases hy:y=x
 ·subst hy;rw [zan];simp [setMap]
 ·rw [VM _ _ hy];simp [setMap,hy]
theorem zbK:(fun _=>none)=setMap (fun _=>false):=by funext y;simp [setMap]
def UX (g:Int→Option OpV):Int→Option Value:=fun x=>(g x).map fun o=>.agg o.vals.toArray
theorem zla (g:Int→Option OpV) (x:Int):(UX g x).getD (.agg #[.int .i64 0,.int .i64 0,.int .i64 0,.int .i64 0,.int .i64 0,.int .i64 0,.int .i64 0,.bool false])=.agg #[.int .i64 ((g x).getD default).p,.int .i64 ((g x).getD default).k,.int .i64 ((g x).getD default).key,.int .i64 ((g x).getD default).arg,.int .i64 ((g x).getD default).res,.int .i64 ((g x).getD default).call,.int .i64 ((g x).getD default).ret,.bool ((g x).getD default).done]:=by
 unfold UX;cases g x <;> rfl
theorem zjc (g:Int→Option OpV) (x:Int):(UX g x).isSome=(g x).isSome:=by simp [UX]
open Classical in
theorem zfw (g:Int→Option OpV) (x:Int) (o:OpV):upd (UX g) x (.agg o.vals.toArray)=UX (fun y=>if y=x then some o else g y):=by
 funext y;by_cases hy:y=x
 ·subst hy;rw [zan];simp [UX]
 ·rw [VM _ _ hy];simp [UX,hy]
def wfB (o:OpV):Bool:=decide (0≤o.p) && decide (0≤o.k) && decide (o.k≤4) && decide (0≤o.call) && decide (o.call<o.ret) && (o.done || decide (o.res=0))
def zcf (l:List OpV) (k:Nat) (x:Int):Bool:=(l.take k).any fun o=>o.done && o.ret == x
def Wy (l:List OpV) (k:Nat) (x:Int):Bool:=(l.take k).any fun o=>o.call == x
def xb (l:List OpV):Nat→Int→Option OpV
 | 0, _ => none
 | k+1, p => if p=(nth l k).p then some (nth l k) else xb l k p
def zdB (l:List OpV) (k:Nat):Int:=
 if wfB (nth l k)=false then 1
 else if 0<k∧(nth l k).call≤(nth l (k - 1)).call then 5
 else if (zcf l k (nth l k).call || (nth l k).done && (zcf l k (nth l k).ret || Wy l l.length (nth l k).ret))=true then 4
 else if (xb l k (nth l k).p).isSome=true∧(((xb l k (nth l k).p).getD default).done=false∨(nth l k).call<((xb l k (nth l k).p).getD default).ret) then 5
 else 0
def ym (l:List OpV) (k:Nat):Nat→Int
 | 0 => 0
 | n+1 => if zdB l k=0 then ym l (k+1) n else zdB l k
def xv (l:List OpV):Int:=if 300<l.length then 2 else ym l 0 l.length
theorem Vr {l:List OpV} {k n:Nat} (h:zdB l k=0):ym l k (n+1)=ym l (k+1) n:=by simp [ym,h]
theorem zca {l:List OpV} {k n:Nat} (h:zdB l k≠0):ym l k (n+1)=zdB l k:=by simp [ym,h]
theorem ziq {l:List OpV} {k:Nat} (hk:k<l.length) (x:Int):Wy l (k+1) x=(Wy l k x || x == (nth l k).call):=by
 unfold Wy;rw [List.take_succ_eq_append_getElem hk,List.any_append,nth_eq hk];simp [BEq.comm (a:=x)]
theorem zfO {l:List OpV} {k:Nat} (hk:k<l.length) (x:Int):zcf l (k+1) x=(zcf l k x || ((nth l k).done && x == (nth l k).ret)):=by
 unfold zcf;rw [List.take_succ_eq_append_getElem hk,List.any_append,nth_eq hk];simp [BEq.comm (a:=x)]
theorem Xx {w:World} (o:Obj):Below w.heap.size w (w.alloc o):=(Below.refl _ _).alloc (Nat.le_refl _) _
theorem WK (o:OpV) (w:World):Calls Try.prog 70 #[.agg #[.int .i64 o.p,.int .i64 o.k,.int .i64 o.key,.int .i64 o.arg,.int .i64 o.res,.int .i64 o.call,.int .i64 o.ret,.bool o.done]] w fun e w'=>e=.returned (.bool (wfB o))∧Below w.heap.size w w':=by
 by_cases h1:0≤o.p
 ·by_cases h2:0≤o.k
  ·by_cases h3:o.k≤4
   ·by_cases h4:0≤o.call
    ·by_cases h5:o.call<o.ret
     ·cases h6:o.done with
      | true =>
       go_enter Try.func70,Try.ntmps70
       go_wp2
       go_ret
       exact ⟨by simp [wfB,h1,h2,h3,h4,h5,h6],Xx _⟩
      | false=>
       by_cases h7:o.res=0
       ·have h7' : (o.res == 0)=true:=by simpa using h7
        go_enter Try.func70,Try.ntmps70
        go_wp2
        go_ret
        exact ⟨by simp [wfB,h1,h2,h3,h4,h5,h6,h7],Xx _⟩
       ·have h7' : (o.res == 0)=false:=by simpa using h7
        go_enter Try.func70,Try.ntmps70
        go_wp2
        go_ret
        exact ⟨by simp [wfB,h1,h2,h3,h4,h5,h6,h7],Xx _⟩
     ·go_enter Try.func70,Try.ntmps70
      go_wp2
      go_ret
      exact ⟨by simp [wfB,h1,h2,h3,h4];intros;omega,Xx _⟩
    ·go_enter Try.func70,Try.ntmps70
     go_wp2
     go_ret
     exact ⟨by simp [wfB,h1,h2,h3];intros;omega,Xx _⟩
   ·go_enter Try.func70,Try.ntmps70
    go_wp2
    go_ret
    exact ⟨by simp [wfB,h1,h2];intros;omega,Xx _⟩
  ·go_enter Try.func70,Try.ntmps70
   go_wp2
   go_ret
   exact ⟨by simp [wfB,h1];intros;omega,Xx _⟩
 ·go_enter Try.func70,Try.ntmps70
  go_wp2
  go_ret
  exact ⟨by simp [wfB];intros;omega,Xx _⟩
theorem zgJ (l:List OpV) (k:Nat):xb l (k+1)=fun p=>if p=(nth l k).p then some (nth l k) else xb l k p:=rfl
theorem zlz (l:List OpV):zcf l 0=fun _=>false:=by funext x;simp [zcf]
theorem zis (l:List OpV):Wy l 0=fun _=>false:=by funext x;simp [Wy]
theorem zjb:(fun _=>none)=UX (fun _=>none):=by funext y;simp [UX]
theorem zly {l:List OpV} {k:Nat} (hk:k<l.length) (h:(nth l k).done=true):zcf l (k+1)=fun x=>zcf l k x || x == (nth l k).ret:=by
 funext x;rw [zfO hk,h];simp
theorem zjy {l:List OpV} {k:Nat} (hk:k<l.length) (h:(nth l k).done=false):zcf l (k+1)=zcf l k:=by
 funext x;rw [zfO hk,h];simp
theorem zir {l:List OpV} {k:Nat} (hk:k<l.length):Wy l (k+1)=fun x=>Wy l k x || x == (nth l k).call:=by
 funext x;rw [ziq hk]
theorem zdD {l:List OpV} {k:Nat} {X e:Int} (h:ym l k (l.length - k)=X) (hk:k<l.length) (he:zdB l k=e) (h0:e≠0):e=X:=by
 rw [show l.length - k=(l.length - (k+1))+1 by omega,zca (by rw [he];exact h0),he] at h;exact h
theorem zoI {l:List OpV} {k:Nat} {X:Int} (h:ym l k (l.length - k)=X) (hk:k<l.length) (he:zdB l k=0):ym l (k+1) (l.length - (k+1))=X:=by
 rw [show l.length - k=(l.length - (k+1))+1 by omega,Vr he] at h;exact h
set_option maxRecDepth 100000 in
theorem ziP (A:Option Addr) (c:Nat) (l:List OpV) (w:World) (h1:Sl OpV.vals w w.heap.size A l) (hin:∀ o∈l,Ve o) (hlen:l.length≤1000000000) :
  Calls Try.prog 54 #[.slice A l.length c] w fun e w'=>e=.returned (.int .i64 (xv l))∧Below w.heap.size w w':=by
 have hmm:=@run_makeMap Try.prog;by_cases hbig:300<l.length
 ·go_enter Try.func54,Try.ntmps54
  go_wp2_with fail
  go_ret
  exact ⟨by simp [xv,hbig],Below.refl _ _⟩
 ·have hc : xv l=ym l 0 l.length:=by simp [xv,hbig]
  rw [hc]
  go_enter Try.func54,Try.ntmps54
  go_wp2_with fail
  go_loopw [24] (fun i wr=>∃ k:Nat,k≤l.length∧i=.int .i64 k∧YU zmJ I64 wr w.heap.size k (setMap (Wy l k))∧Below w.heap.size w wr) (fun i _=>l.length - (intOf i).toNat)
  case atStart=>exact ⟨0,by omega,rfl,by rw [zis,← zbK];exact YU.made w,Xx _⟩
  case round =>
   obtain ⟨k,hk,rfl,hmap,hb⟩:=hrel;by_cases hlt:k<l.length
   ·obtain ⟨b1,o1,rfl,hbl1,p0,p1,p2,p3,p4,p5,p6,p7⟩:=(h1.below hb).op hlt;have hsz:=hb.size;have hb1:b1<wr.heap.size:=by omega
    have hI:=hin _ (zC hlt);have Hs:=Lib.hid (zir hlt)
    go_wp2_with (at_mapUpdate;go_loud (refine Wu intKeys Try.underlying107 (hmap.alloc _) (nth l k).call hI.2.2.2.2.2.1 (.agg #[]) rfl (.tmp 28) (.tmp 30) (.tmp 31) rfl rfl rfl rfl ?_;intro w1 hm1 hg1))
    go_roundw
    case rel=>
     refine ⟨k+1,by omega,by go_num,?_,?_⟩
     ·rw [Hs.out,← zdb];exact hm1
     ·exact (hb.alloc hsz _).grown hg1 zx (by rintro k' ⟨⟩;exact Nat.le_refl _)
    case measure=>simp [intOf];omega
   ·obtain rfl : k=l.length:=by omega
    obtain ⟨wb,rfl⟩:∃ wb:World,wb=wr:=⟨_,rfl⟩
    have hszb:=hb.size;have hltb:=hmap.lt
    go_wp2_with fail
    go_loopw [37] (fun i wr=>∃ k:Nat,k≤l.length∧i=.int .i64 k∧YU zmJ I64 wr w.heap.size l.length (setMap (Wy l l.length))∧YU zmJ I64 wr wb.heap.size k (setMap (zcf l k))∧YU zmJ I64 wr (wb.heap.size+1) k (UX (xb l k))∧Below w.heap.size w wr∧wb.heap.size+2≤wr.heap.size∧
     ym l k (l.length - k)=ym l 0 l.length) (fun i _=>l.length - (intOf i).toNat)
    case atStart=>
     refine ⟨0,by omega,rfl,(hmap.alloc _).alloc _,?_,?_,(hb.alloc hszb _).alloc zx _,by simp,by simp⟩
     ·rw [zlz,← zbK];exact (YU.made wb).alloc _
     ·have:=YU.made (ek:=zmJ) (ok:=I64) (wb.alloc (.map #[] 0));rw [show xb l 0=fun _=>none from rfl,← zjb];simpa using this
    case round =>
     obtain ⟨k,hk,rfl,hmc,hmr,hml,hb,hsz2,hno⟩:=hrel;have Hno:=Lib.hid hno;clear hno hmap;by_cases hlt:k<l.length
     ·obtain ⟨b1,o1,rfl,hbl1,p0,p1,p2,p3,p4,p5,p6,p7⟩:=(h1.below hb).op hlt;have hsz:=hb.size;have hb1:b1<wr.heap.size:=by omega
      have hI:=hin _ (zC hlt);obtain ⟨o,ho⟩:∃ o,nth l k=o:=⟨_,rfl⟩
      rw [ho] at p0 p1 p2 p3 p4 p5 p6 p7 hI;obtain ⟨pv,hpv⟩:∃ pv,(xb l k o.p).getD default=pv:=⟨_,rfl⟩
      obtain ⟨b4,hb4⟩:∃ b4,(xb l k o.p).isSome=b4:=⟨_,rfl⟩
      obtain ⟨b5,hb5⟩:∃ b5,zcf l k o.call=b5:=⟨_,rfl⟩
      obtain ⟨b6,hb6⟩:∃ b6,zcf l k o.ret=b6:=⟨_,rfl⟩
      obtain ⟨b7,hb7⟩:∃ b7,Wy l l.length o.ret=b7:=⟨_,rfl⟩
      have Hpv:=Lib.hid hpv;have Hb4:=Lib.hid hb4;have Hb5:=Lib.hid hb5;have Hb6:=Lib.hid hb6;have Hb7:=Lib.hid hb7;clear hpv hb4 hb5 hb6 hb7
      go_upto_region 18 with (first|(at_lookup;refine Zg intKeys Try.underlying107 (Try.zeroValue88 _) (hmr.alloc _) o.call hI.2.2.2.2.2.1 rfl (.tmp 43) (.tmp 45) rfl rfl rfl ?_;rw [Uq,WX,Hb5.out])|(at_lookup;refine Zg intKeys Try.underlying107 (Try.zeroValue88 _) ((hmr.alloc _).alloc _) o.ret hI.2.2.2.2.2.2 rfl (.tmp 50) (.tmp 52) rfl rfl rfl ?_;rw [Uq,WX,Hb6.out])|(at_lookup;refine Zg intKeys Try.underlying107 (Try.zeroValue88 _) (((hmc.alloc _).alloc _).alloc _) o.ret hI.2.2.2.2.2.2 rfl (.tmp 57) (.tmp 59) rfl rfl rfl ?_;rw [Uq,WX,Hb7.out])|(at_lookup;refine Zg intKeys Try.underlying108 (Try.zeroValue43 _) ((((hml.alloc _).alloc _).alloc _).alloc _) o.p hI.1 rfl (.tmp 64) (.tmp 66) rfl rfl rfl ?_;rw [zla,zjc,Hb4.out,Hpv.out]))
      obtain ⟨W,hW⟩:∃ W,W=(((((wr.alloc (.cells #[.int .i64 o.p,.int .i64 o.k,.int .i64 o.key,.int .i64 o.arg,.int .i64 o.res,.int .i64 o.call,.int .i64 o.ret,.bool o.done] 43)).alloc (.cells #[] 88)).alloc (.cells #[] 88)).alloc (.cells #[] 88)).alloc (.cells #[.int .i64 pv.p,.int .i64 pv.k,.int .i64 pv.key,.int .i64 pv.arg,.int .i64 pv.res,.int .i64 pv.call,.int .i64 pv.ret,.bool pv.done] 43)):=⟨_,rfl⟩
      have B1:Blk W wr.heap.size 43 o.vals:=by rw [hW];exact ((((Blk.new wr 43 o.vals).alloc _).alloc _).alloc _).alloc _
      have B2:Blk W (wr.heap.size+1+1+1+1) 43 pv.vals:=by
       rw [hW];have:=Blk.new ((((wr.alloc (.cells #[.int .i64 o.p,.int .i64 o.k,.int .i64 o.key,.int .i64 o.arg,.int .i64 o.res,.int .i64 o.call,.int .i64 o.ret,.bool o.done] 43)).alloc (.cells #[] 88)).alloc (.cells #[] 88)).alloc (.cells #[] 88)) 43 pv.vals;simp only [World.size_alloc] at this;exact this
      have hmc1:YU zmJ I64 W w.heap.size l.length (setMap (Wy l l.length)):=by rw [hW];exact ((((hmc.alloc _).alloc _).alloc _).alloc _).alloc _
      have hmr1:YU zmJ I64 W wb.heap.size k (setMap (zcf l k)):=by rw [hW];exact ((((hmr.alloc _).alloc _).alloc _).alloc _).alloc _
      have hml1:YU zmJ I64 W (wb.heap.size+1) k (UX (xb l k)):=by rw [hW];exact ((((hml.alloc _).alloc _).alloc _).alloc _).alloc _
      have hbW:Below wr.heap.size wr W:=by rw [hW];exact ((((Xx _).alloc zc _).alloc zx _).alloc zx _).alloc zx _
      have q5:=hbW.cell (p:=⟨b1,o1+k * 8+5,none⟩) hb1;rw [← hW];clear hW hmc hmr hml;obtain ⟨x0,x1,x2,x3,x4,x5,x6,x7⟩:=B1.op;cases hwf:wfB o with
      | false =>
       go_wp2_with (go_at_call 70;refine (WK o _).mono ?_;rintro e w2 ⟨rfl,hb2⟩)
       go_ret
       exact ⟨congrArg _ (congrArg _ (zdD Hno.out hlt (by rw [zdB,if_pos (by rw [ho];exact hwf)]) zg)),hb.trans ((zpb hbW hb2).mono hsz)⟩
      | true =>
       have hP:=hbW.size
       go_upto_region 20 with (go_at_call 70;refine (WK o _).mono ?_;rintro e w2 ⟨rfl,hb2⟩)
       have hbw2:=zpb hbW hb2;have C1:=B1.below hb2 B1.lt;have C2:=B2.below hb2 B2.lt;have hmc2:=hmc1.ext hb2;have hmr2:=hmr1.ext hb2;have hml2:=hml1.ext hb2;clear B1 B2 hmc1 hmr1 hml1 x0 x1 x2 x3 x4 x5 x6 x7 hb2 hbW q5;obtain ⟨x0,x1,x2,x3,x4,x5,x6,x7⟩:=C1.op;obtain ⟨y0,y1,y2,y3,y4,y5,y6,y7⟩:=C2.op;have Hwf:=Lib.hid hwf;clear hwf;have hsz4:=hbw2.size;by_cases hord:0<k∧o.call≤(nth l (k - 1)).call
       ·obtain ⟨hk0,hord⟩:=hord;have hk1:k - 1<l.length:=by omega
        obtain ⟨_,_,_,_,_,q5,_,_⟩:=((h1.below hb).below (hbw2.mono hsz)).op' hk1;have hk2:(0:Int)<(k:Int):=by omega
        go_wp2_with fail
        go_quiet (fail)
        go_wp2_with fail
        go_ret
        exact ⟨congrArg _ (congrArg _ (zdD Hno.out hlt (by rw [zdB,if_neg (by rw [ho,Hwf.out];simp),if_pos (by rw [ho];exact ⟨hk0,hord⟩)]) zg)),Yz (hb.trans (hbw2.mono hsz)) _⟩
       ·have Hord:=Lib.hid hord
        go_cut [74] (fun s wx=>s=.bool false∧∃ n,wx=w2.drewN n)
        case first=>
         by_cases hk0:0<k
         ·have hk1:k - 1<l.length:=by omega
          obtain ⟨_,_,_,_,_,q5,_,_⟩:=((h1.below hb).below (hbw2.mono hsz)).op' hk1;have hk2:(0:Int)<(k:Int):=by omega
          have hle:(nth l (k - 1)).call<o.call:=by
           have:=Hord.out;omega
          clear hord
          go_wp2_with fail
          go_quiet (fail)
          go_wp2_with fail
          go_meet
          case rel=>exact ⟨by simp;omega,_,rfl⟩
         ·have hk2:decide ((0:Int)<(k:Int))=false:=by simp;omega
          clear hord
          go_wp2_with fail
          go_quiet (fail)
          go_wp2_with fail
          go_meet
          case rel=>exact ⟨by simp,_,rfl⟩
        case rest=>
         obtain ⟨rfl,n,rfl⟩:=hcut;clear hord
         go_upto_region 22 with fail
         go_cut [11,13,15,88] (fun _ _ _ s wx=>s=.bool (b5 || (o.done && (b6 || b7)))∧wx=w2.drewN n)
         case first=>
          go_wp2_with fail
          all_goals go_meet
          all_goals exact ⟨by simp [*],rfl⟩
         case rest=>
          obtain ⟨rfl,rfl⟩:=hcut;obtain ⟨b8,hb8⟩:∃ b8,(b5 || (o.done && (b6 || b7)))=b8:=⟨_,rfl⟩
          rw [hb8];have Hb8:=Lib.hid hb8;clear hb8;have e1:¬ (wfB (nth l k)=false):=by rw [ho,Hwf.out];simp
          have e2:¬ (0<k∧(nth l k).call≤(nth l (k - 1)).call):=by rw [ho];exact Hord.out
          have e3:(zcf l k (nth l k).call || (nth l k).done && (zcf l k (nth l k).ret || Wy l l.length (nth l k).ret))=b8:=by rw [ho,Hb5.out,Hb6.out,Hb7.out];exact Hb8.out
          have E1:=Lib.hid e1;have E2:=Lib.hid e2;have E3:=Lib.hid e3;clear e1 e2 e3;cases b8 with
          | true =>
           go_wp2_with fail
           go_ret
           exact ⟨congrArg _ (congrArg _ (zdD Hno.out hlt (by rw [zdB,if_neg E1.out,if_neg E2.out,if_pos E3.out]) zg)),Yz (hb.trans (hbw2.mono hsz)) _⟩
          | false=>
           go_upto_region 24 with fail
           go_cut [17,100] (fun _ s wx=>s=.bool (b4 && (!pv.done || decide (o.call<pv.ret)))∧wx=w2.drewN n)
           case first=>
            go_wp2_with fail
            all_goals go_meet
            all_goals exact ⟨by simp [*],rfl⟩
           case rest=>
            obtain ⟨rfl,rfl⟩:=hcut;obtain ⟨b9,hb9⟩:∃ b9,(b4 && (!pv.done || decide (o.call<pv.ret)))=b9:=⟨_,rfl⟩
            rw [hb9];have e4:((xb l k (nth l k).p).isSome=true∧(((xb l k (nth l k).p).getD default).done=false∨(nth l k).call<((xb l k (nth l k).p).getD default).ret))↔b9=true:=by
             rw [ho,Hb4.out,Hpv.out,← hb9];simp
            have E4:=Lib.hid e4;clear hb9 e4;cases b9 with
            | true =>
             go_wp2_with fail
             go_ret
             exact ⟨congrArg _ (congrArg _ (zdD Hno.out hlt (by rw [zdB,if_neg E1.out,if_neg E2.out,if_neg (by rw [E3.out];simp),if_pos (E4.out.mpr (by trivial))]) zg)),Yz (hb.trans (hbw2.mono hsz)) _⟩
            | false=>
             have hz:=zoI Hno.out hlt (by rw [zdB,if_neg E1.out,if_neg E2.out,if_neg (by rw [E3.out];simp),if_neg (fun h=>by have:=E4.out.1 h;cases this)]);have Hz:=Lib.hid hz;clear hz;have Hst:=Lib.hid (show xb l (k+1)=fun p=>if p=o.p then some o else xb l k p by rw [zgJ,ho]);have hne1:=hmr2.ne_blk C1;have hne2:wb.heap.size≠w.heap.size:=by omega
             have hne3:wb.heap.size≠wb.heap.size+1:=by omega
             have hne4:=hml2.ne_blk C1;cases hdn:o.done with
             | true=>
              rw [hdn] at x7;have Hr:=Lib.hid (zly hlt (by rw [ho];exact hdn));have Hdn:=Lib.hid hdn;clear hdn
              go_upto_region 28 with (at_mapUpdate;refine Wu intKeys Try.underlying107 (hmr2.drewN n) o.ret hI.2.2.2.2.2.2 (.agg #[]) rfl (.tmp 116) (.tmp 118) (.tmp 119) rfl rfl rfl rfl ?_;intro w3 hm3 hg3)
              have hsz5:w2.heap.size≤w3.heap.size:=hg3.size;have D1:=(C1.drewN n).grown hg3 (by simpa using fun e=>hne1 e.symm);have hml3:=(hml2.drewN n).grown hg3 zc;have hmc3:=(hmc2.drewN n).grown hg3 (by simpa using fun e=>hne2 e.symm);have hb3:=(Yz (hb.trans (hbw2.mono hsz)) n).grown hg3 zx (by rintro k' ⟨⟩;omega);clear x0 x1 x2 x3 x4 x5 x6 x7 hg3;obtain ⟨x0,x1,x2,x3,x4,x5,x6,x7⟩:=D1.op
              go_wp2_with (at_mapUpdate;refine Wu intKeys Try.underlying108 hml3 o.p hI.1 (.agg o.vals.toArray) rfl (.tmp 120) (.tmp 122) (.tmp 123) rfl rfl rfl rfl ?_;intro w4 hm4 hg4)
              go_roundw
              case rel=>
               refine ⟨k+1,by omega,by go_num,hmc3.grown hg4 zx,?_,?_,hb3.grown hg4 za (by rintro k' ⟨⟩;omega),by have:=hg4.size;omega,Hz.out⟩
               ·rw [Hr.out,ho,← zdb];exact hm3.grown hg4 zc
               ·rw [Hst.out,← zfw];exact hm4
              case measure=>simp [intOf];omega
             | false=>
              rw [hdn] at x7;have Hr:=Lib.hid (zjy hlt (by rw [ho];exact hdn));have Hv:=Lib.hid (show (.agg o.vals.toArray:Value)=.agg #[.int .i64 o.p,.int .i64 o.k,.int .i64 o.key,.int .i64 o.arg,.int .i64 o.res,.int .i64 o.call,.int .i64 o.ret,.bool false] by simp [OpV.vals,hdn]);clear hdn
              go_wp2_with (at_mapUpdate;refine Wu intKeys Try.underlying108 (hml2.drewN n) o.p hI.1 (.agg #[.int .i64 o.p,.int .i64 o.k,.int .i64 o.key,.int .i64 o.arg,.int .i64 o.res,.int .i64 o.call,.int .i64 o.ret,.bool false]) rfl (.tmp 120) (.tmp 122) (.tmp 123) rfl rfl rfl rfl ?_;intro w4 hm4 hg4)
              have hsz5:w2.heap.size≤w4.heap.size:=hg4.size
              go_roundw
              case rel=>
               refine ⟨k+1,by omega,by go_num,(hmc2.drewN n).grown hg4 zx,?_,?_,(Yz (hb.trans (hbw2.mono hsz)) n).grown hg4 zx (by rintro k' ⟨⟩;omega),by omega,Hz.out⟩
               ·rw [Hr.out];exact ((hmr2.drewN n).grown hg4 zc).mono za
               ·rw [Hst.out,← zfw,Hv.out];exact hm4
              case measure=>simp [intOf];omega
     ·go_wp2
      go_ret
      obtain rfl:k=l.length:=by omega
      have e:=Hno.out;rw [Nat.sub_self] at e;exact ⟨by rw [← e];rfl,hb⟩
end
section
set_option maxRecDepth 100000
def zof:List (Nat×TS):=[
 (3,⟨.int .i64,1,8,[.int .i64 0]⟩),
 (4,⟨.bool,1,1,[.bool false]⟩),
 (1,⟨.any,1,8,[.undef]⟩),
 (2,⟨.int .i64,1,8,[.int .i64 0]⟩),
 (5,⟨.int .u8,1,1,[.int .u8 0]⟩),
 (6,⟨.int .u8,1,1,[.int .u8 0]⟩),
 (7,⟨.strct [(0,2),(1,3),(2,4),(3,6)],4,24,[.int .i64 0,.int .i64 0,.bool false,.int .u8 0]⟩),
 (8,⟨.strct [(0,2),(1,3),(2,4),(3,6)],4,24,[.int .i64 0,.int .i64 0,.bool false,.int .u8 0]⟩),
 (9,⟨.str,1,16,[.str ByteArray.empty]⟩),
 (10,⟨.str,1,16,[.str ByteArray.empty]⟩),
 (11,⟨.str,1,16,[.str ByteArray.empty]⟩),
 (12,⟨.int .u64,1,8,[.int .u64 0]⟩),
 (13,⟨.strct [(0,9),(1,12)],2,24,[.str ByteArray.empty,.int .u64 0]⟩),
 (14,⟨.strct [(0,9),(1,12)],2,24,[.str ByteArray.empty,.int .u64 0]⟩),
 (15,⟨.any,1,8,[.undef]⟩),
 (16,⟨.any,1,8,[.undef]⟩),
 (17,⟨.any,1,8,[.undef]⟩),
 (18,⟨.strct [(0,17)],1,8,[.undef]⟩),
 (19,⟨.strct [(0,17)],1,8,[.undef]⟩),
 (20,⟨.any,1,16,[.undef]⟩),
 (21,⟨.int .i32,1,4,[.int .i32 0]⟩),
 (22,⟨.slice 3,1,24,[.nil]⟩),
 (23,⟨.slice 43,1,24,[.nil]⟩),
 (24,⟨.any,1,8,[.undef]⟩),
 (25,⟨.any,1,8,[.undef]⟩),
 (26,⟨.any,1,8,[.undef]⟩),
 (27,⟨.any,1,8,[.undef]⟩),
 (28,⟨.any,1,8,[.undef]⟩),
 (29,⟨.any,1,8,[.undef]⟩),
 (30,⟨.any,1,8,[.undef]⟩),
 (31,⟨.any,1,8,[.undef]⟩),
 (32,⟨.slice 46,1,24,[.nil]⟩),
 (33,⟨.strct [(0,22),(1,32)],2,48,[.nil,.nil]⟩),
 (34,⟨.strct [(0,22),(1,32)],2,48,[.nil,.nil]⟩),
 (35,⟨.strct [(0,3),(1,3),(2,3),(3,34)],5,72,[.int .i64 0,.int .i64 0,.int .i64 0,.nil,.nil]⟩),
 (36,⟨.strct [(0,3),(1,3),(2,3),(3,34)],5,72,[.int .i64 0,.int .i64 0,.int .i64 0,.nil,.nil]⟩),
 (37,⟨.int .i64,1,8,[.int .i64 0]⟩),
 (39,⟨.any,1,8,[.undef]⟩),
 (40,⟨.any,1,8,[.undef]⟩),
 (41,⟨.any,1,8,[.undef]⟩),
 (42,⟨.strct [(0,3),(1,3),(2,3),(3,3),(4,3),(5,3),(6,3),(7,4)],8,64,[.int .i64 0,.int .i64 0,.int .i64 0,.int .i64 0,.int .i64 0,.int .i64 0,.int .i64 0,.bool false]⟩),
 (43,⟨.strct [(0,3),(1,3),(2,3),(3,3),(4,3),(5,3),(6,3),(7,4)],8,64,[.int .i64 0,.int .i64 0,.int .i64 0,.int .i64 0,.int .i64 0,.int .i64 0,.int .i64 0,.bool false]⟩),
 (44,⟨.any,1,8,[.undef]⟩),
 (45,⟨.strct [(0,3),(1,3),(2,3)],3,24,[.int .i64 0,.int .i64 0,.int .i64 0]⟩),
 (46,⟨.strct [(0,3),(1,3),(2,3)],3,24,[.int .i64 0,.int .i64 0,.int .i64 0]⟩),
 (47,⟨.any,1,8,[.undef]⟩),
 (48,⟨.any,1,8,[.undef]⟩),
 (49,⟨.slice 53,1,24,[.nil]⟩),
 (50,⟨.any,1,8,[.undef]⟩),
 (51,⟨.any,1,8,[.undef]⟩),
 (52,⟨.strct [(0,3),(1,4),(2,3)],3,24,[.int .i64 0,.bool false,.int .i64 0]⟩),
 (53,⟨.strct [(0,3),(1,4),(2,3)],3,24,[.int .i64 0,.bool false,.int .i64 0]⟩),
 (54,⟨.any,1,8,[.undef]⟩),
 (55,⟨.any,1,8,[.undef]⟩),
 (56,⟨.any,1,8,[.undef]⟩),
 (57,⟨.any,1,8,[.undef]⟩),
 (58,⟨.any,1,8,[.undef]⟩),
 (59,⟨.any,1,8,[.undef]⟩),
 (60,⟨.slice 59,1,24,[.nil]⟩),
 (63,⟨.any,1,8,[.undef]⟩),
 (64,⟨.slice 75,1,24,[.nil]⟩),
 (65,⟨.any,1,8,[.undef]⟩),
 (66,⟨.any,1,8,[.undef]⟩),
 (67,⟨.map 3 3,1,8,[.nilm]⟩),
 (68,⟨.map 87 3,1,8,[.nilm]⟩),
 (69,⟨.slice 67,1,24,[.nil]⟩),
 (70,⟨.strct [(0,23),(1,22),(2,68),(3,69)],4,80,[.nil,.nil,.nilm,.nil]⟩),
 (71,⟨.strct [(0,23),(1,22),(2,68),(3,69)],4,80,[.nil,.nil,.nilm,.nil]⟩),
 (72,⟨.any,1,8,[.undef]⟩),
 (73,⟨.any,1,8,[.undef]⟩),
 (74,⟨.any,1,8,[.undef]⟩),
 (75,⟨.arr 2 3,2,16,[.int .i64 0,.int .i64 0]⟩),
 (76,⟨.any,1,8,[.undef]⟩),
 (77,⟨.any,1,8,[.undef]⟩),
 (78,⟨.any,1,8,[.undef]⟩),
 (79,⟨.any,1,8,[.undef]⟩),
 (80,⟨.any,1,8,[.undef]⟩),
 (81,⟨.any,1,8,[.undef]⟩),
 (82,⟨.any,1,8,[.undef]⟩),
 (83,⟨.any,1,8,[.undef]⟩),
 (84,⟨.any,1,8,[.undef]⟩),
 (85,⟨.map 87 88,1,8,[.nilm]⟩),
 (86,⟨.strct [(0,3),(1,3)],2,16,[.int .i64 0,.int .i64 0]⟩),
 (87,⟨.strct [(0,3),(1,3)],2,16,[.int .i64 0,.int .i64 0]⟩),
 (88,⟨.strct [],0,0,[]⟩),
 (91,⟨.any,1,8,[.undef]⟩),
 (92,⟨.any,1,8,[.undef]⟩),
 (93,⟨.any,1,8,[.undef]⟩),
 (94,⟨.slice 22,1,24,[.nil]⟩),
 (95,⟨.any,1,8,[.undef]⟩),
 (96,⟨.any,1,8,[.undef]⟩),
 (97,⟨.slice 3,1,24,[.nil]⟩),
 (98,⟨.any,1,8,[.undef]⟩),
 (99,⟨.any,1,8,[.undef]⟩),
 (100,⟨.any,1,8,[.undef]⟩),
 (101,⟨.any,1,8,[.undef]⟩),
 (102,⟨.any,1,8,[.undef]⟩),
 (103,⟨.any,1,8,[.undef]⟩),
 (104,⟨.any,1,8,[.undef]⟩),
 (105,⟨.any,1,8,[.undef]⟩),
 (106,⟨.any,1,8,[.undef]⟩),
 (107,⟨.map 3 88,1,8,[.nilm]⟩),
 (108,⟨.map 3 43,1,8,[.nilm]⟩),
 (110,⟨.any,1,8,[.undef]⟩),
 (111,⟨.any,1,8,[.undef]⟩),
 (112,⟨.map 3 22,1,8,[.nilm]⟩),
 (113,⟨.any,1,8,[.undef]⟩),
 (114,⟨.any,1,8,[.undef]⟩),
 (115,⟨.any,1,8,[.undef]⟩),
 (116,⟨.any,1,8,[.undef]⟩),
 (117,⟨.any,1,8,[.undef]⟩),
 (118,⟨.any,1,8,[.undef]⟩),
 (119,⟨.any,1,8,[.undef]⟩),
 (122,⟨.any,1,8,[.undef]⟩),
 (123,⟨.any,1,8,[.undef]⟩),
 (124,⟨.any,1,8,[.undef]⟩),
 (125,⟨.any,1,8,[.undef]⟩),
 (126,⟨.any,1,8,[.undef]⟩),
 (127,⟨.any,1,8,[.undef]⟩),
 (128,⟨.any,1,8,[.undef]⟩),
 (129,⟨.any,1,8,[.undef]⟩),
 (130,⟨.any,1,8,[.undef]⟩),
 (131,⟨.any,1,8,[.undef]⟩),
 (132,⟨.int .u64,1,8,[.int .u64 0]⟩),
 (133,⟨.any,1,8,[.undef]⟩),
 (135,⟨.any,1,8,[.undef]⟩),
 (136,⟨.any,1,8,[.undef]⟩),
 (137,⟨.any,1,8,[.undef]⟩),
 (138,⟨.int .i64,1,8,[.int .i64 0]⟩),
 (140,⟨.any,1,8,[.undef]⟩),
 (141,⟨.any,1,8,[.undef]⟩),
 (142,⟨.any,1,8,[.undef]⟩),
 (143,⟨.any,1,8,[.undef]⟩),
 (144,⟨.any,1,8,[.undef]⟩),
 (145,⟨.int .u32,1,4,[.int .u32 0]⟩),
 (146,⟨.any,1,8,[.undef]⟩),
 (147,⟨.int .u64,1,8,[.int .u64 0]⟩),
 (149,⟨.any,1,8,[.undef]⟩),
 (151,⟨.any,1,8,[.undef]⟩),
 (152,⟨.int .u64,1,8,[.int .u64 0]⟩),
 (153,⟨.any,1,8,[.undef]⟩),
 (154,⟨.any,1,8,[.undef]⟩),
 (155,⟨.any,1,8,[.undef]⟩),
 (156,⟨.any,1,8,[.undef]⟩),
 (157,⟨.any,1,8,[.undef]⟩),
 (158,⟨.any,1,8,[.undef]⟩),
 (160,⟨.any,1,8,[.undef]⟩),
 (161,⟨.any,1,8,[.undef]⟩),
 (162,⟨.strct [(0,17),(1,17),(2,17),(3,9)],4,40,[.undef,.undef,.undef,.str ByteArray.empty]⟩),
 (163,⟨.strct [(0,17),(1,17),(2,17),(3,9)],4,40,[.undef,.undef,.undef,.str ByteArray.empty]⟩),
 (164,⟨.arr 0 16,0,0,[]⟩),
 (167,⟨.int .u8,1,1,[.int .u8 0]⟩),
 (168,⟨.int .u8,1,1,[.int .u8 0]⟩),
 (169,⟨.any,1,8,[.undef]⟩),
 (170,⟨.any,1,8,[.undef]⟩),
 (171,⟨.int .i32,1,4,[.int .i32 0]⟩),
 (172,⟨.int .i32,1,4,[.int .i32 0]⟩),
 (173,⟨.strct [(0,12),(1,12),(2,145),(3,167),(4,5),(5,5),(6,168),(7,169),(8,170),(9,171),(10,172)],11,48,[.int .u64 0,.int .u64 0,.int .u32 0,.int .u8 0,.int .u8 0,.int .u8 0,.int .u8 0,.undef,.undef,.int .i32 0,.int .i32 0]⟩),
 (174,⟨.strct [(0,12),(1,12),(2,145),(3,167),(4,5),(5,5),(6,168),(7,169),(8,170),(9,171),(10,172)],11,48,[.int .u64 0,.int .u64 0,.int .u32 0,.int .u8 0,.int .u8 0,.int .u8 0,.int .u8 0,.undef,.undef,.int .i32 0,.int .i32 0]⟩)]
def zo8 (T:Nat):TS:=look {} zof T
theorem zl6:zof.all (fun p=>match p.2.k with|.other=>true|_=>WZ Try.prog p.1 p.2)=true:=by kernel_rfl
theorem zhN {α:Type} {d:α} {q:Nat→α→Bool} (hd:∀ T,q T d=true):∀ (l:List (Nat×α)),l.all (fun p=>q p.1 p.2)=true→∀ T,q T (look d l T)=true
 | [], _, T => hd T
 | (i, a) :: l, h, T => by
  rw [List.all_cons,Bool.and_eq_true] at h;rw [zI];split
  ·rename_i e;subst e;exact h.1
  ·exact zhN hd l h.2 T
theorem zE (T:Nat):(match (zo8 T).k with|.other=>true|_=>WZ Try.prog T (zo8 T))=true:=
 zhN (q:=fun T ts=>match ts.k with|.other=>true|_=>WZ Try.prog T ts) (fun _=>rfl) zof zl6 T
theorem zt:Try.prog.follows .mixedOrders=true:=by kernel_rfl
def xx (P:Program) (h1:∀ T,(match (zo8 T).k with|.other=>true|_=>WZ P T (zo8 T))=true) (h2:P.follows .mixedOrders=true) (N:Nat):Ctx:=⟨P,N,zo8,h1,h2⟩
end
section
open Go.RowKit
structure Typ {α:Type} (sz:Nat) (vals:α→List Value) (fv:α→List FV):Prop where
 rd:∀ w I x,RdL w I (vals x) (fv x)
 inv:∀ w I us x,RdL w I us (fv x)→us=vals x
 wide:∀ x,(fv x).length=sz
 one:∀ x,∀ f∈fv x,f.one=true
 flat:∀ x,FV.flat.flats (fv x)=true
section
variable {α:Type} {sz:Nat} {vals:α→List Value} {fv:α→List FV}
theorem Typ.flatRd (T:Typ sz vals fv) (w:World) (I:Nat→Prop):∀ l:List α,RdL w I (Ytmnmakhpjgjdaaa.flat vals l) (l.map fv).flatten
 | [] => RdL.nil
 | x :: l => by
  simp only [Ytmnmakhpjgjdaaa.flat,List.flatMap_cons,List.map_cons,List.flatten_cons];exact (T.rd w I x).append (T.flatRd w I l)
theorem Typ.flatInv (T:Typ sz vals fv) (w:World) (I:Nat→Prop):∀ (l:List α) (us:List Value),RdL w I us (l.map fv).flatten→us=Ytmnmakhpjgjdaaa.flat vals l
 | [], us, h => by have := h.1; simpa [Ytmnmakhpjgjdaaa.flat] using this
 | x :: l, us, h => by
  have h':=h;simp only [List.map_cons,List.flatten_cons] at h;have hl:=T.wide x;have h1:=h.take sz;have h2:=h.drop sz;rw [List.take_left' hl] at h1;rw [List.drop_left' hl] at h2;have e1:=T.inv w I _ x h1;have e2:=T.flatInv w I l _ h2;simp only [Ytmnmakhpjgjdaaa.flat,List.flatMap_cons];rw [← e1,show List.flatMap vals l=Ytmnmakhpjgjdaaa.flat vals l from rfl,← e2,List.take_append_drop]
theorem Typ.wideM (T:Typ sz vals fv) (l:List α):∀ e∈l.map fv,e.length=sz:=fun e he=>by
 obtain ⟨x,_,rfl⟩:=List.mem_map.1 he;exact T.wide x
theorem Typ.oneM (T:Typ sz vals fv) (l:List α):∀ f∈(l.map fv).flatten,f.one=true:=fun f hf=>by
 obtain ⟨e,he,hfe⟩:=List.mem_flatten.1 hf;obtain ⟨x,_,rfl⟩:=List.mem_map.1 he;exact T.one x f hfe
theorem Typ.to (T:Typ sz vals fv) {w:World} {B:Nat} {A:Option Addr} {l:List α} {c:Nat} (h:Sl vals w B A l) (hc:l.length≤c):Rd w (fun b=>b<B) (.slice A l.length c) (.list sz (l.map fv)):=by
 have hR:=T.flatRd w (fun b=>b<B) l;refine .list A l.length c sz _ (Ytmnmakhpjgjdaaa.flat vals l) zc hc (T.wideM l) (T.oneM l) (fun h0=>?_) hR.1 hR.2;obtain ⟨b,off,ha,hb,hcell⟩:=h (fun e=>h0 (by rw [e];rfl));exact ⟨b,off,ha,hb,hcell⟩
theorem Typ.of (T:Typ sz vals fv) {w:World} {I:Nat→Prop} {B:Nat} {v:Value} {l:List α} (h:Rd w I v (.list sz (l.map fv))) (hI:∀ b,I b→b<B):∃ A c,v=.slice A l.length c∧l.length≤c∧Sl vals w B A l:=by
 cases h with
 | list A n c sz es us hn hc he ho hA hl hr =>
  rw [List.length_map] at hn;subst hn;have:=T.flatInv w I l us ⟨hl,hr⟩;subst this;refine ⟨A,c,rfl,hc,fun hne=>?_⟩;obtain ⟨b,off,ha,hb,hcell⟩:=hA (by simpa using hne);exact ⟨b,off,ha,hI b hb,hcell⟩
theorem Typ.res (T:Typ sz vals fv) {w w' : World} {I:Nat→Prop} {E:Nat} {v:Value} {l:List α} (h:w'.ownsRow w.heap.size E sz v l.length (Ytmnmakhpjgjdaaa.flat vals l)):zkc w w' I (.ow E sz) v (.list sz (l.map fv)):=
 ⟨_,_,rfl,T.wideM l,T.oneM l,by rw [List.length_map];exact h,T.flatRd _ _ l⟩
end
theorem Rd.int_inv {w:World} {I:Nat→Prop} {v:Value} {k:IntKind} {n:Int} (h:Rd w I v (.int k n)):v=.int k n:=by cases h;rfl
theorem Rd.bool_inv {w:World} {I:Nat→Prop} {v:Value} {b:Bool} (h:Rd w I v (.bool b)):v=.bool b:=by cases h;rfl
theorem RdL.cons_inv {w:World} {I:Nat→Prop} {us:List Value} {f:FV} {fs:List FV} (h:RdL w I us (f::fs)):∃ u vs,us=u::vs∧Rd w I u f∧RdL w I vs fs:=by
 cases us with
 | nil => have := h.1; simp at this
 | cons u vs => exact ⟨u, vs, rfl, h.2 0 u f rfl rfl, by have := h.1; simpa using this, fun j u' f' hu hf => h.2 (j+1) u' f' (by simpa using hu) (by simpa using hf)⟩
theorem RdL.nil_inv {w:World} {I:Nat→Prop} {us:List Value} (h:RdL w I us []):us=[]:=by have:=h.1;simpa using this
theorem RdL.inv1 {w:World} {I:Nat→Prop} {vs:List Value} {f0:FV} (h:RdL w I vs [f0]):∃ u0,vs=[u0]∧Rd w I u0 f0:=by
 obtain ⟨u0,r0,rfl,e0,h0⟩:=h.cons_inv;have:=h0.nil_inv;subst this;exact ⟨u0,rfl,e0⟩
theorem RdL.inv2 {w:World} {I:Nat→Prop} {vs:List Value} {f0 f1:FV} (h:RdL w I vs [f0,f1]):∃ u0 u1,vs=[u0,u1]∧Rd w I u0 f0∧Rd w I u1 f1:=by
 obtain ⟨u0,r0,rfl,e0,h0⟩:=h.cons_inv;obtain ⟨u1,r1,rfl,e1,h1⟩:=h0.cons_inv;have:=h1.nil_inv;subst this;exact ⟨u0,u1,rfl,e0,e1⟩
def zD (x:Int):List FV:=[.int .i64 x]
theorem zfc:Typ 1 XD zD where
 rd w I x:=RdL.cons (.int _ _) .nil
 inv w I us x h:=by
  obtain ⟨u,vs,rfl,h1,h2⟩:=h.cons_inv;rw [h1.int_inv,h2.nil_inv];rfl
 wide x:=rfl
 one x f hf:=by simp [zD] at hf;subst hf;rfl
 flat x:=rfl
def OpV.fv (o:OpV):List FV:=[.int .i64 o.p,.int .i64 o.k,.int .i64 o.key,.int .i64 o.arg,.int .i64 o.res,.int .i64 o.call,.int .i64 o.ret,.bool o.done]
theorem opT:Typ 8 OpV.vals OpV.fv where
 rd w I x:=RdL.cons (.int _ _) <| RdL.cons (.int _ _) <| RdL.cons (.int _ _) <| RdL.cons (.int _ _) <| RdL.cons (.int _ _) <| RdL.cons (.int _ _) <| RdL.cons (.int _ _) <| RdL.cons (.bool _) .nil
 inv w I us x h:=by
  obtain ⟨_,_,rfl,h1,h⟩:=h.cons_inv;obtain ⟨_,_,rfl,h2,h⟩:=h.cons_inv;obtain ⟨_,_,rfl,h3,h⟩:=h.cons_inv;obtain ⟨_,_,rfl,h4,h⟩:=h.cons_inv;obtain ⟨_,_,rfl,h5,h⟩:=h.cons_inv;obtain ⟨_,_,rfl,h6,h⟩:=h.cons_inv;obtain ⟨_,_,rfl,h7,h⟩:=h.cons_inv;obtain ⟨_,_,rfl,h8,h⟩:=h.cons_inv;rw [h1.int_inv,h2.int_inv,h3.int_inv,h4.int_inv,h5.int_inv,h6.int_inv,h7.int_inv,h8.bool_inv,h.nil_inv];rfl
 wide x:=rfl
 one x f hf:=by simp [OpV.fv] at hf;rcases hf with rfl|rfl|rfl|rfl|rfl|rfl|rfl|rfl <;> rfl
 flat x:=rfl
theorem zX.law {P:Program} {f:Nat} {args:List FV} (h:zX P f args .fr (.bool true)) {w:World} {vs:List Value} (hv:RdL w (fun b=>b<w.heap.size) vs args):Calls P f vs.toArray w fun e w'=>e=.returned (.bool true)∧Below w.heap.size w w':=by
 refine (h.calls w _ vs (fun b hb=>hb) hv).mono ?_;rintro e w' ⟨v,rfl,hb,hr⟩;have hr' : Rd w' _ v (.bool true):=hr;rw [hr'.bool_inv];exact ⟨rfl,hb⟩
theorem zc1 {c:Ctx} {fn:Func} {t:List (Nat×FV)} {ob:List (Nat×zq)} {d id ver n E sz:Nat} {es es' : List (List FV)} (hr:fn.results.toList=[.tmp d]) (h:look .undef t d=.own id ver 0 n) (hb:look {} ob id=⟨ver,.own,E,sz,es⟩) (hn:n=es.length) (hp:0<sz) (e:es=es')
  (hf:∀ e∈es',FV.flat.flats e=true):Ret c fn ⟨t,ob⟩ (.ow E sz) (.list sz es'):=by
 subst e;have hb' : (⟨t,ob⟩:FSt).ob id=⟨ver,.own,E,sz,es⟩:=hb;have:=Ret.ow (c:=c) (fn:=fn) (s:=⟨t,ob⟩) hr h (by rw [hb']) (by rw [hb']) (by rw [hb'];exact hn) (by rw [hb'];exact hp) (by rw [hb'];exact hf);rw [hb'] at this;exact this
theorem zF {c:Ctx} {fn:Func} {s:FSt} {d:Nat} {f f' : FV} (hr:fn.results.toList=[.tmp d]) (h:s.get d=f) (e:f=f') (hf:f'.flat=true):Ret c fn s .fr f':=by
 subst e;exact .flat (fs:=[f]) (by rw [hr];exact .cons (.tmp d h (FV.flat_hand hf)) .nil) rfl hf
theorem Typ.flatsM {α:Type} {sz:Nat} {vals:α→List Value} {fv:α→List FV} (T:Typ sz vals fv) (l:List α):∀ e∈l.map fv,FV.flat.flats e=true:=fun e he=>by
 obtain ⟨x,_,rfl⟩:=List.mem_map.1 he;exact T.flat x
theorem zL {c:Ctx} {t:List (Nat×FV)} {ob:List (Nat×zq)} {d T id ver E sz by_:Nat} {kk:TK} {z cs:List FV} {lf:yf} (h:look .undef t d=.ptr id ver 0 0) (hb:look {} ob id=⟨ver,lf,E,sz,[cs]⟩) (hl:lf.row=true) (hT:c.ty T=⟨kk,sz,by_,z⟩) (hk:kk.agg? = some true)
  (hlen:cs.length=sz) (hp:0<sz):znz c ⟨t,ob⟩ (.cell d T) (.agg cs):=by
 have hb' : (⟨t,ob⟩:FSt).ob id=⟨ver,lf,E,sz,[cs]⟩:=hb;have hk' : (c.ty T).k.agg? = some true:=by rw [hT];exact hk
 have:=znz.cell (c:=c) (s:=⟨t,ob⟩) d T hk' h (zR hb (yf.row_ne hl)) (by rw [hb'];exact hl) (by rw [hb'];exact Nat.zero_lt_one) (by rw [hb',hT];simp) (by rw [hb'];exact hp);rw [hb'] at this;unfold Yj at this;rw [hk'] at this;dsimp only at this;rw [hT,List.drop_zero] at this;simpa [List.take_of_length_le (Nat.le_of_eq hlen)] using this
end
section
open Go.Shelf
def zoZ:Go.Shelf.Ren:=
{
 f:=fun x=>
  match x with
  | 189 => 75
  | 125 => 87
  | 257 => 86
  | 128 => 99
  | 129 => 100
  | 294 => 90
  | 295 => 91
  | 296 => 92
  | 297 => 93
  | 298 => 94
  | 299 => 95
  | 216 => 96
  | 300 => 97
  | 301 => 98
  | 328 => 103
  | 329 => 104
  | 330 => 105
  | 331 => 106
  | 332 => 107
  | 215 => 108
  | 343 => 109
  | n => n,
 t:=fun x=>
  match x with
  | 28 => 22
  | 3 => 3
  | 46 => 132
  | 0 => 0
  | 51 => 145
  | 53 => 147
  | 4 => 4
  | 183 => 139
  | 182 => 138
  | 131 => 90
  | 5 => 5
  | 9 => 9
  | 218 => 152
  | 222 => 156
  | 228 => 158
  | 229 => 159
  | n => n,
 g:=fun x=>
  have n:=x;
  n }
theorem zkW:Lays.n189 Try.prog zoZ where
 mixed:=by kernel_rfl
 f125:=by kernel_rfl
 f128:=by kernel_rfl
 f129:=by kernel_rfl
 f189:=by kernel_rfl
 f215:=by kernel_rfl
 f216:=by kernel_rfl
 f257:=by kernel_rfl
 f294:=by kernel_rfl
 f295:=by kernel_rfl
 f296:=by kernel_rfl
 f297:=by kernel_rfl
 f298:=by kernel_rfl
 f299:=by kernel_rfl
 f300:=by kernel_rfl
 f301:=by kernel_rfl
 f328:=by kernel_rfl
 f329:=by kernel_rfl
 f330:=by kernel_rfl
 f331:=by kernel_rfl
 f332:=by kernel_rfl
 f343:=by kernel_rfl
 t0:=by kernel_rfl
 a0:=fun _=>by kernel_rfl
 z0:=fun _=>by kernel_rfl
 v0:=fun _=>by kernel_rfl
 t3:=by kernel_rfl
 a3:=fun _=>by kernel_rfl
 z3:=fun _=>by kernel_rfl
 v3:=fun _=>by kernel_rfl
 t4:=by kernel_rfl
 a4:=fun _=>by kernel_rfl
 z4:=fun _=>by kernel_rfl
 v4:=fun _=>by kernel_rfl
 t5:=by kernel_rfl
 a5:=fun _=>by kernel_rfl
 z5:=fun _=>by kernel_rfl
 v5:=fun _=>by kernel_rfl
 t9:=by kernel_rfl
 a9:=fun _=>by kernel_rfl
 z9:=fun _=>by kernel_rfl
 v9:=fun _=>by kernel_rfl
 t28:=by kernel_rfl
 a28:=fun _=>by kernel_rfl
 z28:=fun _=>by kernel_rfl
 v28:=fun _=>by kernel_rfl
 t46:=by kernel_rfl
 a46:=fun _=>by kernel_rfl
 z46:=fun _=>by kernel_rfl
 v46:=fun _=>by kernel_rfl
 t51:=by kernel_rfl
 a51:=fun _=>by kernel_rfl
 z51:=fun _=>by kernel_rfl
 v51:=fun _=>by kernel_rfl
 t53:=by kernel_rfl
 a53:=fun _=>by kernel_rfl
 z53:=fun _=>by kernel_rfl
 v53:=fun _=>by kernel_rfl
 t131:=by kernel_rfl
 a131:=fun _=>by kernel_rfl
 z131:=fun _=>by kernel_rfl
 v131:=fun _=>by kernel_rfl
 t182:=by kernel_rfl
 a182:=fun _=>by kernel_rfl
 z182:=fun _=>by kernel_rfl
 v182:=fun _=>by kernel_rfl
 t183:=by kernel_rfl
 a183:=fun _=>by kernel_rfl
 z183:=fun _=>by kernel_rfl
 v183:=fun _=>by kernel_rfl
 t218:=by kernel_rfl
 a218:=fun _=>by kernel_rfl
 z218:=fun _=>by kernel_rfl
 v218:=fun _=>by kernel_rfl
 t222:=by kernel_rfl
 a222:=fun _=>by kernel_rfl
 z222:=fun _=>by kernel_rfl
 v222:=fun _=>by kernel_rfl
 t228:=by kernel_rfl
 a228:=fun _=>by kernel_rfl
 z228:=fun _=>by kernel_rfl
 v228:=fun _=>by kernel_rfl
 t229:=by kernel_rfl
 a229:=fun _=>by kernel_rfl
 z229:=fun _=>by kernel_rfl
 v229:=fun _=>by kernel_rfl
def zpq:Go.Shelf.Ren:=
{
 f:=fun x=>
  match x with
  | 20 => 76
  | n => n,
 t:=fun x=>
  match x with
  | 22 => 22
  | 3 => 3
  | 4 => 4
  | 0 => 0
  | n => n,
 g:=fun x=>
  have n:=x;
  n }
theorem znq:Lays2.n20 Try.prog zpq where
 mixed:=by kernel_rfl
 f20:=by kernel_rfl
 t0:=by kernel_rfl
 a0:=fun _=>by kernel_rfl
 z0:=fun _=>by kernel_rfl
 v0:=fun _=>by kernel_rfl
 t3:=by kernel_rfl
 a3:=fun _=>by kernel_rfl
 z3:=fun _=>by kernel_rfl
 v3:=fun _=>by kernel_rfl
 t4:=by kernel_rfl
 a4:=fun _=>by kernel_rfl
 z4:=fun _=>by kernel_rfl
 v4:=fun _=>by kernel_rfl
 t22:=by kernel_rfl
 a22:=fun _=>by kernel_rfl
 z22:=fun _=>by kernel_rfl
 v22:=fun _=>by kernel_rfl
 i3:=by kernel_rfl
end
section
open Go.RowKit Go.Sort
theorem zbi {w:World} {n b E:Nat} {cur:Array Value} {ys:List Int} {os:Array Obj} (hb:w.heap[b]? = some (.cells cur E (0,0))) (hlen:ys.length≤cur.size) :
  w.grownBy (Go.Sort.grow (putRow (Value.int .i64) (Sort.ahead w n) b 0 ys.toArray) os) (some b)∧
   ∃ cur',(Go.Sort.grow (putRow (Value.int .i64) (Sort.ahead w n) b 0 ys.toArray) os).heap[b]? = some (.cells cur' E (0,0))∧cur'.size=cur.size∧∀ m,m≤ys.length→cur'.toList.take m=(ys.take m).map (Value.int .i64):=by
 have hlt:b<w.heap.size:=(Array.getElem?_eq_some_iff.1 hb).1;have hsz:(putRow (Value.int .i64) (Sort.ahead w n) b 0 ys.toArray).heap.size=w.heap.size:=by simp
 refine ⟨⟨rfl,rfl,rfl,by simp,fun k hk hne=>?_⟩,putCells (Value.int .i64) 0 ys.toArray cur,?_,by simp [putCells],fun m hm=>?_⟩
 ·rw [heap_grow_old _ _ (by rw [hsz];exact hk)];simp only [putRow,mapBlock,Array.getElem?_modify,heap_ahead];rw [if_neg (fun e=>hne (by rw [e]))]
 ·rw [heap_grow_old _ _ (by rw [hsz];exact hlt)];simp only [putRow,mapBlock,Array.getElem?_modify,heap_ahead,hb,if_true,Option.map_some,onCells]
 ·apply List.ext_getElem
  ·simp [putCells];omega
  ·intro i h1 h2;have hi:i<m:=by simp at h1;omega
   have hi2:i<ys.length:=by omega
   simp [putCells,hi2]
section
variable {N:Nat} {w0 w:World} {J:JJ} {s s' : FSt} {a:Act} {β:Nat→Option Nat}
theorem zdI (h:FR N w0 J s a w β) {id ver E b:Nat} {zs:List Int} (hob:s.ob id=⟨ver,.own,E,1,zs.map zD⟩) (hb:β id=some b) :
  ∃ cur cap,w.heap[b]? = some (.cells cur E (0,0))∧zs.length≤cap∧cap≤maxLen∧cur.size=cap∧w0.heap.size≤b∧b<w.heap.size∧cur.toList.take zs.length=zs.map (Value.int .i64):=by
 have hl:(s.ob id).life≠.dead:=by rw [hob];exact (by decide:yf.own≠.dead)
 have hO:=(h.obj id hl).rowR (by rw [hob];rfl);have hlt:=(h.obj id hl).lt hb;obtain ⟨v,us,r1,r2,r3⟩:=hO.row;rw [hob] at r1 r3;dsimp only at r1 r3;rcases r1.2 with ⟨rfl,_⟩|⟨g',cap,cur,rfl,_,hgg,hn,hm,hcs,htk⟩
 ·rw [← r2] at hb;simp [Value.ownBlock] at hb
 ·have hgb:g'=b:=by rw [← r2] at hb;simpa [Value.ownBlock] using hb
  subst hgb;have:=zfc.flatInv w _ zs us r3;refine ⟨cur,cap,hgg,by simpa using hn,hm,by simpa using hcs,hlt.1,hlt.2,?_⟩;rw [List.length_map,Nat.mul_one] at htk;rw [htk,this,Zk]
theorem zcB {id b E:Nat} {cur:Array Value} {zs:List Int} (hb:w.heap[b]? = some (.cells cur E (0,0))) (ht:cur.toList.take zs.length=zs.map (Value.int .i64)):Holds (Value.int .i64) w b 0 zs.toArray:=by
 intro j hj;have hj' : j<zs.length:=by simpa using hj
 have hjc:(cur.toList.take zs.length)[j]? = some (Value.int .i64 zs[j]):=by rw [ht];simp [hj']
 rw [List.getElem?_take,if_pos hj'] at hjc;refine ⟨?_,?_⟩
 ·simp only [World.cell?,hb,Nat.zero_add];rw [← Array.getElem?_toList];simp [hjc,hj']
 ·simp [World.frozen?,hb]
theorem FR.reput (h:FR N w0 J s a w β) {id ver E b n:Nat} {zs ys:List Int} {os:Array Obj} (hob:s.ob id=⟨ver,.own,E,1,zs.map zD⟩) (hb:β id=some b) (hl:ys.length=zs.length)
  (hs:∀ k,s'.ob k=if id=k then ⟨ver,.own,E,1,ys.map zD⟩ else s.ob k) (hst:∀ k,s'.get k=s.get k):FR N w0 J s' a (Go.Sort.grow (putRow (Value.int .i64) (Sort.ahead w n) b 0 ys.toArray) os) β:=by
 obtain ⟨cur,cap,h1,h2,h3,h4,h5,h6,h7⟩:=zdI h hob hb;obtain ⟨hg,cur',g1,g2,g3⟩:=zbi (n:=n) (ys:=ys) (os:=os) h1 za;have hobE:(s.ob id).E=E:=by rw [hob]
 have hobs:(s.ob id).sz=1:=by rw [hob]
 have hobe:(s.ob id).es=zs.map zD:=by rw [hob]
 refine h.write id (es:=ys.map zD) (v:=.slice (some ⟨b,0,none⟩) ys.length cap) (xs:=flat XD ys) (by rw [hob]) (by rw [hb];exact hg) (by rw [hobs];exact zfc.wideM ys) (zfc.oneM ys) ?_ (by rw [hb];rfl) (zfc.flatRd w _ ys) (by rw [hobe];simpa using hl) ?_ (fun k=>?_) hst
 ·rw [hobE,hobs];refine ⟨by rw [Zk];simp,.inr ⟨b,cap,cur',by simp,h5,g1,by rw [List.length_map];omega,h3,by omega,?_⟩⟩;rw [List.length_map,Nat.mul_one,g3 _ (Nat.le_refl _),List.take_length,Zk]
 ·intro b' c1 c2 e1 e2 e3;rw [hb] at e1;injection e1 with e1
  subst e1;rw [hobE] at e2 e3;rw [h1] at e2;rw [g1] at e3;injection e2 with e2;injection e2 with e2 _ _
  injection e3 with e3;injection e3 with e3 _ _
  rw [← e2,← e3,g2]
 ·rw [hs,hob]
theorem FR.recut (h:FR N w0 J s a w β) {id ver E b n k:Nat} {zs ys:List Int} {os:Array Obj} (hob:s.ob id=⟨ver,.own,E,1,zs.map zD⟩) (hb:β id=some b) (hl:ys.length=zs.length) (hk:k≤ys.length)
  (hs:∀ i,s'.ob i=if id=i then ⟨ver+1,.own,E,1,(ys.take k).map zD⟩ else s.ob i) (hst:∀ k,s'.get k=s.get k) :
  ∃ β',FR N w0 J s' a (Go.Sort.grow (putRow (Value.int .i64) (Sort.ahead w n) b 0 ys.toArray) os) β'∧β' id=some b:=by
 obtain ⟨cur,cap,h1,h2,h3,h4,h5,h6,h7⟩:=zdI h hob hb;obtain ⟨hg,cur',g1,g2,g3⟩:=zbi (n:=n) (ys:=ys) (os:=os) h1 za;refine ⟨_,h.make (some id) id (E:=E) (sz:=1) (es:=(ys.take k).map zD) (v:=.slice (some ⟨b,0,none⟩) k cap) (xs:=flat XD (ys.take k)) (fun i e=>by injection e with e;subst e;rw [hob];rfl) (by simpa [hb] using hg) (zfc.wideM _) (zfc.oneM _) ?_ (zfc.flatRd w _ _)
  (.inl (by simp [hb,Value.ownBlock])) (fun i=>?_) hst,by simp [XV,Value.ownBlock]⟩
 ·have hlen:(ys.take k).length=k:=by rw [List.length_take];omega
  refine ⟨by rw [Zk];simp,.inr ⟨b,cap,cur',by rw [List.length_map,hlen],h5,g1,by rw [List.length_map,hlen];omega,h3,by omega,?_⟩⟩;rw [List.length_map,hlen,Nat.mul_one,g3 k hk,Zk]
 ·rw [hs,hob];by_cases e:id=i
  ·subst e;simp
  ·rw [if_neg e,if_neg e,if_neg (by intro e2;injection e2 with e2;exact e e2)]
end
theorem zex (n:Int) (h0:0≤n) (h1:n≤18446744073709551615):zX Try.prog 87 [.int .u64 n] .fr (.int .i64 (Lib.bitLen n.toNat)) where
 go:=by kernel_rfl
 hand:=rfl
 calls w I vs hI hv:=by
  obtain ⟨_,rfl,e1⟩:=hv.inv1;rw [e1.int_inv];refine (calls_of_every_depth fun D=>AnyS.bits_LenIn { zkW with } D n w h0 h1).mono ?_;rintro e w' ⟨rfl,rfl⟩;exact ⟨_,rfl,Below.refl _ _,.int _ _⟩
theorem zdH:zX Try.prog 90 [.list 1 [],.int .i64 0,.int .i64 0] .fr (.tup []):=by
 refine zX.of_body (c:=(xx Try.prog zE zt 49)) ⟨Try.func90,rfl,Try.ntmps90,by kernel_rfl⟩ zH zw rfl ?_;change FW _ _ _ ⟨[(0,.list 1 []),(1,.int .i64 0),(2,.int .i64 0)],[]⟩;refine zb ?_;refine FW.loop (fun _:Unit=>⟨[(2,.int .i64 0),(6,.int .i64 1)],[]⟩) (fun _=>True) (fun _=>0) () trivial (FLe.cv [] zB zd) ?_;intro _ _;refine zb ?_;exact ⟨.inr rfl,.flat .nil rfl rfl⟩
theorem zld (n:Int):zX Try.prog 86 [.list 1 [],.int .i64 0,.int .i64 0,.int .i64 n] .fr (.tup []):=by
 refine zX.of_body (c:=(xx Try.prog zE zt 134)) ⟨Try.func86,rfl,Try.ntmps86,by kernel_rfl⟩ zH zw rfl ?_;change FW _ _ _ ⟨[(0,.list 1 []),(1,.int .i64 0),(2,.int .i64 0),(3,.int .i64 n)],[]⟩;refine zb ?_;refine FW.loop (fun _:Unit=>⟨[(0,.list 1 []),(1,.int .i64 0),(2,.int .i64 0)],[]⟩) (fun _=>True) (fun _=>0) () trivial (FLe.cv [] zB zd) ?_;intro _ _;refine zb ?_;refine zS zdH (by repeat (first|exact zu.nil|refine zu.cons zm ?_)) rfl rfl ?_;refine zb ?_;exact FW.ret ⟨.inl rfl,.flat .nil rfl rfl⟩
theorem zjP:zX Try.prog 75 [.list 1 []] .fr (.tup []):=by
 refine zX.of_body (c:=(xx Try.prog zE zt 11)) ⟨Try.func75,rfl,Try.ntmps75,by kernel_rfl⟩ zH zw rfl ?_;change FW _ _ _ ⟨[(0,.list 1 [])],[]⟩;refine zb ?_;refine zS (zex 0 zg zg) (by repeat (first|exact zu.nil|refine zu.cons zm ?_)) rfl rfl ?_;skip;refine zS (zld _) (by repeat (first|exact zu.nil|refine zu.cons zm ?_)) rfl rfl ?_;refine zb ?_;exact ⟨.inr rfl,.flat .nil rfl rfl⟩
theorem zbM (t:List (Nat×FV)) (args:List FV) (k:Nat) (b b' : zq) (i:Nat):(⟨t,[(k,b')]⟩:FSt).ob i=if k=i then b' else (yu args [(k,b)]).ob i:=by
 show look ({}:zq) [(k,b')] i=if k=i then b' else look ({}:zq) [(k,b)] i
 rw [zI,zI];split <;> rfl
theorem zlS {N:Nat} {w0 w:World} {J:JJ} {s:FSt} {a:Act} {β:Nat→Option Nat} (h:FR N w0 J s a w β) {id ver E:Nat} {zs:List Int} (hob:s.ob id=⟨ver,.own,E,1,zs.map zD⟩) (hb:β id=none):zs=[]:=by
 have hO:=(h.obj id (by rw [hob];exact (by decide:yf.own≠.dead))).rowR (by rw [hob];rfl);obtain ⟨v,us,r1,r2,r3⟩:=hO.row;rw [hob] at r1;dsimp only at r1;rcases r1.2 with ⟨rfl,h0⟩|⟨g',cap,cur,rfl,_⟩
 ·simpa using h0
 ·rw [hb] at r2;simp [Value.ownBlock] at r2
theorem XE {v:Nat} {b:zq} {res:FV} {o:Nat→zq} {k:Nat} (hr:res.cl [k]=true) (hl:(o k).life=.own) (hs:(o k).sz=b.sz) (hb:b.life=.own):YV [(k,b)] [] res o where
 old q hq _:=by
  obtain rfl:q=k:=by simpa using hq
  exact ⟨by rw [hl];rfl,by rw [hs,zI,if_pos rfl],by rw [hl,zI,if_pos rfl,hb]⟩
 new q hq:=by cases hq
 cl q hq:=by
  obtain rfl:q=k:=by simpa using hq
  unfold zq.cl;rw [hl]
 res:=hr
theorem zjQ (v:Nat) (zs:List Int) (hz:zs.length<4611686018427387904):yD Try.prog 75 [.own 5000 v 0 zs.length] [(5000,⟨v,.own,3,1,zs.map zD⟩)] []
  (fun res o=>res=.tup []∧o 5000=⟨v,.own,3,1,(zs.mergeSort fun x y=>decide (x≤y)).map zD⟩) where
 go:=by kernel_rfl
 post res o h:=by obtain ⟨rfl,h⟩:=h;exact XE (v:=v) rfl (by rw [h]) (by rw [h]) rfl
 calls w0 J w β vs hF:=by
  obtain ⟨v0,rfl⟩:∃ v0,vs=[v0]:=by
   have:=hF.size
   match vs,this with
   | [v0], _ => exact ⟨v0, rfl⟩
  have hob:(yu [.own 5000 v 0 zs.length] [(5000,⟨v,.own,3,1,zs.map zD⟩)]).ob 5000=⟨v,.own,3,1,zs.map zD⟩:=rfl;have h0:=hF.slot 0;have hO:Wv w (β 5000) _ v0 0 zs.length:=h0 (by rw [hob];exact (by decide:yf.own≠.dead)) rfl;obtain ⟨A,c,e1,e2,e3,e4,e5⟩:=hO.ex;subst e1;cases hb:β 5000 with
  | none =>
   obtain rfl:=zlS hF hob hb;obtain ⟨rfl,rfl⟩:=e4 hb;refine (zjP.calls w (fun _=>False) [.slice none 0 0] (fun b h=>h.elim) (RdL.cons (.list none 0 0 1 [] [] rfl (Nat.le_refl _) zc zc zc zc zc) .nil)).mono ?_;rintro e w' ⟨v1,rfl,hB,hr⟩;have hG:=hF.grow hB;refine ⟨v1,.tup [],_,β,rfl,⟨rfl,by simp [look]⟩,hG.slots rfl hF.defers fun d=>?_⟩;cases d with
   | zero => exact VR.plain (hr.flat rfl _ _) rfl
   | succ d => exact VR.plain (.undef _) rfl
  | some b =>
   obtain ⟨o',rfl,k2,k3⟩:=e5 b hb;have ho':=k2 (.inr rfl);have:o'=0:=by rw [ho'];exact Nat.zero_mul _
   subst this;obtain ⟨cur,cap,q1,q2,q3,q4,q5,q6,q7⟩:=zdI hF hob hb;refine (Any.slices_Sort_int zkW b 0 c zs w (zcB (id:=0) q1 q7) q6 hz).mono ?_;rintro e w' ⟨rfl,n,os,rfl⟩;have hlen:(zs.mergeSort fun x y=>decide (x≤y)).length=zs.length:=List.length_mergeSort zs;have hR:=hF.reput (n:=n) (os:=os) (s':=⟨(yu [.own 5000 v 0 zs.length] [(5000,⟨v,.own,3,1,zs.map zD⟩)]).t,[(5000,⟨v,.own,3,1,(zs.mergeSort fun x y=>decide (x≤y)).map zD⟩)]⟩) hob hb hlen (fun k=>zbM _ _ _ _ _ k) (fun k=>rfl);refine ⟨.tuple #[],.tup [],_,β,rfl,⟨rfl,rfl⟩,hR.slots rfl hF.defers fun d=>?_⟩;cases d with
   | zero => exact VR.plain (.tup [] [] rfl zc) rfl
   | succ d => exact VR.plain (.undef _) rfl
theorem zdt (v:Nat) (zs:List Int) (hz:zs.length≤9223372036854775807):yD Try.prog 76 [.own 5000 v 0 zs.length] [(5000,⟨v,.own,3,1,zs.map zD⟩)] []
  (fun res o=>res=.own 5000 (v+1) 0 (Lib.compact zs).length∧o 5000=⟨v+1,.own,3,1,(Lib.compact zs).map zD⟩) where
 go:=by kernel_rfl
 post res o h:=by obtain ⟨rfl,h⟩:=h;exact XE (v:=v) rfl (by rw [h]) (by rw [h]) rfl
 calls w0 J w β vs hF:=by
  obtain ⟨v0,rfl⟩:∃ v0,vs=[v0]:=by
   have:=hF.size
   match vs,this with
   | [v0], _ => exact ⟨v0, rfl⟩
  have hob:(yu [.own 5000 v 0 zs.length] [(5000,⟨v,.own,3,1,zs.map zD⟩)]).ob 5000=⟨v,.own,3,1,zs.map zD⟩:=rfl;have h0:=hF.slot 0;have hO:Wv w (β 5000) _ v0 0 zs.length:=h0 (by rw [hob];exact (by decide:yf.own≠.dead)) rfl;obtain ⟨A,c,e1,e2,e3,e4,e5⟩:=hO.ex;subst e1;cases hb:β 5000 with
  | none=>
   obtain rfl:=zlS hF hob hb;obtain ⟨rfl,rfl⟩:=e4 hb;refine (Any.slices_Compact_int_empty znq none 0 w).mono ?_;rintro e w' ⟨rfl,rfl⟩;have hR:=hF.make (some 5000) 5000 (E:=3) (sz:=1) (es:=[]) (v:=.slice none 0 0) (xs:=[]) (s':=⟨(yu [.own 5000 v 0 ([]:List Int).length] [(5000,⟨v,.own,3,1,([]:List Int).map zD⟩)]).t,[(5000,⟨v+1,.own,3,1,[]⟩)]⟩)
    (fun i e=>by injection e with e;subst e;rfl) ⟨rfl,rfl,rfl,Nat.le_refl _,fun _ _ _=>rfl⟩ zc zc (World.ownsRow_nil _ _ _ _) RdL.nil (.inl hb.symm) (fun k=>by
     refine (zbM _ [.own 5000 v 0 ([]:List Int).length] 5000 ⟨v,.own,3,1,([]:List Int).map zD⟩ _ k).trans ?_;by_cases e:5000=k
     ·rw [if_pos e,if_pos e];rfl
     ·rw [if_neg e,if_neg e,if_neg (by intro e2;injection e2 with e2;exact e e2)]) (fun k=>rfl)
   refine ⟨.slice none 0 0,.own 5000 (v+1) 0 0,_,_,rfl,⟨rfl,rfl⟩,hR.slots rfl hF.defers fun d=>?_⟩;cases d with
   | zero =>
    refine ⟨fun _ _=>⟨rfl,none,0,rfl,Nat.le_refl _,by simp,fun _=>⟨rfl,rfl⟩,fun b2 e=>by simp [XV,Value.ownBlock] at e⟩,fun id ver hm=>?_⟩;have hm':=List.mem_singleton.1 hm;injection hm' with m1 m2
    subst m1;subst m2;exact Nat.le_refl _
   | succ d => exact VR.plain (.undef _) rfl
  | some b=>
   obtain ⟨o',rfl,k2,k3⟩:=e5 b hb;have ho':=k2 (.inr rfl);have:o'=0:=by rw [ho'];exact Nat.zero_mul _
   subst this;obtain ⟨cur,cap,q1,q2,q3,q4,q5,q6,q7⟩:=zdI hF hob hb;refine (Any.slices_Compact_int znq b 0 c zs w (zcB (id:=0) q1 q7) hz e2).mono ?_;rintro e w' ⟨rfl,n,rfl⟩;have hle:(Lib.compact zs).length≤zs.length:=by
    unfold Lib.compact Lib.compactUpTo;rw [List.length_map];exact Nat.le_trans (List.length_filter_le _ _) zc
   have hlen:(Lib.compact zs++List.replicate (zs.length - (Lib.compact zs).length) 0).length=zs.length:=by simp;omega
   obtain ⟨β',hR,hb'⟩:=hF.recut (n:=n) (os:=#[]) (k:=(Lib.compact zs).length) (s':=⟨(yu [.own 5000 v 0 zs.length] [(5000,⟨v,.own,3,1,zs.map zD⟩)]).t,[(5000,⟨v+1,.own,3,1,(Lib.compact zs).map zD⟩)]⟩) hob hb hlen zc (fun k=>by
    rw [List.take_left];exact zbM _ _ _ _ _ k) (fun k=>rfl)
   rw [grow_empty] at hR;have hcs:cur.size=(0+c) * 1:=k3 cur q1;refine ⟨.slice (some ⟨b,0,none⟩) (Lib.compact zs).length c,.own 5000 (v+1) 0 (Lib.compact zs).length,_,β',rfl,⟨rfl,rfl⟩,hR.slots rfl hF.defers fun d=>?_⟩;cases d with
   | zero=>
    refine ⟨fun _ _=>⟨rfl,some ⟨b,0,none⟩,c,rfl,by omega,?_,fun e=>?_,fun b2 e=>?_⟩,fun id ver hm=>?_⟩
    ·show 0+(Lib.compact zs).length≤((Lib.compact zs).map zD).length;simp
    ·rw [hb'] at e;cases e
    ·rw [hb'] at e;injection e with e
     subst e;refine ⟨0,rfl,fun _=>by simp,fun cur2 hc2=>?_⟩;obtain ⟨_,cur',g1,g2,_⟩:=zbi (w:=w) (n:=n) (ys:=Lib.compact zs++List.replicate (zs.length - (Lib.compact zs).length) 0) (os:=#[]) q1 (by rw [hlen];omega);rw [grow_empty] at g1;have hc2' : (putRow (Value.int .i64) (Sort.ahead w n) b 0 (Lib.compact zs++List.replicate (zs.length - (Lib.compact zs).length) 0).toArray).heap[b]? = some (.cells cur2 3 (0,0)):=hc2;rw [g1] at hc2';injection hc2' with hc2'
     injection hc2' with hc2' _ _
     rw [← hc2',g2];exact hcs
    ·have hm':=List.mem_singleton.1 hm;injection hm' with m1 m2
     subst m1;subst m2;exact Nat.le_refl _
   | succ d => exact VR.plain (.undef _) rfl
end
theorem WS {l:List OpV}:∀ {k:Nat} {p:Int} {o:OpV},xb l k p=some o→∃ m,m<k∧nth l m=o∧o.p=p
 | 0, _, _, h => by simp [xb] at h
 | k+1,p,o,h=>by
  simp only [xb] at h;split at h
  ·rename_i hp;injection h with h
   exact ⟨k,by omega,h,by rw [← h,hp]⟩
  ·obtain ⟨m,h1,h2⟩:=WS h;exact ⟨m,by omega,h2⟩
theorem UZ {l:List OpV} {k:Nat} {f:OpV→Bool} (h:(l.take k).any f=true):∃ m,m<k∧m<l.length∧f (nth l m)=true:=by
 obtain ⟨o,ho,hf⟩:=List.any_eq_true.1 h;obtain ⟨m,hm,rfl⟩:=List.getElem_of_mem ho;have hm' : m<k∧m<l.length:=by simp at hm;omega
 refine ⟨m,hm'.1,hm'.2,?_⟩;rw [nth_eq hm'.2];simpa using hf
theorem XB {l:List OpV}:∀ (n k:Nat),(∀ j,k≤j→j<k+n→zdB l j=0)→ym l k n=0
 | 0, _, _ => rfl
 | n+1, k, h => by
  rw [Vr (h k (Nat.le_refl _) za)];exact XB n (k+1) fun j h1 h2=>h j za za
theorem zfG {k:Nat} {f:Nat→Bool}:(List.range k).any f=true↔∃ j,j<k∧f j=true:=by
 rw [List.any_eq_true];constructor
 ·rintro ⟨j,hj,h⟩;exact ⟨j,by simpa using hj,h⟩
 ·rintro ⟨j,hj,h⟩;exact ⟨j,by simpa using hj,h⟩
theorem zic {l:List OpV} {k:Nat} {f:OpV→Bool} (hk:k≤l.length):(l.take k).any f=true↔∃ j,j<k∧f (nth l j)=true:=by
 constructor
 ·intro h;obtain ⟨m,h1,_,h3⟩:=UZ h;exact ⟨m,h1,h3⟩
 ·rintro ⟨j,hj,h⟩;refine List.any_eq_true.2 ⟨nth l j,?_,h⟩;rw [nth_eq za];exact List.mem_take_iff_getElem.2 ⟨j,by omega,rfl⟩
theorem znE {l:List OpV} {f:OpV→Bool}:l.any f=true↔∃ j,j<l.length∧f (nth l j)=true:=by
 have:=zic (l:=l) (k:=l.length) (f:=f) (Nat.le_refl _);rwa [List.take_length] at this
section
open Go.RowKit
def ZP (n most:Int):Int:=(if n<0 then -(n+1) else n) % most
theorem zau {n most:Int} (h:0<most):0≤ZP n most:=Int.emod_nonneg _ za
theorem zat {n most:Int} (h:0<most):ZP n most<most:=Int.emod_lt_of_pos _ h
theorem ZL (n most:Int) (w:World) (hn:I64 n) (h1:1≤most) (h2:most≤4611686018427387904) :
  Calls Try.prog 14 #[.int .i64 n,.int .i64 most] w fun e w'=>e=.returned (.int .i64 (ZP n most))∧w=w':=by
 unfold I64 at hn;obtain ⟨g1,g2⟩:=hn;by_cases hneg:n<0
 ·have e:ZP n most=(-(n+1)) % most:=by simp [ZP,hneg]
  rw [e];clear e
  go_enter Try.func14,Try.ntmps14
  go_wp2
  go_ret
  have e2:-(n+1).tmod most=(-(n+1)) % most:=by rw [← Int.neg_tmod,Int.tmod_eq_emod_of_nonneg za]
  exact ⟨by simp [e2],rfl⟩
 ·have e:ZP n most=n % most:=by simp [ZP,hneg]
  rw [e];clear e
  go_enter Try.func14,Try.ntmps14
  go_wp2
  go_ret
  exact ⟨rfl,rfl⟩
theorem zgE (l:List OpV) (hin:∀ o∈l,Ve o) (hlen:l.length≤1000000000):zX Try.prog 54 [.list 8 (l.map OpV.fv)] .fr (.int .i64 (xv l)) where
 go:=by kernel_rfl
 hand:=rfl
 calls w I vs hI hv:=by
  obtain ⟨_,rfl,e1⟩:=hv.inv1;obtain ⟨A,c,rfl,_,hs⟩:=opT.of e1 hI;refine (ziP A c l w hs hin hlen).mono ?_;rintro e w' ⟨rfl,hb⟩;exact ⟨_,rfl,hb,.int _ _⟩
end
end Go.Proofs.Ytmnmakhpjgjdaaa
