/-
  Lemmas, in parts.
-/
import Derived.Test.YtphidhljdcledaaGreatZA
import Derived.Test.YtphidhljdcledaaGreatProg
import Derived.KernelRfl
import Derived.Maps.OwnSet
import Derived.DeepKeys4
import Derived.Deep.RegionHeld3
import Derived.Deep.DrawnRows
import Derived.Deep.DeepCutAuto
import Derived.Test.YtphidhljdcledaaGreatZBxxx
import Derived.Test.YtphidhljdcledaaGreatZC
import Derived.Test.YtphidhljdcledaaGreatChecked
import Derived.Shelf.Sort.Plain
import Derived.Shelf.Slices.CompactI
import Derived.ProofKit
import Derived.OpenShut
import Derived.ShutString
import Derived.ChangeOld
import Derived.Below
import Derived.Deep.Slices
import Derived.Deep.Fields
import Derived.ChangeSame
import Derived.Test.YtphidhljdcledaaGreatZFmM
import Derived.Maps.Keyed
namespace Go.Proofs.YtphidhljdcledaaGreat
set_option linter.unusedVariables false
set_option maxHeartbeats 16000000
variable {B E d i n sz ae:Nat} {l rest:List Oper} {w:World} {κ:Type} {v z:Value} {ops:Array Oper} {o:Oper} {a:Act} {Q:Exit→Act→World→Prop} {X az x:Int} {fn:Func} {args:List FV} {c:Ctx} {I:Nat→Prop} {us vs:List Value} {f0:FV} {P:Program} {ob:List (Nat×zE)} {s:ah} {cur:Array Value} {ys zs:List Int} {os:Array Obj}
section
open Go.RowKit
structure aq where
 p:Int
 k:Int
 key:Int
 arg:Int
 res:Int
 call:Int
 ret:Int
 done:Bool
 deriving DecidableEq,Inhabited
def aq.aE (o:aq):List Value:=[.int .i64 o.p,.int .i64 o.k,.int .i64 o.key,.int .i64 o.arg,.int .i64 o.res,.int .i64 o.call,.int .i64 o.ret,.bool o.done]
theorem aq.wide:El 8 aq.aE:=fun _=>rfl
theorem aq.one (o:aq):∀ u∈o.aE,u.oneCell'=true:=by intro u hu;simp [aq.aE] at hu;rcases hu with rfl|rfl|rfl|rfl|rfl|rfl|rfl|rfl <;> rfl
def jm (x:Int):List Value:=[.int .i64 x]
theorem zsg:El 1 jm:=fun _=>rfl
section
variable {w:World} {B:Nat} {A:Option Addr}
theorem Sl.op {l:List aq} (h:Sl aq.aE w B A l) (hi:i<l.length):∃ b off,A=some ⟨b,off,none⟩∧b<B∧
  w.cell? ⟨b,off+i * 8,none⟩=some (.int .i64 (nth l i).p)∧w.cell? ⟨b,off+i * 8+1,none⟩=some (.int .i64 (nth l i).k)∧w.cell? ⟨b,off+i * 8+2,none⟩=some (.int .i64 (nth l i).key)∧
  w.cell? ⟨b,off+i * 8+3,none⟩=some (.int .i64 (nth l i).arg)∧w.cell? ⟨b,off+i * 8+4,none⟩=some (.int .i64 (nth l i).res)∧w.cell? ⟨b,off+i * 8+5,none⟩=some (.int .i64 (nth l i).call)∧
  w.cell? ⟨b,off+i * 8+6,none⟩=some (.int .i64 (nth l i).ret)∧w.cell? ⟨b,off+i * 8+7,none⟩=some (.bool (nth l i).done):=by
 obtain ⟨b,off,ha,hb,hc⟩:=h.get aq.wide hi;rw [← ak hi] at hc;exact ⟨b,off,ha,hb,hc 0 _ za rfl,hc 1 _ za rfl,hc 2 _ za rfl,hc 3 _ za rfl,hc 4 _ za rfl,hc 5 _ za rfl,hc 6 _ za rfl,hc 7 _ za rfl⟩
theorem Sl.int {l:List Int} (h:Sl jm w B A l) (hi:i<l.length):∃ b off,A=some ⟨b,off,none⟩∧b<B∧w.cell? ⟨b,off+i,none⟩=some (.int .i64 (nth l i)):=by
 obtain ⟨b,off,ha,hb,hc⟩:=h.get zsg hi;rw [← ak hi] at hc;exact ⟨b,off,ha,hb,by have:=hc 0 _ za rfl;simpa using this⟩
theorem Sl.G8 {b off:Nat} {l:List aq} (h:Sl aq.aE w B (some ⟨b,off,none⟩) l) (hi:i<l.length) :
  w.cell? ⟨b,off+i * 8,none⟩=some (.int .i64 (nth l i).p)∧w.cell? ⟨b,off+i * 8+1,none⟩=some (.int .i64 (nth l i).k)∧w.cell? ⟨b,off+i * 8+2,none⟩=some (.int .i64 (nth l i).key)∧
  w.cell? ⟨b,off+i * 8+3,none⟩=some (.int .i64 (nth l i).arg)∧w.cell? ⟨b,off+i * 8+4,none⟩=some (.int .i64 (nth l i).res)∧w.cell? ⟨b,off+i * 8+5,none⟩=some (.int .i64 (nth l i).call)∧
  w.cell? ⟨b,off+i * 8+6,none⟩=some (.int .i64 (nth l i).ret)∧w.cell? ⟨b,off+i * 8+7,none⟩=some (.bool (nth l i).done):=by
 obtain ⟨b',iG,ha,_,hc⟩:=h.op hi;injection ha with ha;injection ha with h1 h2;subst h1;subst h2
 exact hc
end
theorem Wo (l:List Int):flat jm l=l.map (Value.int .i64):=by
 induction l with
 | nil => rfl
 | cons a l ih => simp only [flat, WG, jm, zZ, HS, YQ] at *; rw [ih]
theorem cI.setInt {g:Nat} {t:TypeId} {l:List Int} (h:cI w g t (flat jm l)) (i:Nat) (x:Int):cI (w.setCell ⟨g,i,none⟩ (.int .i64 x)) g t (flat jm (l.set i x)):=by
 have:=h.su i (.int .i64 x);rw [Wo] at *;rw [xc];exact this
theorem cI.op {g:Nat} {t:TypeId} {o:aq} (h:cI w g t o.aE):w.cell? ⟨g,0,none⟩=some (.int .i64 o.p)∧w.cell? ⟨g,1,none⟩=some (.int .i64 o.k)∧w.cell? ⟨g,2,none⟩=some (.int .i64 o.key)∧
  w.cell? ⟨g,3,none⟩=some (.int .i64 o.arg)∧w.cell? ⟨g,4,none⟩=some (.int .i64 o.res)∧w.cell? ⟨g,5,none⟩=some (.int .i64 o.call)∧w.cell? ⟨g,6,none⟩=some (.int .i64 o.ret)∧w.cell? ⟨g,7,none⟩=some (.bool o.done):=
 ⟨h.cell 0,h.cell 1,h.cell 2,h.cell 3,h.cell 4,h.cell 5,h.cell 6,h.cell 7⟩
theorem zyn:L1 Tryz.prog 23 43 8 64:=⟨Tryz.underlying23,by
 obtain ⟨i,h0,h1,h2,h3⟩:=info_parts (P:=Tryz.prog) (e:=43) (z:=.agg #[.int .i64 0,.int .i64 0,.int .i64 0,.int .i64 0,.int .i64 0,.int .i64 0,.int .i64 0,.bool false]) (size:=8) (bytes:=64) zw;exact ⟨i,_,h0,h1,h2,h3,rfl⟩,by omega⟩
theorem zxB:L1 Tryz.prog 22 3 1 8:=⟨Tryz.underlying22,by
 obtain ⟨i,h0,h1,h2,h3⟩:=info_parts (P:=Tryz.prog) (e:=3) (z:=.int .i64 0) (size:=1) (bytes:=8) zw;exact ⟨i,_,h0,h1,h2,h3,rfl⟩,by omega⟩
def zyd (x y:aq):Bool:=decide (x=y)
@[go_sem] theorem aq.eta (x:aq):(⟨x.p,x.k,x.key,x.arg,x.res,x.call,x.ret,x.done⟩:aq)=x:=rfl
@[go_sem ↓] theorem I9 (w:World) (a1 a2 a3 a4 a5 a6 a7 b1 b2 b3 b4 b5 b6 b7:Int) (a8 b8:Bool):(Op.equalIn 10000 43 (.agg #[.int .i64 a1,.int .i64 a2,.int .i64 a3,.int .i64 a4,.int .i64 a5,.int .i64 a6,.int .i64 a7,.bool a8])
  (.agg #[.int .i64 b1,.int .i64 b2,.int .i64 b3,.int .i64 b4,.int .i64 b5,.int .i64 b6,.int .i64 b7,.bool b8])).run Tryz.prog w=.ok (zyd ⟨a1,a2,a3,a4,a5,a6,a7,a8⟩ ⟨b1,b2,b3,b4,b5,b6,b7,b8⟩) w:=by
 unfold zyd;have hS:Tryz.prog.underlying 43=some (.struct (Tryz.prog.fieldsOf 43)):=by kernel_rfl
 have hp:Tryz.prog.stoodInHeld 43=false:=by kernel_rfl
 rw [show (10000:Nat)=9999+1 from rfl,run_equalIn_agg w 9999 43 _ _ hS hp];simp only [Program.fieldsOf,Tryz.underlying43];simp [go_sem];by_cases h1:a1=b1
 ·by_cases h2:a2=b2
  ·by_cases h3:a3=b3
   ·by_cases h4:a4=b4
    ·by_cases h5:a5=b5
     ·by_cases h6:a6=b6
      ·by_cases h7:a7=b7
       ·by_cases h8:a8=b8 <;> simp [h1,h2,h3,h4,h5,h6,h7,h8]
       ·simp [h1,h2,h3,h4,h5,h6,h7]
      ·simp [h1,h2,h3,h4,h5,h6]
     ·simp [h1,h2,h3,h4,h5]
    ·simp [h1,h2,h3,h4]
   ·simp [h1,h2,h3]
  ·simp [h1,h2]
 ·simp [h1]
end
section
open Go.RowKit Go.Maps Go.MapKept Go.ChangeMaps
structure IN (P:Program) (k:TypeId) (κ:Type) (ek:κ→Value) (ok:κ→Prop):Prop where
 K:Keyed P k
 of:∀ x,ok x→∃ l,keyOf P k (ek x)=some l
 inj:∀ x y,ek x=ek y→x=y
def UU {κ:Type} (ek:κ→Value) (ok:κ→Prop) (w:World) (b n:Nat) (f:κ→Option Value):Prop:=
 ∃ es clock,w.heap[b]? = some (.map es clock)∧es.size≤n∧Stamped es clock∧(∀ e∈es.toList,∃ x,ok x∧e.key=ek x)∧∀ x u,f x=some u↔∃ e∈es.toList,e.key=ek x∧e.val=u
open Classical in
noncomputable def upd {κ:Type} (f:κ→Option Value) (x:κ) (u:Value):κ→Option Value:=fun y=>if y=x then some u else f y
theorem LF (f:κ→Option Value) (x:κ) (u:Value):upd f x u x=some u:=by simp [upd]
theorem KZ (f:κ→Option Value) {x y:κ} (u:Value) (h:y≠x):upd f x u y=f y:=by simp [upd,h]
section
variable {κ:Type} {ek:κ→Value} {ok:κ→Prop} {P:Program} {k:TypeId} {w w' : World} {b n:Nat} {f:κ→Option Value}
theorem UU.made (w:World):UU ek ok (w.alloc (.map #[] 0)) w.heap.size 0 (fun _=>none):=
 ⟨#[],0,heap_alloc_new w _,zg _,stamped_empty _,by simp,by simp⟩
theorem UU.lt (h:UU ek ok w b n f):b<w.heap.size:=by
 obtain ⟨es,clock,hb,_⟩:=h;exact (YL.1 hb).1
theorem UU.mono (h:UU ek ok w b n f) {n' : Nat} (hn:n≤n'):UU ek ok w b n' f:=by
 obtain ⟨es,clock,hb,hs,r⟩:=h;exact ⟨es,clock,hb,by omega,r⟩
theorem UU.jA (h:UU ek ok w b n f) (hb:w'.heap[b]? = w.heap[b]?):UU ek ok w' b n f:=by
 obtain ⟨es,clock,hh,r⟩:=h;exact ⟨es,clock,hb.trans hh,r⟩
theorem UU.drewN (h:UU ek ok w b n f) (m:Nat):UU ek ok (w.drewN m) b n f:=h
theorem UU.alloc (h:UU ek ok w b n f) (o:Obj):UU ek ok (w.alloc o) b n f:=h.jA (Lp w o b h.lt)
theorem UU.grown {row:Option Nat} (h:UU ek ok w b n f) (hg:w.grownBy w' row) (hr:some b≠row):UU ek ok w' b n f:=h.jA (hg.block b h.lt hr)
theorem UU.ext (h:UU ek ok w b n f) (hb:Below w.heap.size w w'):UU ek ok w' b n f:=h.jA (hb.block b h.lt)
theorem UU.se (h:UU ek ok w b n f) {g:Nat} {t:TypeId} {cs:List Value} (ho:cI w g t cs):b≠g:=by
 obtain ⟨es,clock,hb,_⟩:=h;rintro rfl;unfold cI at ho;rw [hb] at ho;cases ho
theorem zu6 {e t:TypeId} (T:IN P k κ ek ok) (ht:P.underlying t=some (.map k e)) (hz:(zeroValue e).run P w=.ok z w) (h:UU ek ok w b n f) (c:Bool) (x:κ) (hx:ok x) :
  (Instr.lookup t (.map (some b)) (ek x) c).run P w=.ok (if c then .tuple #[(f x).getD z,.bool (f x).isSome] else (f x).getD z) w:=by
 obtain ⟨es,clock,hb,hs,aO,mn,hf⟩:=h;obtain ⟨l,hl⟩:=T.of x hx;have eR:∀ e∈es.toList,∃ l,keyOf P k e.key=some l:=fun e he=>by
  obtain ⟨y,hy,he⟩:=mn e he;obtain ⟨l,hl⟩:=T.of y hy;exact ⟨l,by rw [he];exact hl⟩
 rcases T.K.find w hl es.toList eR with ⟨h1,h2⟩|⟨j,e0,h1,h2,h3⟩
 ·have hn:f x=none:=by
   cases tj:f x with
   | none => rfl
   | some u =>
    obtain ⟨e,he,hk,_⟩:=(hf x u).1 tj;exact absurd hk (h2 e he)
  cases c <;> simp [Instr.lookup,run_underlying ht,Zx hb,T.K.check w _ hl,h1,hz,Result.andThen,hn]
 ·have hn:f x=some e0.val:=(hf x _).2 ⟨e0,zG h2,h3,rfl⟩;cases c <;> simp [Instr.lookup,run_underlying ht,Zx hb,T.K.check w _ hl,h1,Result.andThen,hn]
theorem zwp {e t:TypeId} (T:IN P k κ ek ok) (ht:P.underlying t=some (.map k e)) (h:UU ek ok w b n f) (x:κ) (hx:ok x) (u:Value) :
  ∃ w',(Instr.mapUpdate t (.map (some b)) (ek x) u).run P w=.ok () w'∧UU ek ok w' b (n+1) (upd f x u)∧w.grownBy w' (some b):=by
 obtain ⟨es,clock,hb,hs,aO,mn,hf⟩:=h;obtain ⟨l,hl⟩:=T.of x hx;have eR:∀ e∈es.toList,∃ l,keyOf P k e.key=some l:=fun e he=>by
  obtain ⟨y,hy,he⟩:=mn e he;obtain ⟨l,hl⟩:=T.of y hy;exact ⟨l,by rw [he];exact hl⟩
 have gr:∀ o,w.grownBy (setBlock w b o) (some b):=fun o=>⟨rfl,rfl,rfl,by simp [setBlock],fun i _ hi=>heap_setBlock_other hb _ (fun e=>hi (by rw [e]))⟩
 rcases T.K.find w hl es.toList eR with ⟨h1,h2⟩|⟨j,e0,h1,h2,h3⟩
 ·refine ⟨setBlock w b (.map (es.push ⟨ek x,u,clock⟩) (clock+1)),?_,⟨_,_,heap_setBlock_same hb _,by simp;omega,stamped_push aO h2,?_,?_⟩,gr _⟩
  ·simp [Instr.mapUpdate,run_underlying ht,Zx hb,T.K.check w false hl,h1,Un _ hb,Result.andThen,setBlock]
  ·intro e he;simp only [RK,zC,zq] at he;rcases he with he|rfl
   ·exact mn e he
   ·exact ⟨x,hx,rfl⟩
  ·intro y v;by_cases hy:y=x
   ·subst hy;rw [LF];constructor
    ·intro hv;injection hv with hv;exact ⟨⟨ek y,u,clock⟩,by simp,rfl,hv⟩
    ·rintro ⟨e,he,hk,hv⟩;simp only [RK,zC,zq] at he;rcases he with he|rfl
     ·exact absurd hk (h2 e he)
     ·rw [← hv]
   ·rw [KZ f u hy,hf];constructor
    ·rintro ⟨e,he,hk,hv⟩;exact ⟨e,by simp [he],hk,hv⟩
    ·rintro ⟨e,he,hk,hv⟩;simp only [RK,zC,zq] at he;rcases he with he|rfl
     ·exact ⟨e,he,hk,hv⟩
     ·exact absurd (T.inj _ _ hk).symm hy
 ·have hj:es[j]? = some e0:=by simpa using h2
  have cN:j<es.toList.length:=(yq.1 h2).1;have mm:∀ e',es[j]? = some e'→({ e' with key:=ek x,val:=u }:MapEntry).key=e'.key:=fun e' iX=>by rw [hj] at iX;cases iX;exact h3.symm
  have vZ:(es.modify j (fun e'=>{ e' with key:=ek x,val:=u })).toList=es.toList.set j { e0 with key:=ek x,val:=u }:=by rw [Array.toList_modify,modify_eq_set _ _ _ _ h2]
  have hd:=((stamped_iff es clock).1 aO).2.2;have other:∀ i e,es.toList[i]? = some e→i≠j→e.key≠ek x:=by
   intro i e hi aN;rw [← h3];obtain ⟨eZ,rfl⟩:=yq.1 hi;obtain ⟨_,rfl⟩:=yq.1 h2;rcases HE aN with aA|Bc
   ·exact Zw.1 hd i j eZ cN aA
   ·exact (Zw.1 hd j i cN eZ Bc).symm
  have Pj:∀ y∈es.toList.set j { e0 with key:=ek x,val:=u },y={ e0 with key:=ek x,val:=u }∨(y∈es.toList∧y.key≠ek x):=by
   intro y hy;obtain ⟨i,hi,ex⟩:=zU hy;rw [Hx] at ex;split at ex
   ·exact Or.inl ex.symm
   ·rename_i aN;have jU : i<es.toList.length:=by simpa using hi
    exact Or.inr ⟨ex▸xH jU,other i y (by rw [xz jU,ex]) (fun e1=>aN e1.symm)⟩
  refine ⟨setBlock w b (.map (es.modify j (fun e'=>{ e' with key:=ek x,val:=u })) clock),?_,⟨_,_,heap_setBlock_same hb _,by simp;omega,stamped_modify aO _ _ (fun _ _=>rfl) (fun e' _ iX=>mm e' iX),?_,?_⟩,gr _⟩
  ·simp [Instr.mapUpdate,run_underlying ht,Zx hb,T.K.check w false hl,h1,hj,h3,T.K.stays w hl,Un _ hb,Result.andThen,setBlock]
  ·intro e he;rw [vZ] at he;rcases Pj e he with rfl|⟨he,_⟩
   ·exact ⟨x,hx,rfl⟩
   ·exact mn e he
  ·intro y v;rw [vZ];by_cases hy:y=x
   ·subst hy;rw [LF];constructor
    ·intro hv;injection hv with hv
     exact ⟨{ e0 with key:=ek y,val:=u },List.mem_iff_getElem.2 ⟨j,by simpa using cN,by simp⟩,rfl,hv⟩
    ·rintro ⟨e,he,hk,hv⟩;rcases Pj e he with rfl|⟨_,aN⟩
     ·rw [← hv]
     ·exact absurd hk aN
   ·rw [KZ f u hy,hf];constructor
    ·rintro ⟨e,he,hk,hv⟩;obtain ⟨i,hi,rfl⟩:=zU he;have dc:i≠j:=by
      rintro rfl;obtain ⟨_,eG⟩:=yq.1 h2;rw [eG,h3] at hk;exact hy (T.inj _ _ hk).symm
     exact ⟨es.toList[i],List.mem_iff_getElem.2 ⟨i,by simpa using hi,by rw [Hx,if_neg (fun e=>dc e.symm)]⟩,hk,hv⟩
    ·rintro ⟨e,he,hk,hv⟩;rcases Pj e he with rfl|⟨he,_⟩
     ·exact absurd (T.inj _ _ hk).symm hy
     ·exact ⟨e,he,hk,hv⟩
theorem XX {e t:TypeId}
  (T:IN P k κ ek ok) (ht:P.underlying t=some (.map k e)) (hz:(zeroValue e).run P w=.ok z w) (h:UU ek ok w b n f) (x:κ) (hx:ok x)
  (hg:o.guard=none) (m i:Operand) (dK:o.op=Op.lookup t m i true) (hm:a.eval m=.map (some b)) (hi:a.eval i=ek x)
  (hK:wpList P ops Q rest (a.put o.dst (.tuple #[(f x).getD z,.bool (f x).isSome])) w):wpList P ops Q (o::rest) a w:=by
 refine wpList_plain hg fun K' hK'=>?_;have bg:=zu6 T ht hz h true x hx;unfold Oper.wp;simp [execOp,dK,hm,hi,bg,Result.andThen];exact hK' _ _ hK
theorem Ko {e t:TypeId}
  (T:IN P k κ ek ok) (ht:P.underlying t=some (.map k e)) (h:UU ek ok w b n f) (x:κ) (hx:ok x) (u:Value)
  (hg:o.guard=none) (m i v:Operand) (dK:o.op=Op.mapUpdate t m i v) (hm:a.eval m=.map (some b)) (hi:a.eval i=ek x) (hv:a.eval v=u)
  (hK:∀ w',UU ek ok w' b (n+1) (upd f x u)→w.grownBy w' (some b)→wpList P ops Q rest (a.put o.dst undef) w'):wpList P ops Q (o::rest) a w:=by
 refine wpList_plain hg fun K' hK'=>?_;obtain ⟨w',bg,h1,h2⟩:=zwp T ht h x hx u;unfold Oper.wp;simp [execOp,dK,hm,hi,hv,bg,Result.andThen];exact hK' _ _ (hK w' h1 h2)
end
def vC (x:Int):Value:=.int .i64 x
theorem zxg (h:bU x):(Lit.int .i64 x).wf=true:=WalkArith.wf_i64 (by unfold bU at h;omega)
theorem intKeys:IN Tryz.prog 3 Int vC bU:=⟨int_keyed Tryz.underlying3,fun x hx=>⟨_,keyOf_int_mk Tryz.underlying3 (zxg hx)⟩,fun x y h=>by injection h⟩
end
section
open Go.RowKit
attribute [local go_sem ↓] Go.wp_at_zero Go.wp_at_succ
def Ue (o:aq):Prop:=bU o.p∧bU o.k∧bU o.key∧bU o.arg∧bU o.res∧bU o.call∧bU o.ret
noncomputable def ct (B:Int→Bool):Int→Option Value:=fun x=>if B x then some (.agg #[]) else none
theorem PR (B:Int→Bool) (x:Int):(ct B x).getD (.agg #[])=.agg #[]:=by unfold ct;split <;> rfl
theorem Pz (B:Int→Bool) (x:Int):(ct B x).isSome=B x:=by unfold ct;split <;> simp_all
theorem zi5 (B:Int→Bool) (x:Int):upd (ct B) x (.agg #[])=ct (fun y=>B y || y == x):=by
 funext y;by_cases hy:y=x
 ·subst hy;rw [LF];simp [ct]
 ·rw [KZ _ _ hy];simp [ct,hy]
theorem zhh:(fun _=>none)=ct (fun _=>false):=by funext y;simp [ct]
def qK (g:Int→Option aq):Int→Option Value:=fun x=>(g x).map fun o=>.agg o.aE.toArray
theorem zsI (g:Int→Option aq) (x:Int):(qK g x).getD (.agg #[.int .i64 0,.int .i64 0,.int .i64 0,.int .i64 0,.int .i64 0,.int .i64 0,.int .i64 0,.bool false])=.agg #[.int .i64 ((g x).getD default).p,.int .i64 ((g x).getD default).k,.int .i64 ((g x).getD default).key,.int .i64 ((g x).getD default).arg,.int .i64 ((g x).getD default).res,.int .i64 ((g x).getD default).call,.int .i64 ((g x).getD default).ret,.bool ((g x).getD default).done]:=by
 unfold qK;cases g x <;> rfl
theorem zqj (g:Int→Option aq) (x:Int):(qK g x).isSome=(g x).isSome:=by simp [qK]
open Classical in
theorem zlQ (g:Int→Option aq) (x:Int) (o:aq):upd (qK g) x (.agg o.aE.toArray)=qK (fun y=>if y=x then some o else g y):=by
 funext y;by_cases hy:y=x
 ·subst hy;rw [LF];simp [qK]
 ·rw [KZ _ _ hy];simp [qK,hy]
def iH (o:aq):Bool:=decide (0≤o.p) && decide (0≤o.k) && decide (o.k≤4) && decide (0≤o.call) && decide (o.call<o.ret) && (o.done || decide (o.res=0))
def ln (l:List aq) (k:Nat) (x:Int):Bool:=(l.take k).any fun o=>o.done && o.ret == x
def oY (l:List aq) (k:Nat) (x:Int):Bool:=(l.take k).any fun o=>o.call == x
def Xz (l:List aq):Nat→Int→Option aq
 | 0, _ => none
 | k+1, p => if p=(nth l k).p then some (nth l k) else Xz l k p
def kg (l:List aq) (k:Nat):Int:=
 if iH (nth l k)=false then 1
 else if 0<k∧(nth l k).call≤(nth l (k - 1)).call then 5
 else if (ln l k (nth l k).call || (nth l k).done && (ln l k (nth l k).ret || oY l l.length (nth l k).ret))=true then 4
 else if (Xz l k (nth l k).p).isSome=true∧(((Xz l k (nth l k).p).getD default).done=false∨(nth l k).call<((Xz l k (nth l k).p).getD default).ret) then 5
 else 0
def xj (l:List aq) (k:Nat):Nat→Int
 | 0 => 0
 | n+1 => if kg l k=0 then xj l (k+1) n else kg l k
def Zj (l:List aq):Int:=if 300<l.length then 2 else xj l 0 l.length
theorem X0 {l:List aq} {k:Nat} (h:kg l k=0):xj l k (n+1)=xj l (k+1) n:=by simp [xj,h]
theorem zhS {l:List aq} {k:Nat} (h:kg l k≠0):xj l k (n+1)=kg l k:=by simp [xj,h]
theorem zpi {l:List aq} {k:Nat} (hk:k<l.length) (x:Int):oY l (k+1) x=(oY l k x || x == (nth l k).call):=by
 unfold oY;rw [xe hk,Dy,ak hk];simp [BEq.comm (a:=x)]
theorem zl4 {l:List aq} {k:Nat} (hk:k<l.length) (x:Int):ln l (k+1) x=(ln l k x || ((nth l k).done && x == (nth l k).ret)):=by
 unfold ln;rw [xe hk,Dy,ak hk];simp [BEq.comm (a:=x)]
theorem tH (o:Obj):Below w.heap.size w (w.alloc o):=(Zc _ _).alloc (zg _) _
theorem V8 (o:aq) (w:World):Calls Tryz.prog 31 #[.agg #[.int .i64 o.p,.int .i64 o.k,.int .i64 o.key,.int .i64 o.arg,.int .i64 o.res,.int .i64 o.call,.int .i64 o.ret,.bool o.done]] w fun e w'=>e=.returned (.bool (iH o))∧Below w.heap.size w w':=by
 by_cases h1:0≤o.p
 ·by_cases h2:0≤o.k
  ·by_cases h3:o.k≤4
   ·by_cases h4:0≤o.call
    ·by_cases h5:o.call<o.ret
     ·cases h6:o.done with
      | true =>
       go_enter Tryz.func31,Tryz.ntmps31
       go_wp2
       go_ret
       exact ⟨by simp [iH,h1,h2,h3,h4,h5,h6],tH _⟩
      | false=>
       by_cases h7:o.res=0
       ·have h7' : (o.res == 0)=true:=by simpa using h7
        go_enter Tryz.func31,Tryz.ntmps31
        go_wp2
        go_ret
        exact ⟨by simp [iH,h1,h2,h3,h4,h5,h6,h7],tH _⟩
       ·have h7' : (o.res == 0)=false:=by simpa using h7
        go_enter Tryz.func31,Tryz.ntmps31
        go_wp2
        go_ret
        exact ⟨by simp [iH,h1,h2,h3,h4,h5,h6,h7],tH _⟩
     ·go_enter Tryz.func31,Tryz.ntmps31
      go_wp2
      go_ret
      exact ⟨by simp [iH,h1,h2,h3,h4];intros;omega,tH _⟩
    ·go_enter Tryz.func31,Tryz.ntmps31
     go_wp2
     go_ret
     exact ⟨by simp [iH,h1,h2,h3];intros;omega,tH _⟩
   ·go_enter Tryz.func31,Tryz.ntmps31
    go_wp2
    go_ret
    exact ⟨by simp [iH,h1,h2];intros;omega,tH _⟩
  ·go_enter Tryz.func31,Tryz.ntmps31
   go_wp2
   go_ret
   exact ⟨by simp [iH,h1];intros;omega,tH _⟩
 ·go_enter Tryz.func31,Tryz.ntmps31
  go_wp2
  go_ret
  exact ⟨by simp [iH];intros;omega,tH _⟩
theorem zni (l:List aq) (k:Nat):Xz l (k+1)=fun p=>if p=(nth l k).p then some (nth l k) else Xz l k p:=rfl
theorem zs6 (l:List aq):ln l 0=fun _=>false:=by funext x;simp [ln]
theorem zpk (l:List aq):oY l 0=fun _=>false:=by funext x;simp [oY]
theorem zqi:(fun _=>none)=qK (fun _=>none):=by funext y;simp [qK]
theorem zs5 {l:List aq} {k:Nat} (hk:k<l.length) (h:(nth l k).done=true):ln l (k+1)=fun x=>ln l k x || x == (nth l k).ret:=by
 funext x;rw [zl4 hk,h];simp
theorem zqy {l:List aq} {k:Nat} (hk:k<l.length) (h:(nth l k).done=false):ln l (k+1)=ln l k:=by
 funext x;rw [zl4 hk,h];simp
theorem zpj {l:List aq} {k:Nat} (hk:k<l.length):oY l (k+1)=fun x=>oY l k x || x == (nth l k).call:=by
 funext x;rw [zpi hk]
theorem LQ {l:List aq} {k:Nat} {e:Int} (h:xj l k (l.length - k)=X) (hk:k<l.length) (he:kg l k=e) (h0:e≠0):e=X:=by
 rw [show l.length - k=(l.length - (k+1))+1 by omega,zhS (by rw [he];exact h0),he] at h;exact h
theorem zxc {l:List aq} {k:Nat} (h:xj l k (l.length - k)=X) (hk:k<l.length) (he:kg l k=0):xj l (k+1) (l.length - (k+1))=X:=by
 rw [show l.length - k=(l.length - (k+1))+1 by omega,X0 he] at h;exact h
set_option maxRecDepth 100000 in
theorem zpX (A:Option Addr) (c:Nat) (l:List aq) (w:World) (h1:Sl aq.aE w w.heap.size A l) (aP:∀ o∈l,Ue o) (hlen:l.length≤1000000000) :
  Calls Tryz.prog 12 #[.slice A l.length c] w fun e w'=>e=.returned (.int .i64 (Zj l))∧Below w.heap.size w w':=by
 have cH:=@run_makeMap Tryz.prog;by_cases Fh:300<l.length
 ·go_enter Tryz.func12,Tryz.ntmps12
  go_wp2_with fail
  go_ret
  exact ⟨by simp [Zj,Fh],Zc _ _⟩
 ·have hc : Zj l=xj l 0 l.length:=by simp [Zj,Fh]
  rw [hc]
  go_enter Tryz.func12,Tryz.ntmps12
  go_wp2_with fail
  go_loopw [24] (fun i wr=>∃ k:Nat,k≤l.length∧i=.int .i64 k∧UU vC bU wr w.heap.size k (ct (oY l k))∧Below w.heap.size w wr) (fun i _=>l.length - (intOf i).toNat)
  case atStart=>exact ⟨0,by omega,rfl,by rw [zpk,← zhh];exact UU.made w,tH _⟩
  case round =>
   obtain ⟨k,hk,rfl,bh,hb⟩:=hrel;by_cases aA:k<l.length
   ·obtain ⟨b1,o1,rfl,Nj,p0,p1,p2,p3,p4,p5,p6,p7⟩:=(h1.below hb).op aA;have aY:=hb.size;have uu:b1<wr.heap.size:=by omega
    have hI:=aP _ (zu aA);have Hs:=yd (zpj aA)
    go_wp2_with (at_mapUpdate;go_loud (refine Ko intKeys Tryz.underlying74 (bh.alloc _) (nth l k).call hI.2.2.2.2.2.1 (.agg #[]) rfl (.tmp 28) (.tmp 30) (.tmp 31) rfl rfl rfl rfl ?_;intro w1 Bj kR))
    go_roundw
    case rel=>
     refine ⟨k+1,by omega,by go_num,?_,?_⟩
     ·rw [Hs.out,← zi5];exact Bj
     ·exact (hb.alloc aY _).grown kR zM (by rintro k' ⟨⟩;exact zg _)
    case measure=>simp [intOf];omega
   ·obtain rfl : k=l.length:=by omega
    obtain ⟨wb,rfl⟩:∃ wb:World,wb=wr:=⟨_,rfl⟩
    have OL:=hb.size;have jW:=bh.lt
    go_wp2_with fail
    go_loopw [37] (fun i wr=>∃ k:Nat,k≤l.length∧i=.int .i64 k∧UU vC bU wr w.heap.size l.length (ct (oY l l.length))∧UU vC bU wr wb.heap.size k (ct (ln l k))∧UU vC bU wr (wb.heap.size+1) k (qK (Xz l k))∧Below w.heap.size w wr∧wb.heap.size+2≤wr.heap.size∧
     xj l k (l.length - k)=xj l 0 l.length) (fun i _=>l.length - (intOf i).toNat)
    case atStart=>
     refine ⟨0,by omega,rfl,(bh.alloc _).alloc _,?_,?_,(hb.alloc OL _).alloc zM _,by simp,by simp⟩
     ·rw [zs6,← zhh];exact (UU.made wb).alloc _
     ·have:=UU.made (ek:=vC) (ok:=bU) (wb.alloc (.map #[] 0));rw [show Xz l 0=fun _=>none from rfl,← zqi];simpa using this
    case round =>
     obtain ⟨k,hk,rfl,Bk,JL,iZ,hb,pL,bl⟩:=hrel;have CK:=yd bl;clear bl bh;by_cases aA:k<l.length
     ·obtain ⟨b1,o1,rfl,Nj,p0,p1,p2,p3,p4,p5,p6,p7⟩:=(h1.below hb).op aA;have aY:=hb.size;have uu:b1<wr.heap.size:=by omega
      have hI:=aP _ (zu aA);obtain ⟨o,ho⟩:∃ o,nth l k=o:=⟨_,rfl⟩
      rw [ho] at p0 p1 p2 p3 p4 p5 p6 p7 hI;obtain ⟨pv,TX⟩:∃ pv,(Xz l k o.p).getD default=pv:=⟨_,rfl⟩
      obtain ⟨b4,CY⟩:∃ b4,(Xz l k o.p).isSome=b4:=⟨_,rfl⟩
      obtain ⟨b5,AN⟩:∃ b5,ln l k o.call=b5:=⟨_,rfl⟩
      obtain ⟨b6,Tt⟩:∃ b6,ln l k o.ret=b6:=⟨_,rfl⟩
      obtain ⟨b7,Jz⟩:∃ b7,oY l l.length o.ret=b7:=⟨_,rfl⟩
      have SJ:=yd TX;have SF:=yd CY;have SG:=yd AN;have SH:=yd Tt;have SI:=yd Jz;clear TX CY AN Tt Jz
      go_upto_region 18 with (first|(at_lookup;refine XX intKeys Tryz.underlying74 (Tryz.zeroValue75 _) (JL.alloc _) o.call hI.2.2.2.2.2.1 rfl (.tmp 43) (.tmp 45) rfl rfl rfl ?_;rw [PR,Pz,SG.out])|(at_lookup;refine XX intKeys Tryz.underlying74 (Tryz.zeroValue75 _) ((JL.alloc _).alloc _) o.ret hI.2.2.2.2.2.2 rfl (.tmp 50) (.tmp 52) rfl rfl rfl ?_;rw [PR,Pz,SH.out])|(at_lookup;refine XX intKeys Tryz.underlying74 (Tryz.zeroValue75 _) (((Bk.alloc _).alloc _).alloc _) o.ret hI.2.2.2.2.2.2 rfl (.tmp 57) (.tmp 59) rfl rfl rfl ?_;rw [PR,Pz,SI.out])|(at_lookup;refine XX intKeys Tryz.underlying76 (Tryz.zeroValue43 _) ((((iZ.alloc _).alloc _).alloc _).alloc _) o.p hI.1 rfl (.tmp 64) (.tmp 66) rfl rfl rfl ?_;rw [zsI,zqj,SF.out,SJ.out]))
      obtain ⟨W,hW⟩:∃ W,W=(((((wr.alloc (.cells #[.int .i64 o.p,.int .i64 o.k,.int .i64 o.key,.int .i64 o.arg,.int .i64 o.res,.int .i64 o.call,.int .i64 o.ret,.bool o.done] 43)).alloc (.cells #[] 75)).alloc (.cells #[] 75)).alloc (.cells #[] 75)).alloc (.cells #[.int .i64 pv.p,.int .i64 pv.k,.int .i64 pv.key,.int .i64 pv.arg,.int .i64 pv.res,.int .i64 pv.call,.int .i64 pv.ret,.bool pv.done] 43)):=⟨_,rfl⟩
      have B1:cI W wr.heap.size 43 o.aE:=by rw [hW];exact ((((cI.new wr 43 o.aE).alloc _).alloc _).alloc _).alloc _
      have B2:cI W (wr.heap.size+1+1+1+1) 43 pv.aE:=by
       rw [hW];have:=cI.new ((((wr.alloc (.cells #[.int .i64 o.p,.int .i64 o.k,.int .i64 o.key,.int .i64 o.arg,.int .i64 o.res,.int .i64 o.call,.int .i64 o.ret,.bool o.done] 43)).alloc (.cells #[] 75)).alloc (.cells #[] 75)).alloc (.cells #[] 75)) 43 pv.aE;simp only [Uv] at this;exact this
      have F5:UU vC bU W w.heap.size l.length (ct (oY l l.length)):=by rw [hW];exact ((((Bk.alloc _).alloc _).alloc _).alloc _).alloc _
      have Ga:UU vC bU W wb.heap.size k (ct (ln l k)):=by rw [hW];exact ((((JL.alloc _).alloc _).alloc _).alloc _).alloc _
      have F9:UU vC bU W (wb.heap.size+1) k (qK (Xz l k)):=by rw [hW];exact ((((iZ.alloc _).alloc _).alloc _).alloc _).alloc _
      have Fg:Below wr.heap.size wr W:=by rw [hW];exact ((((tH _).alloc zc _).alloc zM _).alloc zM _).alloc zM _
      have q5:=Fg.cell (p:=⟨b1,o1+k * 8+5,none⟩) uu;rw [← hW];clear hW Bk JL iZ;obtain ⟨x0,x1,x2,x3,x4,x5,x6,x7⟩:=B1.op;cases BD:iH o with
      | false =>
       go_wp2_with (go_at_call 31;refine (V8 o _).mono ?_;rintro e w2 ⟨rfl,dZ⟩)
       go_ret
       exact ⟨congrArg _ (congrArg _ (LQ CK.out aA (by rw [kg,if_pos (by rw [ho];exact BD)]) zd)),hb.trans ((zyb Fg dZ).mono aY)⟩
      | true =>
       have hP:=Fg.size
       go_upto_region 20 with (go_at_call 31;refine (V8 o _).mono ?_;rintro e w2 ⟨rfl,dZ⟩)
       have l9:=zyb Fg dZ;have C1:=B1.below dZ B1.lt;have C2:=B2.below dZ B2.lt;have F6:=F5.ext dZ;have Bn:=Ga.ext dZ;have Bl:=F9.ext dZ;clear B1 B2 F5 Ga F9 x0 x1 x2 x3 x4 x5 x6 x7 dZ Fg q5;obtain ⟨x0,x1,x2,x3,x4,x5,x6,x7⟩:=C1.op;obtain ⟨y0,y1,y2,y3,y4,y5,y6,y7⟩:=C2.op;have SL:=yd BD;clear BD;have hsz4:=l9.size;by_cases nS:0<k∧o.call≤(nth l (k - 1)).call
       ·obtain ⟨tu,nS⟩:=nS;have dI:k - 1<l.length:=by omega
        obtain ⟨_,_,_,_,_,q5,_,_⟩:=((h1.below hb).below (l9.mono aY)).G8 dI;have gl:(0:Int)<(k:Int):=by omega
        go_wp2_with fail
        go_quiet (fail)
        go_wp2_with fail
        go_ret
        exact ⟨congrArg _ (congrArg _ (LQ CK.out aA (by rw [kg,if_neg (by rw [ho,SL.out];simp),if_pos (by rw [ho];exact ⟨tu,nS⟩)]) zd)),Iy (hb.trans (l9.mono aY)) _⟩
       ·have Ew:=yd nS
        go_cut [74] (fun s wx=>s=.bool false∧∃ n,wx=w2.drewN n)
        case first=>
         by_cases tu:0<k
         ·have dI:k - 1<l.length:=by omega
          obtain ⟨_,_,_,_,_,q5,_,_⟩:=((h1.below hb).below (l9.mono aY)).G8 dI;have gl:(0:Int)<(k:Int):=by omega
          have hle:(nth l (k - 1)).call<o.call:=by
           have:=Ew.out;omega
          clear nS
          go_wp2_with fail
          go_quiet (fail)
          go_wp2_with fail
          go_meet
          case rel=>exact ⟨by simp;omega,_,rfl⟩
         ·have gl:decide ((0:Int)<(k:Int))=false:=by simp;omega
          clear nS
          go_wp2_with fail
          go_quiet (fail)
          go_wp2_with fail
          go_meet
          case rel=>exact ⟨by simp,_,rfl⟩
        case rest=>
         obtain ⟨rfl,n,rfl⟩:=hcut;clear nS
         go_upto_region 22 with fail
         go_cut [11,13,15,88] (fun _ _ _ s wx=>s=.bool (b5 || (o.done && (b6 || b7)))∧wx=w2.drewN n)
         case first=>
          go_wp2_with fail
          all_goals go_meet
          all_goals exact ⟨by simp [*],rfl⟩
         case rest=>
          obtain ⟨rfl,rfl⟩:=hcut;obtain ⟨b8,Ff⟩:∃ b8,(b5 || (o.done && (b6 || b7)))=b8:=⟨_,rfl⟩
          rw [Ff];have Hb8:=yd Ff;clear Ff;have e1:¬ (iH (nth l k)=false):=by rw [ho,SL.out];simp
          have e2:¬ (0<k∧(nth l k).call≤(nth l (k - 1)).call):=by rw [ho];exact Ew.out
          have e3:(ln l k (nth l k).call || (nth l k).done && (ln l k (nth l k).ret || oY l l.length (nth l k).ret))=b8:=by rw [ho,SG.out,SH.out,SI.out];exact Hb8.out
          have E1:=yd e1;have E2:=yd e2;have E3:=yd e3;clear e1 e2 e3;cases b8 with
          | true =>
           go_wp2_with fail
           go_ret
           exact ⟨congrArg _ (congrArg _ (LQ CK.out aA (by rw [kg,if_neg E1.out,if_neg E2.out,if_pos E3.out]) zd)),Iy (hb.trans (l9.mono aY)) _⟩
          | false=>
           go_upto_region 24 with fail
           go_cut [17,100] (fun _ s wx=>s=.bool (b4 && (!pv.done || decide (o.call<pv.ret)))∧wx=w2.drewN n)
           case first=>
            go_wp2_with fail
            all_goals go_meet
            all_goals exact ⟨by simp [*],rfl⟩
           case rest=>
            obtain ⟨rfl,rfl⟩:=hcut;obtain ⟨b9,Nh⟩:∃ b9,(b4 && (!pv.done || decide (o.call<pv.ret)))=b9:=⟨_,rfl⟩
            rw [Nh];have e4:((Xz l k (nth l k).p).isSome=true∧(((Xz l k (nth l k).p).getD default).done=false∨(nth l k).call<((Xz l k (nth l k).p).getD default).ret))↔b9=true:=by
             rw [ho,SF.out,SJ.out,← Nh];simp
            have E4:=yd e4;clear Nh e4;cases b9 with
            | true =>
             go_wp2_with fail
             go_ret
             exact ⟨congrArg _ (congrArg _ (LQ CK.out aA (by rw [kg,if_neg E1.out,if_neg E2.out,if_neg (by rw [E3.out];simp),if_pos (E4.out.mpr (by trivial))]) zd)),Iy (hb.trans (l9.mono aY)) _⟩
            | false=>
             have hz:=zxc CK.out aA (by rw [kg,if_neg E1.out,if_neg E2.out,if_neg (by rw [E3.out];simp),if_neg (fun h=>by have:=E4.out.1 h;cases this)]);have Hz:=yd hz;clear hz;have sU:=yd (show Xz l (k+1)=fun p=>if p=o.p then some o else Xz l k p by rw [zni,ho]);have Oc:=Bn.se C1;have Ge:wb.heap.size≠w.heap.size:=by omega
             have hne3:wb.heap.size≠wb.heap.size+1:=by omega
             have hne4:=Bl.se C1;cases fq:o.done with
             | true=>
              rw [fq] at x7;have Hr:=yd (zs5 aA (by rw [ho];exact fq));have Hdn:=yd fq;clear fq
              go_upto_region 28 with (at_mapUpdate;refine Ko intKeys Tryz.underlying74 (Bn.drewN n) o.ret hI.2.2.2.2.2.2 (.agg #[]) rfl (.tmp 116) (.tmp 118) (.tmp 119) rfl rfl rfl rfl ?_;intro w3 hm3 uz)
              have GH:w2.heap.size≤w3.heap.size:=uz.size;have D1:=(C1.drewN n).grown uz (by simpa using fun e=>Oc e.symm);have N7:=(Bl.drewN n).grown uz zc;have N5:=(F6.drewN n).grown uz (by simpa using fun e=>Ge e.symm);have kN:=(Iy (hb.trans (l9.mono aY)) n).grown uz zM (by rintro k' ⟨⟩;omega);clear x0 x1 x2 x3 x4 x5 x6 x7 uz;obtain ⟨x0,x1,x2,x3,x4,x5,x6,x7⟩:=D1.op
              go_wp2_with (at_mapUpdate;refine Ko intKeys Tryz.underlying76 N7 o.p hI.1 (.agg o.aE.toArray) rfl (.tmp 120) (.tmp 122) (.tmp 123) rfl rfl rfl rfl ?_;intro w4 N4 rv)
              go_roundw
              case rel=>
               refine ⟨k+1,by omega,by go_num,N5.grown rv zM,?_,?_,kN.grown rv za (by rintro k' ⟨⟩;omega),by have:=rv.size;omega,Hz.out⟩
               ·rw [Hr.out,ho,← zi5];exact hm3.grown rv zc
               ·rw [sU.out,← zlQ];exact N4
              case measure=>simp [intOf];omega
             | false=>
              rw [fq] at x7;have Hr:=yd (zqy aA (by rw [ho];exact fq));have Hv:=yd (show (.agg o.aE.toArray:Value)=.agg #[.int .i64 o.p,.int .i64 o.k,.int .i64 o.key,.int .i64 o.arg,.int .i64 o.res,.int .i64 o.call,.int .i64 o.ret,.bool false] by simp [aq.aE,fq]);clear fq
              go_wp2_with (at_mapUpdate;refine Ko intKeys Tryz.underlying76 (Bl.drewN n) o.p hI.1 (.agg #[.int .i64 o.p,.int .i64 o.k,.int .i64 o.key,.int .i64 o.arg,.int .i64 o.res,.int .i64 o.call,.int .i64 o.ret,.bool false]) rfl (.tmp 120) (.tmp 122) (.tmp 123) rfl rfl rfl rfl ?_;intro w4 N4 rv)
              have GH:w2.heap.size≤w4.heap.size:=rv.size
              go_roundw
              case rel=>
               refine ⟨k+1,by omega,by go_num,(F6.drewN n).grown rv zM,?_,?_,(Iy (hb.trans (l9.mono aY)) n).grown rv zM (by rintro k' ⟨⟩;omega),by omega,Hz.out⟩
               ·rw [Hr.out];exact ((Bn.drewN n).grown rv zc).mono za
               ·rw [sU.out,← zlQ,Hv.out];exact N4
              case measure=>simp [intOf];omega
     ·go_wp2
      go_ret
      obtain rfl:k=l.length:=by omega
      have e:=CK.out;rw [xZ] at e;exact ⟨by rw [← e];rfl,hb⟩
end
section
set_option maxRecDepth 100000
def Sw:List (Nat×TS):=[
 (3,⟨.int .i64,1,8,[.int .i64 0]⟩),
 (4,⟨.bool,1,1,[.bool false]⟩),
 (1,⟨.any,1,8,[.undef]⟩),
 (2,⟨.int .i64,1,8,[.int .i64 0]⟩),
 (5,⟨.int .u8,1,1,[.int .u8 0]⟩),
 (6,⟨.int .u8,1,1,[.int .u8 0]⟩),
 (7,⟨.aQ [(0,2),(1,3),(2,4),(3,6)],4,24,[.int .i64 0,.int .i64 0,.bool false,.int .u8 0]⟩),
 (8,⟨.aQ [(0,2),(1,3),(2,4),(3,6)],4,24,[.int .i64 0,.int .i64 0,.bool false,.int .u8 0]⟩),
 (9,⟨.str,1,16,[.str ByteArray.empty]⟩),
 (10,⟨.str,1,16,[.str ByteArray.empty]⟩),
 (11,⟨.str,1,16,[.str ByteArray.empty]⟩),
 (12,⟨.int .u64,1,8,[.int .u64 0]⟩),
 (13,⟨.aQ [(0,9),(1,12)],2,24,[.str ByteArray.empty,.int .u64 0]⟩),
 (14,⟨.aQ [(0,9),(1,12)],2,24,[.str ByteArray.empty,.int .u64 0]⟩),
 (15,⟨.any,1,8,[.undef]⟩),
 (16,⟨.any,1,8,[.undef]⟩),
 (17,⟨.any,1,8,[.undef]⟩),
 (18,⟨.aQ [(0,17)],1,8,[.undef]⟩),
 (19,⟨.aQ [(0,17)],1,8,[.undef]⟩),
 (20,⟨.any,1,16,[.undef]⟩),
 (21,⟨.int .i32,1,4,[.int .i32 0]⟩),
 (22,⟨.slice 3,1,24,[.nil]⟩),
 (23,⟨.slice 43,1,24,[.nil]⟩),
 (24,⟨.any,1,8,[.undef]⟩),
 (25,⟨.any,1,8,[.undef]⟩),
 (26,⟨.slice 23,1,24,[.nil]⟩),
 (27,⟨.slice 71,1,24,[.nil]⟩),
 (28,⟨.aQ [(0,22),(1,27)],2,48,[.nil,.nil]⟩),
 (29,⟨.aQ [(0,22),(1,27)],2,48,[.nil,.nil]⟩),
 (30,⟨.aQ [(0,3),(1,3),(2,3),(3,29)],5,72,[.int .i64 0,.int .i64 0,.int .i64 0,.nil,.nil]⟩),
 (31,⟨.aQ [(0,3),(1,3),(2,3),(3,29)],5,72,[.int .i64 0,.int .i64 0,.int .i64 0,.nil,.nil]⟩),
 (32,⟨.int .i64,1,8,[.int .i64 0]⟩),
 (34,⟨.any,1,8,[.undef]⟩),
 (35,⟨.any,1,8,[.undef]⟩),
 (36,⟨.any,1,8,[.undef]⟩),
 (37,⟨.slice 41,1,24,[.nil]⟩),
 (38,⟨.any,1,8,[.undef]⟩),
 (39,⟨.any,1,8,[.undef]⟩),
 (40,⟨.aQ [(0,3),(1,4),(2,3)],3,24,[.int .i64 0,.bool false,.int .i64 0]⟩),
 (41,⟨.aQ [(0,3),(1,4),(2,3)],3,24,[.int .i64 0,.bool false,.int .i64 0]⟩),
 (42,⟨.aQ [(0,3),(1,3),(2,3),(3,3),(4,3),(5,3),(6,3),(7,4)],8,64,[.int .i64 0,.int .i64 0,.int .i64 0,.int .i64 0,.int .i64 0,.int .i64 0,.int .i64 0,.bool false]⟩),
 (43,⟨.aQ [(0,3),(1,3),(2,3),(3,3),(4,3),(5,3),(6,3),(7,4)],8,64,[.int .i64 0,.int .i64 0,.int .i64 0,.int .i64 0,.int .i64 0,.int .i64 0,.int .i64 0,.bool false]⟩),
 (44,⟨.any,1,8,[.undef]⟩),
 (45,⟨.any,1,8,[.undef]⟩),
 (46,⟨.map 82 3,1,8,[.bR]⟩),
 (48,⟨.any,1,8,[.undef]⟩),
 (49,⟨.slice 4,1,24,[.nil]⟩),
 (50,⟨.any,1,8,[.undef]⟩),
 (51,⟨.any,1,8,[.undef]⟩),
 (53,⟨.any,1,8,[.undef]⟩),
 (54,⟨.any,1,8,[.undef]⟩),
 (55,⟨.any,1,8,[.undef]⟩),
 (56,⟨.any,1,8,[.undef]⟩),
 (57,⟨.any,1,8,[.undef]⟩),
 (58,⟨.slice 57,1,24,[.nil]⟩),
 (60,⟨.any,1,8,[.undef]⟩),
 (61,⟨.slice 93,1,24,[.nil]⟩),
 (62,⟨.any,1,8,[.undef]⟩),
 (63,⟨.any,1,8,[.undef]⟩),
 (64,⟨.map 3 3,1,8,[.bR]⟩),
 (65,⟨.map 100 3,1,8,[.bR]⟩),
 (66,⟨.slice 64,1,24,[.nil]⟩),
 (67,⟨.aQ [(0,23),(1,22),(2,65),(3,66)],4,80,[.nil,.nil,.bR,.nil]⟩),
 (68,⟨.aQ [(0,23),(1,22),(2,65),(3,66)],4,80,[.nil,.nil,.bR,.nil]⟩),
 (69,⟨.any,1,8,[.undef]⟩),
 (70,⟨.aQ [(0,3),(1,3),(2,3)],3,24,[.int .i64 0,.int .i64 0,.int .i64 0]⟩),
 (71,⟨.aQ [(0,3),(1,3),(2,3)],3,24,[.int .i64 0,.int .i64 0,.int .i64 0]⟩),
 (72,⟨.any,1,8,[.undef]⟩),
 (73,⟨.any,1,8,[.undef]⟩),
 (74,⟨.map 3 75,1,8,[.bR]⟩),
 (75,⟨.aQ [],0,0,[]⟩),
 (76,⟨.map 3 43,1,8,[.bR]⟩),
 (79,⟨.any,1,8,[.undef]⟩),
 (81,⟨.aQ [(0,3),(1,3)],2,16,[.int .i64 0,.int .i64 0]⟩),
 (82,⟨.aQ [(0,3),(1,3)],2,16,[.int .i64 0,.int .i64 0]⟩),
 (83,⟨.any,1,8,[.undef]⟩),
 (84,⟨.any,1,8,[.undef]⟩),
 (85,⟨.any,1,8,[.undef]⟩),
 (86,⟨.any,1,8,[.undef]⟩),
 (87,⟨.slice 91,1,24,[.nil]⟩),
 (88,⟨.any,1,8,[.undef]⟩),
 (89,⟨.any,1,8,[.undef]⟩),
 (90,⟨.aQ [(0,4),(1,22)],2,32,[.bool false,.nil]⟩),
 (91,⟨.aQ [(0,4),(1,22)],2,32,[.bool false,.nil]⟩),
 (92,⟨.any,1,8,[.undef]⟩),
 (93,⟨.arr 2 3,2,16,[.int .i64 0,.int .i64 0]⟩),
 (94,⟨.any,1,8,[.undef]⟩),
 (96,⟨.any,1,8,[.undef]⟩),
 (97,⟨.any,1,8,[.undef]⟩),
 (98,⟨.map 100 75,1,8,[.bR]⟩),
 (99,⟨.aQ [(0,3),(1,3)],2,16,[.int .i64 0,.int .i64 0]⟩),
 (100,⟨.aQ [(0,3),(1,3)],2,16,[.int .i64 0,.int .i64 0]⟩),
 (101,⟨.any,1,8,[.undef]⟩),
 (102,⟨.any,1,8,[.undef]⟩),
 (103,⟨.any,1,8,[.undef]⟩),
 (104,⟨.any,1,8,[.undef]⟩),
 (105,⟨.slice 22,1,24,[.nil]⟩),
 (106,⟨.any,1,8,[.undef]⟩),
 (107,⟨.any,1,8,[.undef]⟩),
 (108,⟨.slice 3,1,24,[.nil]⟩),
 (109,⟨.any,1,8,[.undef]⟩),
 (110,⟨.any,1,8,[.undef]⟩),
 (111,⟨.any,1,8,[.undef]⟩),
 (112,⟨.any,1,8,[.undef]⟩),
 (113,⟨.any,1,8,[.undef]⟩),
 (114,⟨.any,1,8,[.undef]⟩),
 (115,⟨.any,1,8,[.undef]⟩),
 (116,⟨.any,1,8,[.undef]⟩),
 (117,⟨.any,1,8,[.undef]⟩),
 (118,⟨.int .u64,1,8,[.int .u64 0]⟩),
 (119,⟨.any,1,8,[.undef]⟩),
 (121,⟨.any,1,8,[.undef]⟩),
 (122,⟨.slice 129,1,24,[.nil]⟩),
 (123,⟨.aQ [(0,3),(1,122)],2,32,[.int .i64 0,.nil]⟩),
 (124,⟨.aQ [(0,3),(1,122)],2,32,[.int .i64 0,.nil]⟩),
 (125,⟨.any,1,8,[.undef]⟩),
 (126,⟨.any,1,8,[.undef]⟩),
 (127,⟨.any,1,8,[.undef]⟩),
 (128,⟨.slice 156,1,24,[.nil]⟩),
 (129,⟨.slice 156,1,24,[.nil]⟩),
 (130,⟨.any,1,8,[.undef]⟩),
 (131,⟨.any,1,8,[.undef]⟩),
 (132,⟨.any,1,8,[.undef]⟩),
 (133,⟨.map 3 22,1,8,[.bR]⟩),
 (134,⟨.any,1,8,[.undef]⟩),
 (135,⟨.any,1,8,[.undef]⟩),
 (136,⟨.any,1,8,[.undef]⟩),
 (137,⟨.any,1,8,[.undef]⟩),
 (138,⟨.any,1,8,[.undef]⟩),
 (141,⟨.any,1,8,[.undef]⟩),
 (142,⟨.any,1,8,[.undef]⟩),
 (143,⟨.any,1,8,[.undef]⟩),
 (144,⟨.any,1,8,[.undef]⟩),
 (145,⟨.any,1,8,[.undef]⟩),
 (146,⟨.any,1,8,[.undef]⟩),
 (147,⟨.int .i64,1,8,[.int .i64 0]⟩),
 (149,⟨.any,1,8,[.undef]⟩),
 (150,⟨.any,1,8,[.undef]⟩),
 (151,⟨.any,1,8,[.undef]⟩),
 (152,⟨.any,1,8,[.undef]⟩),
 (153,⟨.any,1,8,[.undef]⟩),
 (154,⟨.int .u32,1,4,[.int .u32 0]⟩),
 (155,⟨.any,1,8,[.undef]⟩),
 (156,⟨.int .u64,1,8,[.int .u64 0]⟩),
 (157,⟨.any,1,8,[.undef]⟩),
 (158,⟨.any,1,8,[.undef]⟩),
 (159,⟨.any,1,8,[.undef]⟩),
 (160,⟨.int .u64,1,8,[.int .u64 0]⟩),
 (161,⟨.any,1,8,[.undef]⟩),
 (162,⟨.any,1,8,[.undef]⟩),
 (163,⟨.any,1,8,[.undef]⟩),
 (164,⟨.any,1,8,[.undef]⟩),
 (165,⟨.any,1,8,[.undef]⟩),
 (167,⟨.any,1,8,[.undef]⟩),
 (168,⟨.any,1,8,[.undef]⟩),
 (169,⟨.any,1,8,[.undef]⟩),
 (171,⟨.any,1,8,[.undef]⟩),
 (173,⟨.any,1,8,[.undef]⟩),
 (175,⟨.any,1,8,[.undef]⟩),
 (176,⟨.any,1,8,[.undef]⟩),
 (177,⟨.aQ [(0,17),(1,17),(2,17),(3,9)],4,40,[.undef,.undef,.undef,.str ByteArray.empty]⟩),
 (178,⟨.aQ [(0,17),(1,17),(2,17),(3,9)],4,40,[.undef,.undef,.undef,.str ByteArray.empty]⟩),
 (179,⟨.arr 0 16,0,0,[]⟩),
 (182,⟨.int .u8,1,1,[.int .u8 0]⟩),
 (183,⟨.int .u8,1,1,[.int .u8 0]⟩),
 (184,⟨.any,1,8,[.undef]⟩),
 (185,⟨.any,1,8,[.undef]⟩),
 (186,⟨.int .i32,1,4,[.int .i32 0]⟩),
 (187,⟨.int .i32,1,4,[.int .i32 0]⟩),
 (188,⟨.aQ [(0,12),(1,12),(2,154),(3,182),(4,5),(5,5),(6,183),(7,184),(8,185),(9,186),(10,187)],11,48,[.int .u64 0,.int .u64 0,.int .u32 0,.int .u8 0,.int .u8 0,.int .u8 0,.int .u8 0,.undef,.undef,.int .i32 0,.int .i32 0]⟩),
 (189,⟨.aQ [(0,12),(1,12),(2,154),(3,182),(4,5),(5,5),(6,183),(7,184),(8,185),(9,186),(10,187)],11,48,[.int .u64 0,.int .u64 0,.int .u32 0,.int .u8 0,.int .u8 0,.int .u8 0,.int .u8 0,.undef,.undef,.int .i32 0,.int .i32 0]⟩)]
def IQ (T:Nat):TS:=look {} Sw T
theorem ztB:Sw.all (fun p=>match p.2.k with|.other=>true|_=>Cj Tryz.prog p.1 p.2)=true:=by kernel_rfl
theorem zoB {α:Type} {d:α} {q:Nat→α→Bool} (hd:∀ T,q T d=true):∀ (l:List (Nat×α)),l.all (fun p=>q p.1 p.2)=true→∀ T,q T (look d l T)=true
 | [], _, T => hd T
 | (i, a) :: l, h, T => by
  rw [Lg,zx] at h;rw [zI];split
  ·rename_i e;subst e;exact h.1
  ·exact zoB hd l h.2 T
theorem xp (T:Nat):(match (IQ T).k with|.other=>true|_=>Cj Tryz.prog T (IQ T))=true:=
 zoB (q:=fun T ts=>match ts.k with|.other=>true|_=>Cj Tryz.prog T ts) (fun _=>rfl) Sw ztB T
theorem yF:Tryz.prog.follows .mixedOrders=true:=by kernel_rfl
def fP (P:Program) (h1:∀ T,(match (IQ T).k with|.other=>true|_=>Cj P T (IQ T))=true) (h2:P.follows .mixedOrders=true) (N:Nat):Ctx:=⟨P,N,IQ,h1,h2⟩
theorem ym (N:Nat) {f:Nat} {code:Code} {m:ll} {res:FV} (h1:Tryz.prog.funcs[f]? = some fn) (h3:fn.ntmps=N) (hh:res.hand=none) (h:FW (fP Tryz.prog xp yF N) code (fun e s=>(e=.ret∨e=.normal)∧ue (fP Tryz.prog xp yF N) fn s m res) (entry args)) (h2:fn.body=some code:=by exact rfl) (h4:tX Tryz.prog f=true:=by kernel_rfl) (hn:∀ f∈args,f.hand=none:=by simp [FV.hand]) (hl:args.length≤N:=by exact zO rfl):xA Tryz.prog f args m res:=.bH (c:=fP Tryz.prog xp yF N) ⟨h1,h2,h3,h4⟩ hn hl hh h
end
section
open Go.RowKit
structure lr {α:Type} (sz:Nat) (aE:α→List Value) (fv:α→List FV):Prop where
 rd:∀ w I x,aS w I (aE x) (fv x)
 inv:∀ w I us x,aS w I us (fv x)→us=aE x
 wide:∀ x,(fv x).length=sz
 one:∀ x,∀ f∈fv x,f.one=true
 flat:∀ x,FV.flat.dY (fv x)=true
section
variable {α:Type} {sz:Nat} {aE:α→List Value} {fv:α→List FV}
theorem lr.gP (T:lr sz aE fv) (w:World) (I:Nat→Prop):∀ l:List α,aS w I (YtphidhljdcledaaGreat.flat aE l) (l.map fv).flatten
 | [] => aS.nil
 | x :: l => by
  simp only [YtphidhljdcledaaGreat.flat,WG,zZ,xF];exact (T.rd w I x).append (T.gP w I l)
theorem lr.kK (T:lr sz aE fv) (w:World) (I:Nat→Prop):∀ (l:List α) (us:List Value),aS w I us (l.map fv).flatten→us=YtphidhljdcledaaGreat.flat aE l
 | [], us, h => by have := h.1; simpa [YtphidhljdcledaaGreat.flat] using this
 | x :: l, us, h => by
  have h':=h;simp only [zZ,xF] at h;have hl:=T.wide x;have h1:=h.take sz;have h2:=h.drop sz;rw [P6 hl] at h1;rw [List.drop_left' hl] at h2;have e1:=T.inv w I _ x h1;have e2:=T.kK w I l _ h2;simp only [YtphidhljdcledaaGreat.flat,WG];rw [← e1,show List.flatMap aE l=YtphidhljdcledaaGreat.flat aE l from rfl,← e2,YR]
theorem lr.kB (T:lr sz aE fv) (l:List α):∀ e∈l.map fv,e.length=sz:=fun e he=>by
 obtain ⟨x,_,rfl⟩:=zi.1 he;exact T.wide x
theorem lr.pV (T:lr sz aE fv) (l:List α):∀ f∈(l.map fv).flatten,f.one=true:=fun f hf=>by
 obtain ⟨e,he,th⟩:=yJ.1 hf;obtain ⟨x,_,rfl⟩:=zi.1 he;exact T.one x f th
theorem lr.to (T:lr sz aE fv) {A:Option Addr} {l:List α} {c:Nat} (h:Sl aE w B A l) (hc:l.length≤c):Rd w (fun b=>b<B) (.slice A l.length c) (.list sz (l.map fv)):=by
 have hR:=T.gP w (fun b=>b<B) l;refine .list A l.length c sz _ (YtphidhljdcledaaGreat.flat aE l) zc hc (T.kB l) (T.pV l) (fun h0=>?_) hR.1 hR.2;obtain ⟨b,off,ha,hb,aI⟩:=h (fun e=>h0 (by rw [e];rfl));exact ⟨b,off,ha,hb,aI⟩
theorem lr.of (T:lr sz aE fv) {l:List α} (h:Rd w I v (.list sz (l.map fv))) (hI:∀ b,I b→b<B):∃ A c,v=.slice A l.length c∧l.length≤c∧Sl aE w B A l:=by
 cases h with
 | list A n c sz es us hn hc he ho hA hl hr =>
  rw [zj] at hn;subst hn;have:=T.kK w I l us ⟨hl,hr⟩;subst this;refine ⟨A,c,rfl,hc,fun aN=>?_⟩;obtain ⟨b,off,ha,hb,aI⟩:=hA (by simpa using aN);exact ⟨b,off,ha,hI b hb,aI⟩
theorem lr.res (T:lr sz aE fv) {w' : World} {l:List α} (h:w'.ownsRow w.heap.size E sz v l.length (YtphidhljdcledaaGreat.flat aE l)):Cv w w' I (.ow E sz) v (.list sz (l.map fv)):=
 ⟨_,_,rfl,T.kB l,T.pV l,by rw [zj];exact h,T.gP _ _ l⟩
end
theorem Rd.dr {k:IntKind} {n:Int} (h:Rd w I v (.int k n)):v=.int k n:=by cases h;rfl
theorem Rd.lY {b:Bool} (h:Rd w I v (.bool b)):v=.bool b:=by cases h;rfl
theorem aS.cons_inv {f:FV} {fs:List FV} (h:aS w I us (f::fs)):∃ u vs,us=u::vs∧Rd w I u f∧aS w I vs fs:=by
 cases us with
 | nil => have := h.1; simp at this
 | cons u vs => exact ⟨u, vs, rfl, h.2 0 u f rfl rfl, by have := h.1; simpa using this, fun j u' f' hu hf => h.2 (j+1) u' f' (by simpa using hu) (by simpa using hf)⟩
theorem aS.jk (h:aS w I us []):us=[]:=by have:=h.1;simpa using this
theorem aS.inv1 (h:aS w I vs [f0]):∃ u0,vs=[u0]∧Rd w I u0 f0:=by
 obtain ⟨u0,r0,rfl,e0,h0⟩:=h.cons_inv;have:=h0.jk;subst this;exact ⟨u0,rfl,e0⟩
theorem aS.inv2 {f1:FV} (h:aS w I vs [f0,f1]):∃ u0 u1,vs=[u0,u1]∧Rd w I u0 f0∧Rd w I u1 f1:=by
 obtain ⟨u0,r0,rfl,e0,h0⟩:=h.cons_inv;obtain ⟨u1,r1,rfl,e1,h1⟩:=h0.cons_inv;have:=h1.jk;subst this;exact ⟨u0,u1,rfl,e0,e1⟩
def zJ (x:Int):List FV:=[.int .i64 x]
theorem lO:lr 1 jm zJ where
 rd w I x:=aS.cons (.int _ _) .nil
 inv w I us x h:=by
  obtain ⟨u,vs,rfl,h1,h2⟩:=h.cons_inv;rw [h1.dr,h2.jk];rfl
 wide x:=rfl
 one x f hf:=by simp [zJ] at hf;subst hf;rfl
 flat x:=rfl
def aq.fv (o:aq):List FV:=[.int .i64 o.p,.int .i64 o.k,.int .i64 o.key,.int .i64 o.arg,.int .i64 o.res,.int .i64 o.call,.int .i64 o.ret,.bool o.done]
theorem V3:lr 8 aq.aE aq.fv where
 rd w I x:=aS.cons (.int _ _) <| aS.cons (.int _ _) <| aS.cons (.int _ _) <| aS.cons (.int _ _) <| aS.cons (.int _ _) <| aS.cons (.int _ _) <| aS.cons (.int _ _) <| aS.cons (.bool _) .nil
 inv w I us x h:=by
  obtain ⟨_,_,rfl,h1,h⟩:=h.cons_inv;obtain ⟨_,_,rfl,h2,h⟩:=h.cons_inv;obtain ⟨_,_,rfl,h3,h⟩:=h.cons_inv;obtain ⟨_,_,rfl,h4,h⟩:=h.cons_inv;obtain ⟨_,_,rfl,h5,h⟩:=h.cons_inv;obtain ⟨_,_,rfl,h6,h⟩:=h.cons_inv;obtain ⟨_,_,rfl,h7,h⟩:=h.cons_inv;obtain ⟨_,_,rfl,h8,h⟩:=h.cons_inv;rw [h1.dr,h2.dr,h3.dr,h4.dr,h5.dr,h6.dr,h7.dr,h8.lY,h.jk];rfl
 wide x:=rfl
 one x f hf:=by simp [aq.fv] at hf;rcases hf with rfl|rfl|rfl|rfl|rfl|rfl|rfl|rfl <;> rfl
 flat x:=rfl
theorem xA.law {f:Nat} (h:xA P f args .fr (.bool true)) (hv:aS w (fun b=>b<w.heap.size) vs args):Calls P f vs.toArray w fun e w'=>e=.returned (.bool true)∧Below w.heap.size w w':=by
 refine (h.calls w _ vs (fun b hb=>hb) hv).mono ?_;rintro e w' ⟨v,rfl,hb,hr⟩;have nU : Rd w' _ v (.bool true):=hr;rw [nU.lY];exact ⟨rfl,hb⟩
theorem tF {t:List (Nat×FV)} {id:Nat} {es ba : List (List FV)} (hr:fn.results.toList=[.tmp d]) (h:look .undef t d=.own id ae 0 n) (hb:look {} ob id=⟨ae,.own,E,sz,es⟩) (hn:n=es.length) (hp:0<sz) (e:es=ba)
  (hf:∀ e∈ba,FV.flat.dY e=true):ue c fn ⟨t,ob⟩ (.ow E sz) (.list sz ba):=by
 subst e;have cb : (⟨t,ob⟩:ah).ob id=⟨ae,.own,E,sz,es⟩:=hb;have:=ue.ow (c:=c) (fn:=fn) (s:=⟨t,ob⟩) hr h (by rw [cb]) (by rw [cb]) (by rw [cb];exact hn) (by rw [cb];exact hp) (by rw [cb];exact hf);rw [cb] at this;exact this
theorem yt {f f' : FV} (hr:fn.results.toList=[.tmp d]) (h:s.get d=f) (e:f=f') (hf:f'.flat=true):ue c fn s .fr f':=by
 subst e;exact .flat (fs:=[f]) (by rw [hr];exact .cons (.tmp d h (FV.kp hf)) .nil) rfl hf
theorem lr.js {α:Type} {aE:α→List Value} {fv:α→List FV} (T:lr sz aE fv) (l:List α):∀ e∈l.map fv,FV.flat.dY e=true:=fun e he=>by
 obtain ⟨x,_,rfl⟩:=zi.1 he;exact T.flat x
theorem yD {t:List (Nat×FV)} {T id c8:Nat} {kk:TK} {z cs:List FV} {lf:Zn} (h:look .undef t d=.ptr id ae 0 0) (hb:look {} ob id=⟨ae,lf,E,sz,[cs]⟩) (hl:lf.row=true) (hT:c.ty T=⟨kk,sz,c8,z⟩) (hk:kk.bD = some true)
  (hlen:cs.length=sz) (hp:0<sz):CD c ⟨t,ob⟩ (.cell d T) (.agg cs):=by
 have cb : (⟨t,ob⟩:ah).ob id=⟨ae,lf,E,sz,[cs]⟩:=hb;have ee : (c.ty T).k.bD = some true:=by rw [hT];exact hk
 have:=CD.cell (c:=c) (s:=⟨t,ob⟩) d T ee h (yI hb (Zn.fW hl)) (by rw [cb];exact hl) (by rw [cb];exact HF) (by rw [cb,hT];simp) (by rw [cb];exact hp);rw [cb] at this;unfold UG at this;rw [ee] at this;dsimp only at this;rw [hT,Yl] at this;simpa [zS (Ur hlen)] using this
end
section
open Go.Shelf
def zxy:Go.Shelf.Ren:=
{
 f:=fun x=>
  match x with
  | 189 => 33
  | 125 => 54
  | 257 => 53
  | 128 => 78
  | 129 => 79
  | 294 => 69
  | 295 => 70
  | 296 => 71
  | 297 => 72
  | 298 => 73
  | 299 => 74
  | 216 => 75
  | 300 => 76
  | 301 => 77
  | 328 => 88
  | 329 => 89
  | 330 => 90
  | 331 => 91
  | 332 => 92
  | 215 => 93
  | 343 => 96
  | n => n,
 t:=fun x=>
  match x with
  | 28 => 22
  | 3 => 3
  | 46 => 118
  | 0 => 0
  | 51 => 154
  | 53 => 156
  | 4 => 4
  | 183 => 148
  | 182 => 147
  | 131 => 80
  | 5 => 5
  | 9 => 9
  | 218 => 160
  | 222 => 164
  | 228 => 169
  | 229 => 170
  | n => n,
 g:=fun x=>
  have n:=x;
  n }
theorem zss:Lays.n189 Tryz.prog zxy where
 mixed:=by kernel_rfl
 f125:=by kernel_rfl
 f128:=by kernel_rfl
 f129:=by kernel_rfl
 f189:=by kernel_rfl
 f215:=by kernel_rfl
 f216:=by kernel_rfl
 f257:=by kernel_rfl
 f294:=by kernel_rfl
 f295:=by kernel_rfl
 f296:=by kernel_rfl
 f297:=by kernel_rfl
 f298:=by kernel_rfl
 f299:=by kernel_rfl
 f300:=by kernel_rfl
 f301:=by kernel_rfl
 f328:=by kernel_rfl
 f329:=by kernel_rfl
 f330:=by kernel_rfl
 f331:=by kernel_rfl
 f332:=by kernel_rfl
 f343:=by kernel_rfl
 t0:=by kernel_rfl
 a0:=fun _=>by kernel_rfl
 z0:=fun _=>by kernel_rfl
 v0:=fun _=>by kernel_rfl
 t3:=by kernel_rfl
 a3:=fun _=>by kernel_rfl
 z3:=fun _=>by kernel_rfl
 v3:=fun _=>by kernel_rfl
 t4:=by kernel_rfl
 a4:=fun _=>by kernel_rfl
 z4:=fun _=>by kernel_rfl
 v4:=fun _=>by kernel_rfl
 t5:=by kernel_rfl
 a5:=fun _=>by kernel_rfl
 z5:=fun _=>by kernel_rfl
 v5:=fun _=>by kernel_rfl
 t9:=by kernel_rfl
 a9:=fun _=>by kernel_rfl
 z9:=fun _=>by kernel_rfl
 v9:=fun _=>by kernel_rfl
 t28:=by kernel_rfl
 a28:=fun _=>by kernel_rfl
 z28:=fun _=>by kernel_rfl
 v28:=fun _=>by kernel_rfl
 t46:=by kernel_rfl
 a46:=fun _=>by kernel_rfl
 z46:=fun _=>by kernel_rfl
 v46:=fun _=>by kernel_rfl
 t51:=by kernel_rfl
 a51:=fun _=>by kernel_rfl
 z51:=fun _=>by kernel_rfl
 v51:=fun _=>by kernel_rfl
 t53:=by kernel_rfl
 a53:=fun _=>by kernel_rfl
 z53:=fun _=>by kernel_rfl
 v53:=fun _=>by kernel_rfl
 t131:=by kernel_rfl
 a131:=fun _=>by kernel_rfl
 z131:=fun _=>by kernel_rfl
 v131:=fun _=>by kernel_rfl
 t182:=by kernel_rfl
 a182:=fun _=>by kernel_rfl
 z182:=fun _=>by kernel_rfl
 v182:=fun _=>by kernel_rfl
 t183:=by kernel_rfl
 a183:=fun _=>by kernel_rfl
 z183:=fun _=>by kernel_rfl
 v183:=fun _=>by kernel_rfl
 t218:=by kernel_rfl
 a218:=fun _=>by kernel_rfl
 z218:=fun _=>by kernel_rfl
 v218:=fun _=>by kernel_rfl
 t222:=by kernel_rfl
 a222:=fun _=>by kernel_rfl
 z222:=fun _=>by kernel_rfl
 v222:=fun _=>by kernel_rfl
 t228:=by kernel_rfl
 a228:=fun _=>by kernel_rfl
 z228:=fun _=>by kernel_rfl
 v228:=fun _=>by kernel_rfl
 t229:=by kernel_rfl
 a229:=fun _=>by kernel_rfl
 z229:=fun _=>by kernel_rfl
 v229:=fun _=>by kernel_rfl
def zx0:Go.Shelf.Ren:=
{
 f:=fun x=>
  match x with
  | 20 => 34
  | n => n,
 t:=fun x=>
  match x with
  | 22 => 22
  | 3 => 3
  | 4 => 4
  | 0 => 0
  | n => n,
 g:=fun x=>
  have n:=x;
  n }
theorem zvv:Lays2.n20 Tryz.prog zx0 where
 mixed:=by kernel_rfl
 f20:=by kernel_rfl
 t0:=by kernel_rfl
 a0:=fun _=>by kernel_rfl
 z0:=fun _=>by kernel_rfl
 v0:=fun _=>by kernel_rfl
 t3:=by kernel_rfl
 a3:=fun _=>by kernel_rfl
 z3:=fun _=>by kernel_rfl
 v3:=fun _=>by kernel_rfl
 t4:=by kernel_rfl
 a4:=fun _=>by kernel_rfl
 z4:=fun _=>by kernel_rfl
 v4:=fun _=>by kernel_rfl
 t22:=by kernel_rfl
 a22:=fun _=>by kernel_rfl
 z22:=fun _=>by kernel_rfl
 v22:=fun _=>by kernel_rfl
 i3:=by kernel_rfl
end
section
open Go.RowKit Go.Sort
theorem Qy {b:Nat} (hb:w.heap[b]? = some (.cells cur E (0,0))) (hlen:ys.length≤cur.size) :
  w.grownBy (Go.Sort.grow (putRow (Value.int .i64) (Sort.ahead w n) b 0 ys.toArray) os) (some b)∧
   ∃ dG,(Go.Sort.grow (putRow (Value.int .i64) (Sort.ahead w n) b 0 ys.toArray) os).heap[b]? = some (.cells dG E (0,0))∧dG.size=cur.size∧∀ m,m≤ys.length→dG.toList.take m=(ys.take m).map (Value.int .i64):=by
 have aA:b<w.heap.size:=(YL.1 hb).1;have aY:(putRow (Value.int .i64) (Sort.ahead w n) b 0 ys.toArray).heap.size=w.heap.size:=by simp
 refine ⟨⟨rfl,rfl,rfl,by simp,fun k hk aN=>?_⟩,putCells (Value.int .i64) 0 ys.toArray cur,?_,by simp [putCells],fun m hm=>?_⟩
 ·rw [heap_grow_old _ _ (by rw [aY];exact hk)];simp only [putRow,mapBlock,Cb,heap_ahead];rw [if_neg (fun e=>aN (by rw [e]))]
 ·rw [heap_grow_old _ _ (by rw [aY];exact aA)];simp only [putRow,mapBlock,Cb,heap_ahead,hb,if_true,Za,onCells]
 ·apply BZ
  ·simp [putCells];omega
  ·intro i h1 h2;have hi:i<m:=by simp at h1;omega
   have iE:i<ys.length:=by omega
   simp [putCells,iE]
section
variable {N:Nat} {w0 w:World} {J:JJ} {s s' : ah} {a:Act} {β:Nat→Option Nat}
theorem LR (h:FR N w0 J s a w β) {id b:Nat} (aR:s.ob id=⟨ae,.own,E,1,zs.map zJ⟩) (hb:β id=some b) :
  ∃ cur cap,w.heap[b]? = some (.cells cur E (0,0))∧zs.length≤cap∧cap≤maxLen∧cur.size=cap∧w0.heap.size≤b∧b<w.heap.size∧cur.toList.take zs.length=zs.map (Value.int .i64):=by
 have hl:(s.ob id).ao≠.dead:=by rw [aR];exact (by decide:Zn.own≠.dead)
 have hO:=(h.obj id hl).bM (by rw [aR];rfl);have aA:=(h.obj id hl).lt hb;obtain ⟨v,us,r1,r2,r3⟩:=hO.row;rw [aR] at r1 r3;dsimp only at r1 r3;rcases r1.2 with ⟨rfl,_⟩|⟨g',cap,cur,rfl,_,ec,hn,hm,bk,fz⟩
 ·rw [← r2] at hb;simp [Value.ownBlock] at hb
 ·have qy:g'=b:=by rw [← r2] at hb;simpa [Value.ownBlock] using hb
  subst qy;have:=lO.kK w _ zs us r3;refine ⟨cur,cap,ec,by simpa using hn,hm,by simpa using bk,aA.1,aA.2,?_⟩;rw [zj,xY] at fz;rw [fz,this,Wo]
theorem ziz {id b:Nat} (hb:w.heap[b]? = some (.cells cur E (0,0))) (ht:cur.toList.take zs.length=zs.map (Value.int .i64)):Holds (Value.int .i64) w b 0 zs.toArray:=by
 intro j hj;have dT : j<zs.length:=by simpa using hj
 have qz:(cur.toList.take zs.length)[j]? = some (Value.int .i64 zs[j]):=by rw [ht];simp [dT]
 rw [xG,if_pos dT] at qz;refine ⟨?_,?_⟩
 ·simp only [World.cell?,hb,yh];rw [← Array.getElem?_toList];simp [qz,dT]
 ·simp [World.frozen?,hb]
theorem FR.Hf (h:FR N w0 J s a w β) {id b:Nat} (aR:s.ob id=⟨ae,.own,E,1,zs.map zJ⟩) (hb:β id=some b) (hl:ys.length=zs.length)
  (hs:∀ k,s'.ob k=if id=k then ⟨ae,.own,E,1,ys.map zJ⟩ else s.ob k) (aO:∀ k,s'.get k=s.get k):FR N w0 J s' a (Go.Sort.grow (putRow (Value.int .i64) (Sort.ahead w n) b 0 ys.toArray) os) β:=by
 obtain ⟨cur,cap,h1,h2,h3,h4,h5,h6,h7⟩:=LR h aR hb;obtain ⟨hg,dG,g1,g2,g3⟩:=Qy (n:=n) (ys:=ys) (os:=os) h1 za;have Gj:(s.ob id).E=E:=by rw [aR]
 have Gk:(s.ob id).sz=1:=by rw [aR]
 have Oj:(s.ob id).es=zs.map zJ:=by rw [aR]
 refine h.write id (es:=ys.map zJ) (v:=.slice (some ⟨b,0,none⟩) ys.length cap) (xs:=flat jm ys) (by rw [aR]) (by rw [hb];exact hg) (by rw [Gk];exact lO.kB ys) (lO.pV ys) ?_ (by rw [hb];rfl) (lO.gP w _ ys) (by rw [Oj];simpa using hl) ?_ (fun k=>?_) aO
 ·rw [Gj,Gk];refine ⟨by rw [Wo];simp,.inr ⟨b,cap,dG,by simp,h5,g1,by rw [zj];omega,h3,by omega,?_⟩⟩;rw [zj,xY,g3 _ (zg _),yy,Wo]
 ·intro b' c1 c2 e1 e2 e3;rw [hb] at e1;injection e1 with e1
  subst e1;rw [Gj] at e2 e3;rw [h1] at e2;rw [g1] at e3;injection e2 with e2;injection e2 with e2 _ _
  injection e3 with e3;injection e3 with e3 _ _
  rw [← e2,← e3,g2]
 ·rw [hs,aR]
theorem FR.He (h:FR N w0 J s a w β) {id b k:Nat} (aR:s.ob id=⟨ae,.own,E,1,zs.map zJ⟩) (hb:β id=some b) (hl:ys.length=zs.length) (hk:k≤ys.length)
  (hs:∀ i,s'.ob i=if id=i then ⟨ae+1,.own,E,1,(ys.take k).map zJ⟩ else s.ob i) (aO:∀ k,s'.get k=s.get k) :
  ∃ aJ,FR N w0 J s' a (Go.Sort.grow (putRow (Value.int .i64) (Sort.ahead w n) b 0 ys.toArray) os) aJ∧aJ id=some b:=by
 obtain ⟨cur,cap,h1,h2,h3,h4,h5,h6,h7⟩:=LR h aR hb;obtain ⟨hg,dG,g1,g2,g3⟩:=Qy (n:=n) (ys:=ys) (os:=os) h1 za;refine ⟨_,h.make (some id) id (E:=E) (sz:=1) (es:=(ys.take k).map zJ) (v:=.slice (some ⟨b,0,none⟩) k cap) (xs:=flat jm (ys.take k)) (fun i e=>by injection e with e;subst e;rw [aR];rfl) (by simpa [hb] using hg) (lO.kB _) (lO.pV _) ?_ (lO.gP w _ _)
  (.inl (by simp [hb,Value.ownBlock])) (fun i=>?_) aO,by simp [WX,Value.ownBlock]⟩
 ·have hlen:(ys.take k).length=k:=by rw [zW];omega
  refine ⟨by rw [Wo];simp,.inr ⟨b,cap,dG,by rw [zj,hlen],h5,g1,by rw [zj,hlen];omega,h3,by omega,?_⟩⟩;rw [zj,hlen,xY,g3 k hk,Wo]
 ·rw [hs,aR];by_cases e:id=i
  ·subst e;simp
  ·rw [if_neg e,if_neg e,if_neg (by intro e2;injection e2 with e2;exact e e2)]
end
theorem zkM (n:Int) (h0:0≤n) (h1:n≤18446744073709551615):xA Tryz.prog 54 [.int .u64 n] .fr (.int .i64 (Lib.bitLen n.toNat)) where
 go:=by kernel_rfl
 hand:=rfl
 calls w I vs hI hv:=by
  obtain ⟨_,rfl,e1⟩:=hv.inv1;rw [e1.dr];refine (calls_of_every_depth fun D=>AnyS.bits_LenIn { zss with } D n w h0 h1).mono ?_;rintro e w' ⟨rfl,rfl⟩;exact ⟨_,rfl,Zc _ _,.int _ _⟩
theorem zjS:xA Tryz.prog 69 [.list 1 [],.int .i64 0,.int .i64 0] .fr (.bd []):=by
 refine ym 49 Tryz.func69 Tryz.ntmps69 rfl ?_;change FW _ _ _ ⟨[(0,.list 1 []),(1,.int .i64 0),(2,.int .i64 0)],[]⟩;refine zb ?_;refine FW.loop (fun _:Unit=>⟨[(2,.int .i64 0),(6,.int .i64 1)],[]⟩) (fun _=>True) (fun _=>0) () trivial (ar.cv [] xu zf) ?_;intro _ _;refine zb ?_;exact ⟨.inr rfl,.flat .nil rfl rfl⟩
theorem zsM (n:Int):xA Tryz.prog 53 [.list 1 [],.int .i64 0,.int .i64 0,.int .i64 n] .fr (.bd []):=by
 refine ym 134 Tryz.func53 Tryz.ntmps53 rfl ?_;change FW _ _ _ ⟨[(0,.list 1 []),(1,.int .i64 0),(2,.int .i64 0),(3,.int .i64 n)],[]⟩;refine zb ?_;refine FW.loop (fun _:Unit=>⟨[(0,.list 1 []),(1,.int .i64 0),(2,.int .i64 0)],[]⟩) (fun _=>True) (fun _=>0) () trivial (ar.cv [] xu zf) ?_;intro _ _;refine zb ?_;refine yP zjS (by repeat (first|exact zH.nil|refine zH.cons zB ?_)) rfl rfl ?_;refine zb ?_;exact FW.ret ⟨.inl rfl,.flat .nil rfl rfl⟩
theorem zqD:xA Tryz.prog 33 [.list 1 []] .fr (.bd []):=by
 refine ym 11 Tryz.func33 Tryz.ntmps33 rfl ?_;change FW _ _ _ ⟨[(0,.list 1 [])],[]⟩;refine zb ?_;refine yP (zkM 0 zd zd) (by repeat (first|exact zH.nil|refine zH.cons zB ?_)) rfl rfl ?_;skip;refine yP (zsM _) (by repeat (first|exact zH.nil|refine zH.cons zB ?_)) rfl rfl ?_;refine zb ?_;exact ⟨.inr rfl,.flat .nil rfl rfl⟩
theorem QV (t:List (Nat×FV)) (args:List FV) (k:Nat) (b b' : zE) (i:Nat):(⟨t,[(k,b')]⟩:ah).ob i=if k=i then b' else (xT args [(k,b)]).ob i:=by
 show look ({}:zE) [(k,b')] i=if k=i then b' else look ({}:zE) [(k,b)] i
 rw [zI,zI];split <;> rfl
theorem ztj {N:Nat} {w0:World} {J:JJ} {β:Nat→Option Nat} (h:FR N w0 J s a w β) {id:Nat} (aR:s.ob id=⟨ae,.own,E,1,zs.map zJ⟩) (hb:β id=none):zs=[]:=by
 have hO:=(h.obj id (by rw [aR];exact (by decide:Zn.own≠.dead))).bM (by rw [aR];rfl);obtain ⟨v,us,r1,r2,r3⟩:=hO.row;rw [aR] at r1;dsimp only at r1;rcases r1.2 with ⟨rfl,h0⟩|⟨g',cap,cur,rfl,_⟩
 ·simpa using h0
 ·rw [hb] at r2;simp [Value.ownBlock] at r2
theorem Vs {v:Nat} {b:zE} {res:FV} {o:Nat→zE} {k:Nat} (hr:res.cl [k]=true) (hl:(o k).ao=.own) (hs:(o k).sz=b.sz) (hb:b.ao=.own):VK [(k,b)] [] res o where
 bL q hq _:=by
  obtain rfl:q=k:=by simpa using hq
  exact ⟨by rw [hl];rfl,by rw [hs,zI,if_pos rfl],by rw [hl,zI,if_pos rfl,hb]⟩
 new q hq:=by cases hq
 cl q hq:=by
  obtain rfl:q=k:=by simpa using hq
  unfold zE.cl;rw [hl]
 res:=hr
theorem zi8 (v:Nat) (zs:List Int) (hz:zs.length<4611686018427387904):xN Tryz.prog 33 [.own 5000 v 0 zs.length] [(5000,⟨v,.own,3,1,zs.map zJ⟩)] []
  (fun res o=>res=.bd []∧o 5000=⟨v,.own,3,1,(zs.mergeSort fun x y=>decide (x≤y)).map zJ⟩) where
 go:=by kernel_rfl
 post res o h:=by obtain ⟨rfl,h⟩:=h;exact Vs (v:=v) rfl (by rw [h]) (by rw [h]) rfl
 calls w0 J w β vs hF:=by
  obtain ⟨v0,rfl⟩:∃ v0,vs=[v0]:=by
   have:=hF.size
   match vs,this with
   | [v0], _ => exact ⟨v0, rfl⟩
  have aR:(xT [.own 5000 v 0 zs.length] [(5000,⟨v,.own,3,1,zs.map zJ⟩)]).ob 5000=⟨v,.own,3,1,zs.map zJ⟩:=rfl;have h0:=hF.slot 0;have hO:fh w (β 5000) _ v0 0 zs.length:=h0 (by rw [aR];exact (by decide:Zn.own≠.dead)) rfl;obtain ⟨A,c,e1,e2,e3,e4,e5⟩:=hO.ex;subst e1;cases hb:β 5000 with
  | none =>
   obtain rfl:=ztj hF aR hb;obtain ⟨rfl,rfl⟩:=e4 hb;refine (zqD.calls w (fun _=>False) [.slice none 0 0] (fun b h=>h.elim) (aS.cons (.list none 0 0 1 [] [] rfl (zg _) zc zc zc zc zc) .nil)).mono ?_;rintro e w' ⟨v1,rfl,hB,hr⟩;have hG:=hF.grow hB;refine ⟨v1,.bd [],_,β,rfl,⟨rfl,by simp [look]⟩,hG.slots rfl hF.defers fun d=>?_⟩;cases d with
   | zero => exact VR.plain (hr.flat rfl _ _) rfl
   | succ d => exact VR.plain (.undef _) rfl
  | some b =>
   obtain ⟨o',rfl,k2,k3⟩:=e5 b hb;have eJ:=k2 (.inr rfl);have:o'=0:=by rw [eJ];exact Ya _
   subst this;obtain ⟨cur,cap,q1,q2,q3,q4,q5,q6,q7⟩:=LR hF aR hb;refine (Any.slices_Sort_int zss b 0 c zs w (ziz (id:=0) q1 q7) q6 hz).mono ?_;rintro e w' ⟨rfl,n,os,rfl⟩;have hlen:(zs.mergeSort fun x y=>decide (x≤y)).length=zs.length:=Hy zs;have hR:=hF.Hf (n:=n) (os:=os) (s':=⟨(xT [.own 5000 v 0 zs.length] [(5000,⟨v,.own,3,1,zs.map zJ⟩)]).t,[(5000,⟨v,.own,3,1,(zs.mergeSort fun x y=>decide (x≤y)).map zJ⟩)]⟩) aR hb hlen (fun k=>QV _ _ _ _ _ k) (fun k=>rfl);refine ⟨.tuple #[],.bd [],_,β,rfl,⟨rfl,rfl⟩,hR.slots rfl hF.defers fun d=>?_⟩;cases d with
   | zero => exact VR.plain (.bd [] [] rfl zc) rfl
   | succ d => exact VR.plain (.undef _) rfl
theorem W1 (v:Nat) (zs:List Int) (hz:zs.length≤9223372036854775807):xN Tryz.prog 34 [.own 5000 v 0 zs.length] [(5000,⟨v,.own,3,1,zs.map zJ⟩)] []
  (fun res o=>res=.own 5000 (v+1) 0 (Lib.compact zs).length∧o 5000=⟨v+1,.own,3,1,(Lib.compact zs).map zJ⟩) where
 go:=by kernel_rfl
 post res o h:=by obtain ⟨rfl,h⟩:=h;exact Vs (v:=v) rfl (by rw [h]) (by rw [h]) rfl
 calls w0 J w β vs hF:=by
  obtain ⟨v0,rfl⟩:∃ v0,vs=[v0]:=by
   have:=hF.size
   match vs,this with
   | [v0], _ => exact ⟨v0, rfl⟩
  have aR:(xT [.own 5000 v 0 zs.length] [(5000,⟨v,.own,3,1,zs.map zJ⟩)]).ob 5000=⟨v,.own,3,1,zs.map zJ⟩:=rfl;have h0:=hF.slot 0;have hO:fh w (β 5000) _ v0 0 zs.length:=h0 (by rw [aR];exact (by decide:Zn.own≠.dead)) rfl;obtain ⟨A,c,e1,e2,e3,e4,e5⟩:=hO.ex;subst e1;cases hb:β 5000 with
  | none=>
   obtain rfl:=ztj hF aR hb;obtain ⟨rfl,rfl⟩:=e4 hb;refine (Any.slices_Compact_int_empty zvv none 0 w).mono ?_;rintro e w' ⟨rfl,rfl⟩;have hR:=hF.make (some 5000) 5000 (E:=3) (sz:=1) (es:=[]) (v:=.slice none 0 0) (xs:=[]) (s':=⟨(xT [.own 5000 v 0 ([]:List Int).length] [(5000,⟨v,.own,3,1,([]:List Int).map zJ⟩)]).t,[(5000,⟨v+1,.own,3,1,[]⟩)]⟩)
    (fun i e=>by injection e with e;subst e;rfl) ⟨rfl,rfl,rfl,zg _,fun _ _ _=>rfl⟩ zc zc (Wj _ _ _ _) aS.nil (.inl hb.symm) (fun k=>by
     refine (QV _ [.own 5000 v 0 ([]:List Int).length] 5000 ⟨v,.own,3,1,([]:List Int).map zJ⟩ _ k).trans ?_;by_cases e:5000=k
     ·rw [if_pos e,if_pos e];rfl
     ·rw [if_neg e,if_neg e,if_neg (by intro e2;injection e2 with e2;exact e e2)]) (fun k=>rfl)
   refine ⟨.slice none 0 0,.own 5000 (v+1) 0 0,_,_,rfl,⟨rfl,rfl⟩,hR.slots rfl hF.defers fun d=>?_⟩;cases d with
   | zero =>
    refine ⟨fun _ _=>⟨rfl,none,0,rfl,zg _,by simp,fun _=>⟨rfl,rfl⟩,fun b2 e=>by simp [WX,Value.ownBlock] at e⟩,fun id ae hm=>?_⟩;have nO:=zq.1 hm;injection nO with m1 m2
    subst m1;subst m2;exact zg _
   | succ d => exact VR.plain (.undef _) rfl
  | some b=>
   obtain ⟨o',rfl,k2,k3⟩:=e5 b hb;have eJ:=k2 (.inr rfl);have:o'=0:=by rw [eJ];exact Ya _
   subst this;obtain ⟨cur,cap,q1,q2,q3,q4,q5,q6,q7⟩:=LR hF aR hb;refine (Any.slices_Compact_int zvv b 0 c zs w (ziz (id:=0) q1 q7) hz e2).mono ?_;rintro e w' ⟨rfl,n,rfl⟩;have hle:(Lib.compact zs).length≤zs.length:=by
    unfold Lib.compact Lib.compactUpTo;rw [zj];exact yc (xV _ _) zc
   have hlen:(Lib.compact zs++List.replicate (zs.length - (Lib.compact zs).length) 0).length=zs.length:=by simp;omega
   obtain ⟨aJ,hR,cb⟩:=hF.He (n:=n) (os:=#[]) (k:=(Lib.compact zs).length) (s':=⟨(xT [.own 5000 v 0 zs.length] [(5000,⟨v,.own,3,1,zs.map zJ⟩)]).t,[(5000,⟨v+1,.own,3,1,(Lib.compact zs).map zJ⟩)]⟩) aR hb hlen zc (fun k=>by
    rw [List.take_left];exact QV _ _ _ _ _ k) (fun k=>rfl)
   rw [grow_empty] at hR;have bk:cur.size=(0+c) * 1:=k3 cur q1;refine ⟨.slice (some ⟨b,0,none⟩) (Lib.compact zs).length c,.own 5000 (v+1) 0 (Lib.compact zs).length,_,aJ,rfl,⟨rfl,rfl⟩,hR.slots rfl hF.defers fun d=>?_⟩;cases d with
   | zero=>
    refine ⟨fun _ _=>⟨rfl,some ⟨b,0,none⟩,c,rfl,by omega,?_,fun e=>?_,fun b2 e=>?_⟩,fun id ae hm=>?_⟩
    ·show 0+(Lib.compact zs).length≤((Lib.compact zs).map zJ).length;simp
    ·rw [cb] at e;cases e
    ·rw [cb] at e;injection e with e
     subst e;refine ⟨0,rfl,fun _=>by simp,fun ui nH=>?_⟩;obtain ⟨_,dG,g1,g2,_⟩:=Qy (w:=w) (n:=n) (ys:=Lib.compact zs++List.replicate (zs.length - (Lib.compact zs).length) 0) (os:=#[]) q1 (by rw [hlen];omega);rw [grow_empty] at g1;have po : (putRow (Value.int .i64) (Sort.ahead w n) b 0 (Lib.compact zs++List.replicate (zs.length - (Lib.compact zs).length) 0).toArray).heap[b]? = some (.cells ui 3 (0,0)):=nH;rw [g1] at po;injection po with po
     injection po with po _ _
     rw [← po,g2];exact bk
    ·have nO:=zq.1 hm;injection nO with m1 m2
     subst m1;subst m2;exact zg _
   | succ d => exact VR.plain (.undef _) rfl
end
theorem Pv {l:List aq}:∀ {k:Nat} {p:Int} {o:aq},Xz l k p=some o→∃ m,m<k∧nth l m=o∧o.p=p
 | 0, _, _, h => by simp [Xz] at h
 | k+1,p,o,h=>by
  simp only [Xz] at h;split at h
  ·rename_i hp;injection h with h
   exact ⟨k,by omega,h,by rw [← h,hp]⟩
  ·obtain ⟨m,h1,h2⟩:=Pv h;exact ⟨m,by omega,h2⟩
theorem HP {l:List aq} {k:Nat} {f:aq→Bool} (h:(l.take k).any f=true):∃ m,m<k∧m<l.length∧f (nth l m)=true:=by
 obtain ⟨o,ho,hf⟩:=Yk.1 h;obtain ⟨m,hm,rfl⟩:=zU ho;have nO : m<k∧m<l.length:=by simp at hm;omega
 refine ⟨m,nO.1,nO.2,?_⟩;rw [ak nO.2];simpa using hf
theorem Vr {l:List aq}:∀ (n k:Nat),(∀ j,k≤j→j<k+n→kg l j=0)→xj l k n=0
 | 0, _, _ => rfl
 | n+1, k, h => by
  rw [X0 (h k (zg _) za)];exact Vr n (k+1) fun j h1 h2=>h j za za
theorem Ht {k:Nat} {f:Nat→Bool}:(List.range k).any f=true↔∃ j,j<k∧f j=true:=by
 rw [Yk];constructor
 ·rintro ⟨j,hj,h⟩;exact ⟨j,by simpa using hj,h⟩
 ·rintro ⟨j,hj,h⟩;exact ⟨j,by simpa using hj,h⟩
section
open Go.RowKit
def WZ (n az:Int):Int:=(if n<0 then -(n+1) else n) % az
theorem Qk {n:Int} (h:0<az):0≤WZ n az:=Ro _ za
theorem Qj {n:Int} (h:0<az):WZ n az<az:=Rn _ h
theorem WO (n az:Int) (w:World) (hn:bU n) (h1:1≤az) (h2:az≤4611686018427387904) :
  Calls Tryz.prog 30 #[.int .i64 n,.int .i64 az] w fun e w'=>e=.returned (.int .i64 (WZ n az))∧w=w':=by
 unfold bU at hn;obtain ⟨g1,g2⟩:=hn;by_cases Gf:n<0
 ·have e:WZ n az=(-(n+1)) % az:=by simp [WZ,Gf]
  rw [e];clear e
  go_enter Tryz.func30,Tryz.ntmps30
  go_wp2
  go_ret
  have e2:-(n+1).tmod az=(-(n+1)) % az:=by rw [← Int.neg_tmod,znU za]
  exact ⟨by simp [e2],rfl⟩
 ·have e:WZ n az=n % az:=by simp [WZ,Gf]
  rw [e];clear e
  go_enter Tryz.func30,Tryz.ntmps30
  go_wp2
  go_ret
  exact ⟨rfl,rfl⟩
theorem zgu (l:List aq) (aP:∀ o∈l,Ue o) (hlen:l.length≤1000000000):xA Tryz.prog 12 [.list 8 (l.map aq.fv)] .fr (.int .i64 (Zj l)) where
 go:=by kernel_rfl
 hand:=rfl
 calls w I vs hI hv:=by
  obtain ⟨_,rfl,e1⟩:=hv.inv1;obtain ⟨A,c,rfl,_,hs⟩:=V3.of e1 hI;refine (zpX A c l w hs aP hlen).mono ?_;rintro e w' ⟨rfl,hb⟩;exact ⟨_,rfl,hb,.int _ _⟩
end
section
set_option maxRecDepth 100000
open Go.ChangeShapes Go.WideShapes Go.ChangeAt Go.RowKit Go.Deep
theorem zr8 (h:(Lit.int .i64 x).wf=true):bU x:=by
 simp [Lit.wf,IntKind.min,IntKind.max,IntKind.signed,IntKind.bits] at h;unfold bU;omega
section
variable {H:Type} {enc:TypeId×Value→H} {W:World} {base:Nat} {spare:Nat→Bool} {held:Bool} {v:Value} {d:DataW H} {p:List MemPlace} {r:Reach} {b0:Nat}
theorem ztv {a:Addr} {u:Value} (h:w.cell? a=some u):a=⟨a.block,a.off,none⟩:=by
 obtain ⟨b,o,s⟩:=a;cases s with
 | none => rfl
 | some s =>
  unfold World.cell? at h;simp only [Option.isSome_some,if_true] at h;split at h <;> cases h
theorem ztY (a:Addr) (h:a=⟨a.block,a.off,none⟩) (n:Nat):a.add n=⟨a.block,a.off+n,none⟩:=by
 obtain ⟨b,o,s⟩:=a;obtain rfl:s=none:=by injection h
 unfold Addr.add;split
 ·subst n;rfl
 ·rfl
theorem zs0 (hv:Value.okWide Tryz.prog W r b0 22 v) (h:DataW.Trod enc Tryz.prog W base spare held 22 v d p) :
  ∃ A c l,v=.slice A l.length c∧Sl jm W W.heap.size A l∧(∀ x∈l,bU x)∧l.length≤9223372036854775807:=by
 obtain ⟨a0,pT,MA,rfl⟩:=okWide_slice Tryz.underlying22 hv;obtain ⟨fuel,hf⟩:=h;rcases open_ints Tryz.underlying22 Tryz.underlying3 zw hf with ⟨bk,_⟩|⟨x,l,c,zs,bk,_,hl,hm,hz,_,aI,U4⟩
 ·simp [Value.cells] at bk;obtain ⟨rfl,rfl,rfl⟩:=bk;exact ⟨none,0,[],rfl,Sl.O9 _ _ _ _,by simp,zp _⟩
 ·simp [Value.cells] at bk;obtain ⟨rfl,rfl,rfl⟩:=bk;have Dc:pT≤zs.length:=by rw [hz];split <;> omega
  have hlen:(zs.take pT).length=pT:=by simp;omega
  refine ⟨some x,MA,zs.take pT,by rw [hlen],fun aN=>?_,fun y hy=>zr8 (U4 y (xn hy)),by unfold maxLen at hm;omega⟩;have h0:0<pT:=by
   rcases Yv pT with e|e
   ·subst e;simp at aN
   ·exact e
  have Nq:=aI 0 za;rw [show x.add 0=x by simp [Addr.add]] at Nq;have hs:=ztv Nq;refine ⟨x.block,x.off,by rw [← hs],World.block_lt_of_cell? W x Nq,fun j u hu=>?_⟩;rw [Wo,ye,xG] at hu;split at hu
  ·have hj:j<zs.length:=by omega
   have:=aI j hj;rw [ztY x hs] at this;rw [this];simpa [hj] using hu
  ·simp at hu
end
section
variable {H:Type} {enc:TypeId×Value→H} {W:World} {base:Nat} {spare:Nat→Bool} {held:Bool} {v:Value} {d:DataW H} {p:List MemPlace} {r:Reach} {b0:Nat}
end
section
variable {H:Type} {enc:TypeId×Value→H} {W:World} {base:Nat} {spare:Nat→Bool} {held:Bool} {v:Value} {d:DataW H} {p:List MemPlace} {r:Reach} {b0:Nat}
theorem zvX (hv:Value.okWide Tryz.prog W r b0 22 v) (h:DataW.Trod enc Tryz.prog W base spare held 22 v d p) :
  ∃ l:List Int,Rd W (fun b=>b<W.heap.size) v (.list 1 (l.map zJ))∧(∀ x∈l,bU x)∧l.length≤9223372036854775807:=by
 have h':=h;obtain ⟨A,c,l,rfl,s,i,m⟩:=zs0 hv h;refine ⟨l,?_,i,m⟩;obtain ⟨fuel,hf⟩:=h';rcases open_ints Tryz.underlying22 Tryz.underlying3 zw hf with ⟨bk,_⟩|⟨x,l',c',zs,bk,_,hl,hm,hz,_,aI,U4⟩
 ·simp [Value.cells] at bk;obtain ⟨rfl,h0,rfl⟩:=bk;exact lO.to s (by simp [h0])
 ·simp [Value.cells] at bk;obtain ⟨rfl,h0,rfl⟩:=bk;exact lO.to s za
end
end
section
open Go.RowKit
theorem Y9 (h:zs.Pairwise (·≤·)):(Lib.compact zs).Pairwise (· < ·):=by
 unfold Lib.compact Lib.compactUpTo;have hs:(List.range zs.length).Pairwise (· < ·):=Kz;rw [Um];refine ((hs.filter (Lib.keeps zs.toArray)).imp_of_mem ?_);intro i j hi hj dc;have dT:=zY.1 hj;have cN:j<zs.length:=zn.1 dT.1;have hk:=dT.2;have eZ:i<zs.length:=by omega
 have e1:zs.toArray[i]! = zs[i]:=by simp [eZ]
 have e2:zs.toArray[j]! = zs[j]:=by simp [cN]
 have e3:zs.toArray[j - 1]! = zs[j - 1]:=by simp [show j - 1<zs.length by omega]
 have gl:zs[j]≠zs[j - 1]:=by
  unfold Lib.keeps at hk;rw [e2,e3] at hk;have:j≠0:=by omega
  simpa [this] using hk
 rw [e1,e2];have h1:zs[i]≤zs[j - 1]:=by
  rcases yg i (j - 1) with hl|hl
  ·exact Zw.1 h i (j - 1) eZ za hl
  ·have:i=j - 1:=by omega
   subst this;exact XR _
 have h2:zs[j - 1]≤zs[j]:=Zw.1 h (j - 1) j za cN za;omega
theorem Z0 {y:Int}:y∈Lib.compact zs↔y∈zs:=by
 unfold Lib.compact Lib.compactUpTo;constructor
 ·intro h;obtain ⟨j,hj,rfl⟩:=zi.1 h;have cN:j<zs.length:=zn.1 (zY.1 hj).1;have e2:zs.toArray[j]! = zs[j]:=by simp [cN]
  rw [e2];exact xH cN
 ·intro h;have key:∀ n j,j≤n→(hj:j<zs.length)→zs[j]=y→∃ k,k∈(List.range zs.length).filter (Lib.keeps zs.toArray)∧zs.toArray[k]! = y:=by
   intro n
   induction n with
   | zero =>
    intro j gj hj e;have:j=0:=by omega
    subst this;exact ⟨0,zY.2 ⟨zn.2 hj,by simp [Lib.keeps]⟩,by simp [hj,e]⟩
   | succ n ih=>
    intro j gj hj e;have e2:zs.toArray[j]! = zs[j]:=by simp [hj]
    by_cases hk:Lib.keeps zs.toArray j=true
    ·exact ⟨j,zY.2 ⟨zn.2 hj,hk⟩,by rw [e2,e]⟩
    ·have oK:j≠0:=by rintro rfl;exact hk (by simp [Lib.keeps])
     have e3:zs.toArray[j - 1]! = zs[j - 1]:=by simp [show j - 1<zs.length by omega]
     have:zs[j]=zs[j - 1]:=by
      unfold Lib.keeps at hk;rw [e2,e3] at hk;simpa [oK] using hk
     exact ih (j - 1) za za (by rw [← this];exact e)
  obtain ⟨j,hj,e⟩:=zU h;obtain ⟨k,h1,h2⟩:=key j j (zg _) hj e;exact zi.2 ⟨k,h1,h2⟩
theorem zmi (zs:List Int):(zs.mergeSort fun x y=>decide (x≤y)).Pairwise (·≤·):=by
 have:=List.pairwise_mergeSort (le:=fun x y:Int=>decide (x≤y)) (by intro a b c h1 h2;simp at *;omega) (by intro a b;simp;omega) zs;exact this.imp (by intro a b h;simpa using h)
theorem zkn (a b:List Int) (ha:a.length≤1000000000) (hb:b.length≤1000000000):xA Tryz.prog 52 [.list 1 (a.map zJ),.list 1 (b.map zJ)] .fr (.bool (decide (a=b))):=by
 refine ym 26 Tryz.func52 Tryz.ntmps52 rfl ?_;change FW _ _ _ ⟨[(0,.list 1 (a.map zJ)),(1,.list 1 (b.map zJ))],[]⟩;refine zb ?_;refine FW.cond rfl (fun h=>?_) (fun h=>?_)
 ·refine zb ?_;refine FW.ret ⟨.inl rfl,yt rfl rfl ?_ rfl⟩;have:a≠b:=by rintro rfl;simp at h
  simp [this];rfl
 ·have hlen:a.length=b.length:=by simp at h;omega
  refine zb ?_;refine FW.loop (fun k:Nat=>⟨[(0,.list 1 (a.map zJ)),(1,.list 1 (b.map zJ)),(5,.int .i64 k)],[]⟩) (fun k=>k≤a.length∧a.take k=b.take k) (fun k=>a.length - k) 0 zc (ar.cv [] xu zf) ?_;rintro k ⟨hk,eX⟩;refine zb ?_;refine FW.cond rfl (fun h=>?_) (fun h=>?_)
  ·have aA:k<a.length:=by simpa using h
   clear h;refine Zf ?_;refine ⟨by kernel_rfl,?_⟩;refine FW.cond rfl (fun h=>?_) (fun h=>?_)
   ·refine zb ?_;refine FW.ret ⟨.inl rfl,yt rfl rfl ?_ rfl⟩;have:a≠b:=by rintro rfl;simp at h
    simp [this];rfl
   ·refine zb ?_;refine ⟨k+1,⟨by omega,?_⟩,by omega,(ar.cv [] xu zf)⟩;have h1:nth a k=nth b k:=by simpa using h
    rw [xe aA,xe za,eX,← ak aA,← ak za,h1]
  ·refine zb ?_;refine FW.ret ⟨.inl rfl,yt rfl rfl ?_ rfl⟩;have:k=a.length:=by simp at h;omega
   subst this;have:a=b:=by rw [zS (zg _),zS za] at eX;exact eX
   simp [this];rfl
def gN (l:List aq) (i k:Nat):Bool:=(nth l i).done && decide ((nth l i).ret<(nth l k).call)
theorem X4 (l:List aq) (i k:Nat) (hi:i<l.length) (hk:k<l.length):xA Tryz.prog 35 [.list 8 (l.map aq.fv),.int .i64 i,.int .i64 k] .fr (.bool (gN l i k)):=by
 refine ym 37 Tryz.func35 Tryz.ntmps35 rfl ?_;change FW _ _ _ ⟨[(0,.list 8 (l.map aq.fv)),(1,.int .i64 i),(2,.int .i64 k)],[]⟩;refine zb ?_;refine yR (fun h=>?_) (fun h=>?_)
 ·exfalso;simp at h;omega
 ·refine zb ?_;refine FW.cond rfl (fun h=>?_) (fun h=>?_)
  ·exfalso;simp at h;omega
  refine Zf ?_;refine Cg (fun h=>?_) (fun h=>?_)
  ·refine yH ?_;refine ⟨by kernel_rfl,?_⟩;skip;refine FW.ret ⟨.inl rfl,yt rfl rfl ?_ rfl⟩;simp [gN,h];rfl
  ·refine yH ?_;refine ⟨by kernel_rfl,?_⟩;skip;refine FW.ret ⟨.inl rfl,yt rfl rfl ?_ rfl⟩;simp [gN,h];rfl
def IX (l:List Int) (n:Int):Bool:=decide (n∈l)
def tE (l:List aq) (i:Nat):List Int:=(l.take i).map aq.key
def Wy (l:List aq):List Int:=Lib.compact ((l.map aq.key).mergeSort fun x y=>decide (x≤y))
theorem znh (l:List aq) (i:Nat) (hi:i<l.length):tE l (i+1)=tE l i++[(nth l i).key]:=by
 unfold tE;rw [xe hi,zF,ak hi];rfl
theorem zp2 (l:List aq) (i:Nat):(tE l i).length≤l.length:=by unfold tE;rw [zj,zW];omega
theorem zix (l:List aq) (hl:l.length≤1000000000):xA Tryz.prog 15 [.list 8 (l.map aq.fv)] (.ow 3 1) (.list 1 ((Wy l).map zJ)):=by
 refine ym 22 Tryz.func15 Tryz.ntmps15 rfl ?_;change FW _ _ _ ⟨[(0,.list 8 (l.map aq.fv))],[]⟩;refine zb ?_;refine FW.loop (fun i:Nat=>⟨[(3,.own 100 0 0 (tE l i).length),(6,.list 8 (l.map aq.fv)),(7,.int .i64 l.length),(8,.int .i64 i)],[(100,⟨0,.own,3,1,(tE l i).map zJ⟩)]⟩) (fun i=>i≤l.length) (fun i=>l.length - i) 0 (zp _)
  (ar.cv [⟨100,none,0,⟨0,.own,3,1,[]⟩⟩] zh zf) ?_
 intro i hi;have Da:=zp2 l i;refine zb ?_;refine FW.cond rfl (fun h=>?_) (fun h=>?_)
 ·have aA:i<l.length:=by simpa using h
  clear h;refine zb ?_;refine ⟨i+1,by omega,by omega,?_⟩;rw [znh l i aA,zF];exact (ar.cv [⟨100,some 16,1,⟨0,.own,3,1,(tE l i).map zJ++[(nth l i).key].map zJ⟩⟩] zh zf)
 ·have:i=l.length:=by simp at h;omega
  subst this;have hk:tE l l.length=l.map aq.key:=by unfold tE;rw [yy]
  rw [hk];have hlen:((l.map aq.key).mergeSort fun x y=>decide (x≤y)).length=(l.map aq.key).length:=Hy _;refine zb ?_;refine Yq (zi8 0 (l.map aq.key) zM) [(5000,100)] rfl (zQ.cons rfl rfl rfl zQ.nil) rfl rfl rfl rfl rfl rfl ?_;rintro _ _ ⟨rfl,h1⟩;refine ZQ.one [(100,⟨0,.own,3,1,((l.map aq.key).mergeSort fun x y=>decide (x≤y)).map zJ⟩)] (.bd []) rfl (congrArg (fun b=>[(100,zE.ren (cM [(5000,100)]) b)]) h1) ?_;refine zb ?_;refine Yq (W1 0 ((l.map aq.key).mergeSort fun x y=>decide (x≤y)) (by rw [hlen];simp;omega)) [(5000,100)] ?_ (zQ.cons rfl rfl rfl zQ.nil) rfl rfl rfl rfl rfl rfl ?_
  ·rw [hlen];rfl
  rintro _ _ ⟨rfl,h1⟩;refine ZQ.one [(100,⟨1,.own,3,1,(Wy l).map zJ⟩)] (.own 100 1 0 (Wy l).length) rfl (congrArg (fun b=>[(100,zE.ren (cM [(5000,100)]) b)]) h1) ?_;refine zb ?_;exact FW.ret ⟨.inl rfl,tF rfl rfl rfl zc zd rfl (lO.js _)⟩
end
def SC (a b:aq):Prop:=a.call<b.call∧(a.done=true→a.ret≠b.call∧(b.done=true→b.ret≠a.ret))∧(a.p=b.p→a.done=true∧a.ret≤b.call)
structure lT (l:List aq):Prop where
 len:l.length≤300
 wf:∀ o∈l,iH o=true
 rel:l.Pairwise SC
theorem lT.pair {l:List aq} (h:lT l) {i j:Nat} (dc:i<j) (hj:j<l.length):SC (nth l i) (nth l j):=by
 rw [ak hj,ak (show i<l.length by omega)];exact Zw.1 h.rel i j za hj dc
theorem lT.at {l:List aq} (h:lT l) (hi:i<l.length):iH (nth l i)=true:=h.wf _ (zu hi)
theorem zo5 {o:aq} (h:iH o=true):o.call<o.ret:=by
 simp only [iH,zx,decide_eq_true_eq] at h;omega
theorem lT.err {l:List aq} (h:lT l) {k:Nat} (hk:k<l.length):kg l k=0:=by
 unfold kg;rw [if_neg (by rw [h.at hk];decide)];rw [if_neg (fun e=>by have:=(h.pair (show k - 1<k by omega) hk).1;omega)];rw [if_neg (fun e=>?_),if_neg (fun e=>?_)]
 ·obtain ⟨e1,e2⟩:=e;obtain ⟨q,hq⟩:=Option.isSome_iff_exists.1 e1;rw [hq] at e2;simp only [Zy] at e2;obtain ⟨m,hm,hmq,N9⟩:=Pv hq;subst hmq;obtain ⟨h1,h2⟩:=(h.pair hm hk).2.2 N9;rcases e2 with e2|e2
  ·rw [h1] at e2;cases e2
  ·omega
 ·have ret:∀ x,ln l k x=true→∃ m,m<k∧(nth l m).done=true∧(nth l m).ret=x:=fun x hx=>by
   unfold ln at hx;obtain ⟨m,h1,_,h3⟩:=HP hx;simp only [zx,beq_iff_eq] at h3;exact ⟨m,h1,h3⟩
  simp only [xB,zx] at e;rcases e with e|⟨hd,e|e⟩
  ·obtain ⟨m,h1,h2,h3⟩:=ret _ e;exact ((h.pair h1 hk).2.1 h2).1 h3
  ·obtain ⟨m,h1,h2,h3⟩:=ret _ e;exact ((h.pair h1 hk).2.1 h2).2 hd h3.symm
  ·unfold oY at e;obtain ⟨j,_,hj,h3⟩:=HP e;simp only [beq_iff_eq] at h3;have hc:=zo5 (h.at hk);rcases Yw j k with h4|h4|h4
   ·have:=(h.pair h4 hk).1;omega
   ·subst h4;omega
   ·exact ((h.pair h4 hj).2.1 hd).1 h3.symm
theorem lT.check {l:List aq} (h:lT l):Zj l=0:=by
 unfold Zj;rw [if_neg (by have:=h.len;omega)];exact Vr _ _ fun j _ hj=>h.err za
section
open Go.RowKit
theorem zr5 (l:List aq):(Wy l).Pairwise (· < ·):=Y9 (zmi _)
theorem Ho (l:List aq) (y:Int):y∈Wy l↔∃ o∈l,o.key=y:=by
 unfold Wy;rw [Z0,List.mem_mergeSort,zi]
theorem zly {k i:TypeId} {fs:Array Field} (hu:P.underlying k=some (.struct fs)) (hf:fs.toList.map (fun f=>(f.type,f.offset))=[(i,0),(i,1)]) (hn:fs.all (·.name != "_")=true)
  (hi:P.underlying i=some (.int .i64)) (c1:P.cellsOf i=1) (c2:P.cellsOf k=2) (hk:P.keyType k=true) (n:Nat) (ht:P.types.size=n+1) {a b:Int} (ha:(Lit.int .i64 a).wf=true) (hb:(Lit.int .i64 b).wf=true) :
  ∃ l,keyOf P k (.agg #[.int .i64 a,.int .i64 b])=some l:=by
 have iY:∃ f g,fs.toList=[f,g]∧f.type=i∧f.offset=0∧g.type=i∧g.offset=1:=by
  generalize fs.toList=l at hf;rcases l with _|⟨f,_|⟨g,_|⟨h,t⟩⟩⟩ <;> simp at hf
  exact ⟨f,g,rfl,hf.1.1,hf.1.2,hf.2.1,hf.2.2⟩
 obtain ⟨f,g,hl,f1,f2,g1,g2⟩:=iY;have one:∀ x,(Lit.int .i64 x).wf=true→P.keyLits (n+1) i [.int .i64 x]=some [.int .i64 x]:=fun x hx=>by
  unfold Program.keyLits;rw [hi];simp [hx]
 have two:P.keyLits (P.types.size+1) k [.int .i64 a,.int .i64 b]=some [.int .i64 a,.int .i64 b]:=by
  unfold Program.keyLits;rw [hu];have cR:(fs.toList.all fun x=>x.name != "_")=true:=by
   rw [Array.all_toList];exact hn
  simp only;rw [if_pos ⟨by rw [c2];rfl,by simpa using hn⟩,hl,ht];simp [f1,f2,g1,g2,c1,one a ha,one b hb]
 unfold keyOf;rw [hu];refine ⟨.string (keyBytes [.int .i64 a,.int .i64 b]),?_⟩;have JE:(Value.agg #[.int .i64 a,.int .i64 b]).formed P k=true:=by simp [Value.formed,hu,c2]
 simp only [hk,JE,Bool.and_self,if_true];rw [show (Value.agg #[.int .i64 a,.int .i64 b]).cells.toList=[.int .i64 a,.int .i64 b] from rfl,two];rfl
theorem zsn:laidOutB Tryz.prog=true:=by kernel_rfl
def zoZ (P:Program) (k:TypeId):Array Field:=match P.underlying k with|some (.struct fs)=>fs|_=>#[]
def UV (a b:Int):FV:=.agg [.int .i64 a,.int .i64 b]
theorem Cn {a:Int} (h:bU a):(Lit.int .i64 a).wf=true:=by
 have h1:IntKind.i64.min = -9223372036854775808:=by kernel_rfl
 have h2:IntKind.i64.max=9223372036854775807:=by kernel_rfl
 unfold bU at h;simp [Lit.wf,h1,h2,h]
def L4 (l:List Oper):Bool:=LL l && (List.range l.length).all fun i=>(List.range i).all fun j=>((o5 l []).getD i []).contains j || (l.getD j default).apart l.toArray (l.getD i default)
def still (tr:List Rec):Bool:=tr.all fun r=>r.wr.isEmpty
theorem zeP {s' : ah} {tr:List Rec} (aO:L4 l=true) (hx:sK c l.toArray s l tr s') (hs:still tr=true):DP l.toArray tr=true:=by
 obtain ⟨hlen,_,fM⟩:=hx.at;unfold L4 at aO;rw [zx] at aO;unfold DP;rw [zx];refine ⟨aO.1,?_⟩;unfold R5;rw [zL];intro i hi;rw [zL];intro j hj;have iE:i<l.length:=by rw [← hlen];exact zn.1 hi
 have gT:j<i:=zn.1 hj;have h:=zL.1 (zL.1 aO.2 i (zn.2 iE)) j hj;rw [xB] at h ⊢;refine h.imp id (fun h=>?_);have key:∀ k,k<l.length→(tr.getD k default).wr=[]:=fun k hk=>by
  have ee : k<tr.length:=by omega
  have:tr.getD k default∈tr:=by
   rw [yz,xz ee,Zy];exact xH ee
  have:=zL.1 hs _ this;exact List.isEmpty_iff.1 this
 unfold UZ;rw [key i iE,key j za,(fM i iE).1,(fM j za).1,h];rfl
/-! the same look,reckoned on numbers -/
def Ck:List Nat→Nat
 | [] => 0
 | t :: l => (1 <<< t) ||| Ck l
theorem PG {d:Nat}:∀ {l:List Nat},d∈l→(Ck l).testBit d=true
 | t :: l, h => by
  unfold Ck;rw [Uu,xB];rcases zA.1 h with rfl|h
  ·left;rw [Nat.testBit_shiftLeft];simp
  ·exact .inr (PG h)
def CG (o:Oper):Nat:=match o.dst with|some d=>1 <<< d|none=>0
theorem PW (h:o.dst=some d):(CG o).testBit d=true:=by
 unfold CG;rw [h];dsimp only;rw [Nat.testBit_shiftLeft];simp
def Ja (n:Nat) (k:Nat→Bool):Bool:=match n with|0=>k 0|m+1=>k (m+1)
theorem Sg (n:Nat) (k:Nat→Bool):Ja n k=k n:=by cases n <;> rfl
def Mj (A D L:Nat):Nat→List (Nat×Nat)→Bool
 | _, [] => true
 | j, p :: rest => (A.testBit (j - 1) || (Nat.beq (p.1 &&& (L ||| D)) 0 && Nat.beq (D &&& p.2) 0)) && Mj A D L (j - 1) rest
def Em (i:Nat) (acc:List Nat):List Edge→Nat
 | [] => 0
 | e :: es => (if Region.binds .any e then (1 <<< e.on) ||| acc.getD (i - 1 - e.on) 0 else 0) ||| Em i acc es
def Eb (i:Nat):List Edge→Bool
 | [] => true
 | e :: es => (!Region.binds .any e || Nat.blt e.on i) && Eb i es
def Mc (ops:Array Oper):List Oper→Nat→List (Nat×Nat)→List Nat→Bool
 | [], _, _, _ => true
 | o :: l, i, prev, acc => Ja (CG o) fun D => Ja (Ck (o.looksAt ops)) fun L => Ja (Em i acc o.after.toList) fun A => Eb i o.after.toList && Mj A D L i prev && Mc ops l (i+1) ((D, L) :: prev) (A :: acc)
def zol (l:List Oper):Bool:=Mc l.toArray l 0 [] []
theorem zoN {A D L:Nat}:∀ {prev:List (Nat×Nat)} {j:Nat},prev.length=j→Mj A D L j prev=true→∀ x,x<j→A.testBit x=true∨((prev.getD (j - 1 - x) (0,0)).1 &&& (L ||| D)=0∧D &&& (prev.getD (j - 1 - x) (0,0)).2=0)
 | [], j, hl, _, x, hx => by simp at hl; omega
 | p::rest,j,hl,h,x,hx=>by
  unfold Mj at h;rw [zx] at h;rcases Vf (show x≤j - 1 by omega) with e|aA
  ·subst e;rw [xZ,DF];rw [xB,zx] at h;exact h.1.imp id fun h=>⟨ZF h.1,ZF h.2⟩
  ·have:=zoN (by simp at hl;omega) h.2 x aA;rwa [show j - 1 - x=(j - 1 - 1 - x)+1 by omega,DE]
theorem zq3 {i:Nat} {lU:List Nat} {acc:List (List Nat)} (hl:acc.length=i) (hm:∀ k,k<i→∀ b,(lU.getD (i - 1 - k) 0).testBit b=true→b∈acc.getD k []):∀ (es:List Edge),Eb i es=true→∀ b,(Em i lU es).testBit b=true→
  b∈es.flatMap fun e=>if Region.binds .any e then e.on::acc.getD e.on [] else []
 | [], _, b, h => by simp [Em] at h
 | e ::es,he,b,h=>by
  unfold Eb at he;rw [zx] at he;unfold Em at h;rw [Uu,xB] at h;rw [WG,zC];rcases h with h|h
  ·left;by_cases hb:Region.binds .any e=true
   ·rw [if_pos hb] at h ⊢;rw [Uu,xB] at h;rcases h with h|h
    ·rw [Nat.one_shiftLeft,Nat.testBit_two_pow] at h;have:e.on=b:=of_decide_eq_true h;rw [this];exact Yu
    ·have h1:=he.1;rw [hb] at h1;have h1:e.on<i:=by simpa using h1
     exact xW _ (hm _ h1 b h)
   ·rw [if_neg hb] at h;simp at h
  ·exact .inr (zq3 hl hm es he.2 b h)
theorem zoc {i:Nat}:∀ {es:List Edge},Eb i es=true→∀ e∈es,(!Region.binds .any e || decide (e.on<i))=true
 | e::es,h,e',he=>by
  unfold Eb at h;rw [zx] at h;rcases zA.1 he with rfl|he
  ·have:=h.1;rw [xB] at this ⊢;exact this.imp id fun h=>decide_eq_true (zO h)
  ·exact zoc h.2 e' he
theorem zq4 {a b:Nat} (h:a &&& b=0) (ha:a.testBit d=true):b.testBit d=false:=by
 have:(a &&& b).testBit d=false:=by rw [h];exact Nat.zero_testBit d
 rw [Nat.testBit_and,ha,yN] at this;exact this
theorem zpf {x y:Oper} (h1:CG x &&& (Ck (y.looksAt ops) ||| CG y)=0) (h2:CG y &&& Ck (x.looksAt ops)=0):x.apart ops y=true:=by
 unfold Oper.apart;rw [zx];constructor
 ·cases hd:x.dst with
  | none => rfl
  | some d=>
   have:=zq4 h1 (PW hd);rw [Uu,Rl] at this;dsimp only;rw [zx];constructor
   ·cases hc:(y.looksAt ops).contains d with
    | false => rfl
    | true =>
     have:=this.1;rw [PG (by simpa using hc)] at this;cases this
   ·simp only [bne_iff_ne,ne_eq];intro e;have:=this.2;rw [PW e] at this;cases this
 ·cases hd:y.dst with
  | none => rfl
  | some d =>
   have:=zq4 h2 (PW hd);dsimp only;cases hc:(x.looksAt ops).contains d with
   | false => rfl
   | true => rw [PG (by simpa using hc)] at this; cases this
theorem zla {ops:Array Oper}:∀ {l:List Oper} {first:List Oper} {i:Nat} {prev:List (Nat×Nat)} {lU:List Nat} {acc:List (List Nat)},first.length=i→prev.length=i→lU.length=i→acc.length=i→
  (∀ j,j<i→prev.getD (i - 1 - j) (0,0)=(CG (first.getD j default),Ck ((first.getD j default).looksAt ops)))→(∀ k,k<i→∀ b,(lU.getD (i - 1 - k) 0).testBit b=true→b∈acc.getD k [])→
  Mc ops l i prev lU=true→∀ k,k<l.length→(∀ e∈(l.getD k default).after.toList,(!Region.binds .any e || decide (e.on<i+k))=true)∧∀ j,j<i+k→j∈(o5 l acc).getD (i+k) []∨((first++l).getD j default).apart ops (l.getD k default)=true
 | [], _, _, _, _, _, _, _, _, _, _, _, _, k, hk => by simp at hk
 | o ::l,first,i,prev,lU,acc,hf,hp,ha,hc,h1,h2,h,k,hk=>by
  unfold Mc at h;rw [Sg,Sg,Sg,zx,zx] at h;obtain ⟨⟨he,hpr⟩,Gv⟩:=h;have ur:∀ b,(Em i lU o.after.toList).testBit b=true→b∈o.after.toList.flatMap fun e=>if Region.binds .any e then e.on::acc.getD e.on [] else []:=zq3 hc h2 _ he
  cases k with
  | zero=>
   refine ⟨fun e hee=>zoc he e (by simpa using hee),fun j hj=>?_⟩;rw [ZZ] at hj ⊢;rw [DF];rcases zoN hp hpr j hj with q|⟨q1,q2⟩
   ·left;rw [o5,znR l _ i zM,yz,Zd za,hc,xZ];simpa using ur j q
   ·right;rw [h1 j hj] at q1 q2;rw [yz,xO za,← yz];exact zpf q1 q2
  | succ k=>
   have:=zla (first:=first++[o]) (i:=i+1) (acc:=acc++[o.after.toList.flatMap fun e=>if Region.binds .any e then e.on::acc.getD e.on [] else []]) zM zM zM zM (fun j hj=>?_) (fun q hq b hb=>?_) Gv k (by simpa using hk)
   ·rw [show i+1+k=i+(k+1) by omega] at this;rw [DE,o5];rw [yV] at this;exact this
   ·rcases Vf (show j≤i by omega) with e|aA
    ·subst e;rw [Nat.add_sub_cancel,xZ,DF];have:(first++[o]).getD j default=o:=by rw [yz,Zd za,hf,xZ];rfl
     rw [this]
    ·rw [show i+1 - 1 - j=(i - 1 - j)+1 by omega,DE,h1 j aA];have:(first++[o]).getD j default=first.getD j default:=by rw [yz,xO za,← yz]
     rw [this]
   ·rcases Vf (show q≤i by omega) with e|aA
    ·subst e;rw [Nat.add_sub_cancel,xZ,DF] at hb;rw [yz,Zd za,hc,xZ];simpa using ur b hb
    ·rw [show i+1 - 1 - q=(i - 1 - q)+1 by omega,DE] at hb;rw [yz,xO za,← yz];exact h2 q aA b hb
theorem zhW (h:zol l=true):L4 l=true:=by
 have key:=zla (first:=[]) (acc:=[]) (i:=0) rfl rfl rfl rfl (fun j hj=>by omega) (fun j hj=>by omega) h;unfold L4;rw [zx];constructor
 ·unfold LL;rw [zL];intro i hi;rw [zL];intro e he;have:=(key i (zn.1 hi)).1 e he;rwa [yh] at this
 ·rw [zL];intro i hi;rw [zL];intro j hj;have:=(key i (zn.1 hi)).2 j (by rw [yh];exact zn.1 hj);rw [yh,YQ] at this;rw [xB];exact this.imp (fun h=>by simpa using h) id
theorem FW.ko {Q:Exit→ah→Prop} {id:Nat} (aO:zol l=true) (h:zR c l.toArray l s [] fun s' tr=>still tr=true∧Q .normal s'):FW c (.region id l.toArray true) Q s:=by
 obtain ⟨tr,s',hx,hs,hq⟩:=h;exact FW.draw ⟨tr,s',hx,zeP (zhW aO) hx (by simpa using hs),hq⟩
end
end Go.Proofs.YtphidhljdcledaaGreat
