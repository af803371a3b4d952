/-
  Some texts as one: FmCau3, FmCau4.
-/
import Derived.Test.YtmnmakhpjgjdaaaZFmW
import Derived.Test.YtmnmakhpjgjdaaaZDA
import Derived.Test.YtmnmakhpjgjdaaaZS
namespace Go.Proofs.Ytmnmakhpjgjdaaa
set_option linter.unusedVariables false
set_option maxHeartbeats 16000000
open Go.RowKit
def xY (l:List OpV):Nat→List (Int×Int)
 | 0 => []
 | i+1 => if (nth l i).k=0 ∧ (nth l i).done=true ∧ ((nth l i).key, (nth l i).res) ∉ xY l i then xY l i ++ [((nth l i).key, (nth l i).res)] else xY l i
def zo5 (p:Int×Int):List FV:=[zeo p.1 p.2,.agg []]
def Zs (l:List OpV) (i:Nat):List (List FV):=(xY l i).map zo5
theorem Ui {l:List OpV} {a b:Int}:∀ {i:Nat},(a,b)∈xY l i↔∃ j,j<i∧(nth l j).k=0∧(nth l j).done=true∧(nth l j).key=a∧(nth l j).res=b
 | 0 => by simp [xY]
 | i + 1=>by
  unfold xY;have ih:=Ui (l:=l) (a:=a) (b:=b) (i:=i);constructor
  ·intro h;split at h
   ·rename_i hc;rcases List.mem_append.1 h with h|h
    ·obtain ⟨j,hj,q⟩:=ih.1 h;exact ⟨j,by omega,q⟩
    ·have h:=List.mem_singleton.1 h;injection h with h1 h2
     exact ⟨i,by omega,hc.1,hc.2.1,h1.symm,h2.symm⟩
   ·obtain ⟨j,hj,q⟩:=ih.1 h;exact ⟨j,by omega,q⟩
  ·rintro ⟨j,hj,q1,q2,q3,q4⟩;by_cases hji:j=i
   ·subst hji;rw [q3,q4];split
    ·simp
    ·rename_i hc;simp only [not_and,Classical.not_not] at hc;exact hc q1 q2
   ·have:=ih.2 ⟨j,by omega,q1,q2,q3,q4⟩;split
    ·exact List.mem_append_left _ this
    ·exact this
theorem zfE {l:List OpV} {i:Nat} (hi:i≤l.length) (hin:∀ o∈l,Ve o):∀ row∈Zs l i,∀ kf,row.head? = some kf→Zy Try.prog 87 kf:=fun row hr kf hk=>by
 obtain ⟨⟨a,b⟩,hp,rfl⟩:=List.mem_map.1 hr;obtain ⟨j,hj,_,_,h1,h2⟩:=Ui.1 hp;have ho:=hin _ (zC (show j<l.length by omega));injection hk with hk
 subst hk;exact UV (by rw [← h1];exact ho.2.2.1) (by rw [← h2];exact ho.2.2.2.2.1)
theorem znP (l:List OpV) (i:Nat) (a b:Int):Xw (Zs l i) (zeo a b) (.agg []) (.agg []) (decide ((a,b)∈xY l i)):=by
 by_cases h:(a,b)∈xY l i
 ·rw [decide_eq_true h];exact .inl ⟨rfl,List.mem_map.2 ⟨_,h,rfl⟩⟩
 ·rw [decide_eq_false h];refine .inr ⟨rfl,rfl,fun row hr e=>?_⟩;obtain ⟨p,hp,rfl⟩:=List.mem_map.1 hr;injection e with e
  obtain ⟨e1,e2⟩:=Vv e;exact h (by rw [← e1,← e2];exact hp)
theorem zlg {l:List OpV} {i:Nat} (h0:(nth l i).k=0) (h1:(nth l i).done=true):zj2 (Zs l i) (zeo (nth l i).key (nth l i).res) (.agg []) (Zs l (i+1)):=by
 by_cases h:((nth l i).key,(nth l i).res)∈xY l i
 ·have e:Zs l (i+1)=Zs l i:=by unfold Zs;rw [show xY l (i+1)=xY l i from if_neg (fun q=>q.2.2 h)]
  have hm:zo5 ((nth l i).key,(nth l i).res)∈Zs l i:=List.mem_map.2 ⟨_,h,rfl⟩;obtain ⟨j,hj,hje⟩:=List.getElem_of_mem hm;rw [e];refine .inl ⟨j,.agg [],by rw [List.getElem?_eq_getElem hj,hje];rfl,?_⟩;apply List.ext_getElem?;intro q;rw [List.getElem?_set];by_cases hq:j=q
  ·subst hq;rw [if_pos rfl,if_pos hj,List.getElem?_eq_getElem hj,hje];rfl
  ·rw [if_neg hq]
 ·refine .inr ⟨fun row hr e=>?_,?_⟩
  ·obtain ⟨p,hp,rfl⟩:=List.mem_map.1 hr;injection e with e
   obtain ⟨e1,e2⟩:=Vv e;exact h (by rw [← e1,← e2];exact hp)
  ·unfold Zs;rw [show xY l (i+1)=xY l i++[((nth l i).key,(nth l i).res)] from if_pos ⟨h0,h1,h⟩,List.map_append];rfl
theorem zjm {l:List OpV} {i:Nat} (h:¬ ((nth l i).k=0∧(nth l i).done=true)):Zs l (i+1)=Zs l i:=by
 unfold Zs;rw [show xY l (i+1)=xY l i from if_neg (fun q=>h ⟨q.1,q.2.1⟩)]
theorem zgG (l:List OpV) (o:OpV):decide ((o.key,o.arg)∈xY l l.length)=l.any (zmc o.key o.arg):=by
 rw [Bool.eq_iff_iff,decide_eq_true_iff,Ui,zge];constructor
 ·rintro ⟨j,hj,q1,q2,q3,q4⟩;exact ⟨j,hj,by unfold zmc;simp [q1,q2,q3,q4]⟩
 ·rintro ⟨j,hj,h⟩;unfold zmc at h;simp at h;exact ⟨j,hj,by simp [h],by simp [h],by simp [h],by simp [h]⟩
def zO (l:List OpV) (i:Nat):List Nat:=(List.range i).filter (zK l)
theorem ziS (l:List OpV) (i:Nat):zO l (i+1)=zO l i++if zK l i=true then [i] else []:=by
 unfold zO;rw [List.range_succ,List.filter_append];congr 1;by_cases h:zK l i=true <;> simp [h]
theorem YB (l:List OpV) (i:Nat):(zO l i).length≤i:=Nat.le_trans (List.length_filter_le _ _) zc
theorem xw:Maps.Keyed Try.prog 3:=Maps.int_keyed (q:=.i64) zj
theorem Zw {a:Int} (ha:I64 a):Zy Try.prog 3 (.int .i64 a):=⟨rfl,_,Maps.keyOf_int_mk (q:=.i64) zj (zfn ha)⟩
def Xr (l:List OpV) (X:List Nat) (p:Int):Option Nat:=X.reverse.find? fun k=>decide ((nth l k).p=p)
def yi (l:List OpV) (X:List Nat) (i:Nat):Option Nat:=X.find? fun k=>decide (i<k) && decide ((nth l k).p=(nth l i).p)
theorem ziY (l:List OpV) (X:List Nat) (i:Nat) (p:Int):Xr l (X++[i]) p=if (nth l i).p=p then some i else Xr l X p:=by
 unfold Xr;rw [List.reverse_append,List.reverse_singleton,List.singleton_append,List.find?_cons];by_cases h:(nth l i).p=p
 ·rw [if_pos h,decide_eq_true h]
 ·rw [if_neg h,decide_eq_false h]
theorem Wi {l:List OpV} {X:List Nat} {p:Int} {k:Nat} (h:Xr l X p=some k):k∈X∧(nth l k).p=p:=by
 have h1:=List.find?_some h;have h2:=List.mem_of_find?_eq_some h;exact ⟨by simpa using h2,by simpa using h1⟩
theorem ziX {l:List OpV} {X:List Nat} {p:Int} (h:Xr l X p=none):∀ k∈X,(nth l k).p≠p:=fun k hk=>by
 have:=List.find?_eq_none.1 h k (by simpa using hk);simpa using this
theorem zba {l:List OpV} {X:List Nat} (hX:X.Pairwise (· < ·)) {p:Int} {k:Nat} (h:Xr l X p=some k):∀ q∈X,(nth l q).p=p→q≤k:=fun q hq hp=>by
 unfold Xr at h;rw [List.find?_eq_some_iff_append] at h;obtain ⟨_,ua,ub,e,hn⟩:=h;have hq2:q∈X.reverse:=by simpa using hq
 rw [e] at hq2;rcases List.mem_append.1 hq2 with h1|h1
 ·have:=hn q h1;simp [hp] at this
 ·rcases List.mem_cons.1 h1 with rfl|h1
  ·exact Nat.le_refl _
  ·have hX2:=List.pairwise_reverse.2 (show X.Pairwise (fun a b=>a<b) from hX);have hX3:X.reverse.Pairwise fun a b=>b<a:=hX2;rw [e] at hX3;exact Nat.le_of_lt ((List.pairwise_cons.1 (List.pairwise_append.1 hX3).2.1).1 q h1)
def e3 (l:List OpV) (X:List Nat) (i:Nat):List (List FV):=(yi l X i).toList.map fun k:Nat=>[.int .i64 (k:Int),.int .i64 1]
theorem zgR {l:List OpV} {X:List Nat} (hX:X.Pairwise (· < ·)) {i:Nat} (hi:∀ k∈X,k<i) {j:Nat} (hj:j∈X):yi l (X++[i]) j=if Xr l X (nth l i).p=some j then some i else yi l X j:=by
 unfold yi;rw [List.find?_append];by_cases h:Xr l X (nth l i).p=some j
 ·rw [if_pos h];obtain ⟨_,h2⟩:=Wi h;have h3:=zba hX h;have:(X.find? fun k=>decide (j<k) && decide ((nth l k).p=(nth l j).p))=none:=by
   rw [List.find?_eq_none];intro q hq;simp only [Bool.and_eq_true,decide_eq_true_eq,not_and];intro hlt hp;have:=h3 q hq (hp.trans h2);omega
  rw [this,Option.none_or,List.find?_cons,decide_eq_true (hi j hj),decide_eq_true h2.symm];rfl
 ·rw [if_neg h];cases hf:X.find? fun k=>decide (j<k) && decide ((nth l k).p=(nth l j).p) with
  | some q => rfl
  | none=>
   rw [Option.none_or,List.find?_cons,decide_eq_true (hi j hj),Bool.true_and];by_cases hp:(nth l i).p=(nth l j).p
   ·exfalso;cases hl:Xr l X (nth l i).p with
    | none => exact ziX hl j hj hp.symm
    | some k =>
     obtain ⟨h1,h2⟩:=Wi hl;have h3:=zba hX hl j hj hp.symm;have hne:j≠k:=fun e=>h (by rw [e];exact hl);have:=List.find?_eq_none.1 hf k h1;simp only [Bool.and_eq_true,decide_eq_true_eq,not_and] at this;exact this za (h2.trans hp)
   ·rw [decide_eq_false hp];rfl
theorem zgQ {l:List OpV} {X:List Nat} {i:Nat} (hi:∀ k∈X,k<i):yi l (X++[i]) i=none:=by
 unfold yi;rw [List.find?_eq_none];intro q hq;rcases List.mem_append.1 hq with h|h
 ·have:=hi q h;simp;omega
 ·rw [List.mem_singleton.1 h];simp
theorem zbc {l:List OpV} {X:List Nat} (hX:X.Pairwise (· < ·)) {p:Int} {j:Nat} (h:Xr l X p=some j):yi l X j=none:=by
 unfold yi;rw [List.find?_eq_none];intro q hq;simp only [Bool.and_eq_true,decide_eq_true_eq,not_and];intro hlt hp;have:=zba hX h q hq (hp.trans (Wi h).2);omega
theorem zgv {l:List OpV} {X:List Nat} (hX:X.Pairwise (· < ·)) {i:Nat} (hi:∀ k∈X,k<i) {j:Nat} (hj:j∈X):e3 l (X++[i]) j=if Xr l X (nth l i).p=some j then e3 l X j++[[.int .i64 (i:Int),.int .i64 1]] else e3 l X j:=by
 unfold e3;rw [zgR hX hi hj];by_cases h:Xr l X (nth l i).p=some j
 ·rw [if_pos h,if_pos h,zbc hX h];rfl
 ·rw [if_neg h,if_neg h]
theorem zkq {l:List OpV} {X:List Nat} {i:Nat} (hi:∀ k∈X,k<i):e3 l (X++[i]) i=[]:=by
 unfold e3;rw [zgQ hi];rfl
def VP (X:List Nat) (j:Nat):FV:=if j∈X then .omap (1000+j) 0 else .nilm
def Vd (l:List OpV) (X:List Nat) (j:Nat):zq:=if j∈X then ⟨0,.mapo,67,0,e3 l X j⟩ else ⟨0,.own,67,1,[]⟩
theorem za7 (l:List OpV) (i:Nat):(zO l i).Pairwise (· < ·):=List.Pairwise.filter _ List.pairwise_lt_range
theorem xt {l:List OpV} {i j:Nat} (h:j∈zO l i):j<i:=by simpa using (List.mem_filter.1 h).1
def e4 (l:List OpV) (I Y:List Nat) (q:Nat):List (List FV):=e3 l I q++(Y.filter fun k=>decide (yR l k=some q∧yi l I q≠some k)).map fun k:Nat=>[.int .i64 (k:Int),.int .i64 2]
theorem zoF (l:List OpV) (I:List Nat) (q:Nat):e4 l I [] q=e3 l I q:=by unfold e4;simp
theorem zaG (l:List OpV) (I Y:List Nat) (i q:Nat):e4 l I (Y++[i]) q=e4 l I Y q++if yR l i=some q∧yi l I q≠some i then [[.int .i64 (i:Int),.int .i64 2]] else []:=by
 unfold e4;rw [List.filter_append,List.map_append,List.append_assoc];congr 2;by_cases h:yR l i=some q∧yi l I q≠some i
 ·rw [if_pos h,List.filter_cons_of_pos (by simpa using h)];rfl
 ·rw [if_neg h,List.filter_cons_of_neg (by simpa using h)];rfl
theorem YG {l:List OpV} {I:List Nat} {q k:Nat} (h:yi l I q=some k):k∈I∧q<k∧(nth l k).p=(nth l q).p:=by
 have h1:=List.find?_some h;have h2:=List.mem_of_find?_eq_some h;simp only [Bool.and_eq_true,decide_eq_true_eq] at h1;exact ⟨h2,h1⟩
theorem zno {l:List OpV} {I Y:List Nat} {q n:Nat} (hI:∀ k∈I,k<n) (hY:∀ k∈Y,k<n) (hn:n≤1000):∀ row∈e4 l I Y q,∀ kf,row.head? = some kf→Zy Try.prog 3 kf:=fun row hr kf hk=>by
 have key:∀ k:Nat,k<n→Zy Try.prog 3 (.int .i64 (k:Int)):=fun k hk=>Zw (by unfold I64;omega);unfold e4 e3 at hr;rcases List.mem_append.1 hr with h|h
 ·obtain ⟨k,hk2,rfl⟩:=List.mem_map.1 h;injection hk with hk;subst hk
  exact key k (hI k (YG (by simpa using hk2)).1)
 ·obtain ⟨k,hk2,rfl⟩:=List.mem_map.1 h;injection hk with hk;subst hk
  exact key k (hY k (List.mem_filter.1 hk2).1)
theorem zkr {l:List OpV} {I Y:List Nat} {q i:Nat} (h:yi l I q≠some i) (hY:∀ k∈Y,k<i):∀ row∈e4 l I Y q,row.head?≠some (.int .i64 (i:Int)):=fun row hr e=>by
 unfold e4 e3 at hr;rcases List.mem_append.1 hr with h1|h1
 ·obtain ⟨k,hk,rfl⟩:=List.mem_map.1 h1;simp only [List.head?_cons,Option.some.injEq,FV.int.injEq,true_and] at e;have:k=i:=by omega
  subst this;exact h (by simpa using hk)
 ·obtain ⟨k,hk,rfl⟩:=List.mem_map.1 h1;simp only [List.head?_cons,Option.some.injEq,FV.int.injEq,true_and] at e;have:=hY k (List.mem_filter.1 hk).1;omega
theorem znK (l:List OpV) {I Y:List Nat} {q i:Nat} (hY:∀ k∈Y,k<i):Xw (e4 l I Y q) (.int .i64 (i:Int)) (.int .i64 0) (.int .i64 (if yi l I q=some i then 1 else 0)) (decide (yi l I q=some i)):=by
 by_cases h:yi l I q=some i
 ·rw [if_pos h,decide_eq_true h];refine .inl ⟨rfl,?_⟩;unfold e4 e3;rw [h];exact List.mem_append_left _ zc
 ·rw [if_neg h,decide_eq_false h];exact .inr ⟨rfl,rfl,zkr h hY⟩
def We (l:List OpV) (I Y:List Nat) (q:Nat):zq:=if q∈I then ⟨0,.mapo,67,0,e4 l I Y q⟩ else ⟨0,.own,67,1,[]⟩
def zpa (l:List OpV) (I Y:List Nat) (q:Nat):FV:=if q∈I then .smap (e4 l I Y q) else .nilm
def zos (l:List OpV) (I Y:List Nat) (n:Nat):FV:=.list 1 ((List.range n).map fun q=>[zpa l I Y q])
inductive zim (s:FSt):List FV→List FV→Prop where
 | nil:zim s [] []
 | cons {f g:FV} {fs gs:List FV} (h:Yy s f g) (ho:g.one=true) (hs:zim s fs gs):zim s (f :: fs) (g :: gs)
theorem zim.get {s:FSt} {fs gs:List FV} (h:zim s fs gs):fs.length=gs.length∧(∀ g∈gs,g.one=true)∧∀ (j:Nat) f g,fs[j]? = some f→gs[j]? = some g→Yy s f g:=by
 induction h with
 | nil => exact ⟨rfl, (fun g hg => by cases hg), fun j f g h1 => by simp at h1⟩
 | cons h ho hs ih=>
  obtain ⟨h1,h2,h3⟩:=ih;refine ⟨by simp [h1],fun g hg=>?_,fun j f g hf hg=>?_⟩
  ·rcases List.mem_cons.1 hg with rfl|hg
   ·exact ho
   ·exact h2 g hg
  ·cases j with
   | zero => simp at hf hg; subst hf; subst hg; exact h
   | succ j => simp at hf hg; exact h3 j f g hf hg
theorem Yy.ptr1 {t:List (Nat×FV)} {ob:List (Nat×zq)} {id ver sz E:Nat} {r r' : List FV} (h:look {} ob id=⟨ver,.hrow,E,sz,[r]⟩) (hz:r'.length=sz) (hv:zim ⟨t,ob⟩ r r'):Yy ⟨t,ob⟩ (.ptr id ver 0 0) (.eptr sz [r'] 0 0):=by
 have ho:(⟨t,ob⟩:FSt).ob id=⟨ver,.hrow,E,sz,[r]⟩:=h;obtain ⟨h1,h2,h3⟩:=hv.get;refine .ptr (zR ho zg) (by rw [ho];rfl) (by rw [ho]) (by rw [ho];rfl) (fun e he=>by rw [List.mem_singleton.1 he];exact hz) (fun g hg=>h2 g (by simpa using hg)) fun j f g hf hg=>?_;rw [ho] at hf;exact h3 j f g (by simpa using hf) (by simpa using hg)
theorem Yy.ownP {t:List (Nat×FV)} {ob:List (Nat×zq)} {id ver n E sz:Nat} {es:List (List FV)} (h:look {} ob id=⟨ver,.own,E,sz,es⟩) (hn:es.length=n) (hw:∀ e∈es,e.length=sz) (h1:∀ g∈es.flatten,g.one=true):Yy ⟨t,ob⟩ (.own id ver 0 n) (.list sz es):=by
 have ho:(⟨t,ob⟩:FSt).ob id=⟨ver,.own,E,sz,es⟩:=h;refine .own (zR ho zg) (by rw [ho];rfl) (by rw [ho]) hn hw h1 fun j f g hf hg=>?_;rw [ho] at hf;dsimp only at hf;rw [List.drop_zero,List.take_of_length_le za,hg] at hf;injection hf with hf
 subst hf;exact .plain (by have:=h1 g (List.mem_of_getElem? hg);cases g <;> first|rfl|(simp [FV.one] at this))
theorem zaQ {n:Nat} {c:Nat→FV}:((List.range n).map fun q=>[c q]).flatten=(List.range n).map c:=by
 induction List.range n with
 | nil => rfl
 | cons x L ih => simp [ih]
theorem Yy.ownR {t:List (Nat×FV)} {ob:List (Nat×zq)} {id ver n E:Nat} {c c' : Nat→FV} (h:look {} ob id=⟨ver,.hrow,E,1,(List.range n).map fun q=>[c q]⟩) (hv:∀ q,q<n→Yy ⟨t,ob⟩ (c q) (c' q)∧(c' q).one=true):Yy ⟨t,ob⟩ (.own id ver 0 n) (.list 1 ((List.range n).map fun q=>[c' q])):=by
 have ho:(⟨t,ob⟩:FSt).ob id=⟨ver,.hrow,E,1,(List.range n).map fun q=>[c q]⟩:=h;refine .own (zR ho zg) (by rw [ho];rfl) (by rw [ho]) zc (fun e he=>?_) (fun g hg=>?_) fun j f g hf hg=>?_
 ·obtain ⟨q,_,rfl⟩:=List.mem_map.1 he;rfl
 ·rw [zaQ] at hg;obtain ⟨q,hq,rfl⟩:=List.mem_map.1 hg;exact (hv q (List.mem_range.1 hq)).2
 ·rw [ho] at hf;dsimp only at hf;rw [List.drop_zero,List.take_of_length_le zc,zaQ] at hf;rw [zaQ] at hg;rw [List.getElem?_map] at hf hg;cases hj:(List.range n)[j]? with
  | none => rw [hj] at hf; cases hf
  | some q =>
   rw [hj] at hf hg;injection hf with hf;injection hg with hg
   subst hf;subst hg;exact (hv q (List.mem_range.1 (List.mem_of_getElem? hj))).1
theorem Yy.omapP {t:List (Nat×FV)} {ob:List (Nat×zq)} {id ver E sz:Nat} {es:List (List FV)} (h:look {} ob id=⟨ver,.mapo,E,sz,es⟩):Yy ⟨t,ob⟩ (.omap id ver) (.smap es):=by
 have ho:(⟨t,ob⟩:FSt).ob id=⟨ver,.mapo,E,sz,es⟩:=h;exact .omap (zR ho zg) (by rw [ho];rfl) (by rw [ho];exact fun e=>by cases e) (by rw [ho])
theorem Low.gh {ob:List (Nat×zq)} (h:Low ob):zmD ob=true:=List.all_eq_true.2 fun p hp=>by
 have h1:=h p hp;cases e:Nat.ble zh p.1 with
 | true => have := Nat.le_of_ble_eq_true e; omega
 | false => rfl
theorem zeu {A:List (Int×Int)} {c v:Int} (hc:I64 c) (h:∀ p∈A,I64 p.1):∀ p∈zem A c v,I64 p.1:=by
 induction A with
 | nil => intro p hp; unfold zem at hp; rw [List.mem_singleton.1 hp]; exact hc
 | cons a A ih=>
  intro p hp;unfold zem at hp;split at hp
  ·rcases List.mem_cons.1 hp with rfl|hp
   ·exact hc
   ·exact h p (List.mem_cons_of_mem _ hp)
  ·rcases List.mem_cons.1 hp with rfl|hp
   ·exact h _ (List.mem_cons_self ..)
   ·exact ih (fun q hq=>h q (List.mem_cons_of_mem _ hq)) p hp
theorem zhi {c v d:Int}:∀ (A:List (Int×Int)),((zem A c v).any fun p=>decide (p.1=d))=(decide (c=d) || A.any fun p=>decide (p.1=d))
 | [] => by simp [zem]
 | p::A=>by
  unfold zem;by_cases h:p.1=c
  ·rw [if_pos h];subst h;simp [List.any_cons]
  ·rw [if_neg h,List.any_cons,zhi A,List.any_cons];cases decide (p.1=d) <;> cases decide (c=d) <;> simp
theorem zoL {i:Nat} {x:FV} {f:Nat→FV}:(fun j=>if j=i then [x] else [f j])=fun j=>[if j=i then x else f j]:=funext fun j=>by split <;> rfl
theorem zck (l:List OpV) (hl:l.length≤1000) (hin:∀ o∈l,Ve o) (hd:Yi l):zX Try.prog 31 [.list 8 (l.map OpV.fv)] .sh (zjv l (.list 1 ((zO l l.length).map yp)) (zos l (zO l l.length) (zO l l.length) l.length)):=by
 obtain ⟨n,hn⟩:∃ n,l.length=n:=⟨_,rfl⟩
 have hr0:Zs l 0=[]:=rfl;refine zX.of_body (c:=(xx Try.prog zE zt 180)) ⟨Try.func31,rfl,Try.ntmps31,by kernel_rfl⟩ zH zw rfl ?_;change FW _ _ _ ⟨[(0,.list 8 (l.map OpV.fv))],[]⟩;obtain ⟨R,hR⟩:∃ R,zjv l (.list 1 ((zO l l.length).map yp)) (zos l (zO l l.length) (zO l l.length) l.length)=R:=⟨_,rfl⟩
 rw [hR]
 (repeat (first|refine FW.seq ?_|refine FW.region ?_|refine zn.nil ?_|refine zV rfl rfl rfl ?_|refine zG rfl rfl rfl ?_|refine zc5 rfl rfl rfl ?_|refine YN rfl rfl (by first|exact List.length_map _|rfl|omega) rfl rfl ?_|refine zg4 rfl rfl rfl rfl rfl rfl rfl rfl za za rfl rfl rfl ?_))
 rw [hn];refine zlB (cs:=[.list 8 (l.map OpV.fv),.nil,.omap 22 (0+1),.own 25 (0+1) 0 n]) rfl (by refine zap.cons rfl (.inl rfl) rfl rfl ?_;refine zap.cons rfl (.inr (.inr (.inr (.inr ⟨_,_,rfl,zR rfl zg⟩)))) rfl rfl ?_;refine zap.cons rfl (.inr (.inl ⟨_,_,_,_,rfl,zR rfl zg⟩)) rfl rfl ?_;exact zap.nil) rfl rfl rfl rfl rfl rfl ?_;refine zn5 rfl rfl rfl rfl rfl ?_;refine zb ?_;rw [hn];refine FW.loop (fun i:Nat=>⟨[(0,.list 8 (l.map OpV.fv)),(3,.ptr 100 0 0 0),(4,.omap 104 0),(29,.list 8 (l.map OpV.fv)),(30,.int .i64 n),(31,.int .i64 i)],[(100,⟨0,.hrow,71,4,[[.list 8 (l.map OpV.fv),.own 101 0 0 0,.omap 102 0,.own 103 0 0 n]]⟩),(101,⟨0,.own,3,1,[]⟩),(102,⟨0,.mapo,68,0,[]⟩),(103,⟨0,.own,67,1,List.replicate n [.nilm]⟩),(104,⟨0,.mapo,85,0,Zs l i⟩)]⟩) (fun i=>i≤n) (fun i=>n - i) 0 (Nat.zero_le _) ?_ ?_
 ·exact (FLe.cv [⟨100,some 27,0+1,⟨0,.hrow,71,4,[[.list 8 (l.map OpV.fv),.own 101 0 0 0,.omap 102 0,.own 103 0 0 n]]⟩⟩,⟨101,none,0,⟨0,.own,3,1,[]⟩⟩,⟨102,some 22,0+1,⟨0,.mapo,68,0,[]⟩⟩,⟨103,some 25,0+1,⟨0,.own,67,1,List.replicate n [.nilm]⟩⟩,⟨104,some 28,0+1,⟨0,.mapo,85,0,[]⟩⟩] zf zd)
 intro i hi;refine zb ?_;refine FW.cond rfl (fun h=>?_) (fun h=>?_)
 ·have hlt:i<n:=by simpa using h
  clear h;have hlt2:i<l.length:=by omega
  have ho:=hin _ (zC hlt2);have hset:=zlg (l:=l) (i:=i);have hskip:=zjm (l:=l) (i:=i);obtain ⟨o,hoe⟩:∃ o,nth l i=o:=⟨_,rfl⟩
  rw [hoe] at ho hset hskip;refine zb ?_;rw [hoe];skip;refine zP (fun h1=>?_) (fun h1=>?_)
  ·have h1:o.k=0:=by simpa using h1
   refine zb ?_;refine FW.cond rfl (fun h2=>?_) (fun h2=>?_)
   ·refine zb ?_;refine Ye Vu (zfE za hin) (UV ho.2.2.1 ho.2.2.2.2.1) (hset h1 h2) rfl rfl rfl rfl rfl rfl rfl ?_;refine zb ?_;exact ⟨i+1,by omega,by omega,(FLe.cv [⟨100,some 100,0,⟨0,.hrow,71,4,[[.list 8 (l.map OpV.fv),.own 101 0 0 0,.omap 102 0,.own 103 0 0 n]]⟩⟩,⟨101,some 101,0,⟨0,.own,3,1,[]⟩⟩,⟨102,some 102,0,⟨0,.mapo,68,0,[]⟩⟩,⟨103,some 103,0,⟨0,.own,67,1,List.replicate n [.nilm]⟩⟩,⟨104,some 104,0,⟨0,.mapo,85,0,Zs l (i+1)⟩⟩] zf zd)⟩
   ·refine zb ?_;refine ⟨i+1,by omega,by omega,?_⟩;rw [hskip (fun q=>by rw [q.2] at h2;cases h2)];exact (FLe.cv [⟨100,some 100,0,⟨0,.hrow,71,4,[[.list 8 (l.map OpV.fv),.own 101 0 0 0,.omap 102 0,.own 103 0 0 n]]⟩⟩,⟨101,some 101,0,⟨0,.own,3,1,[]⟩⟩,⟨102,some 102,0,⟨0,.mapo,68,0,[]⟩⟩,⟨103,some 103,0,⟨0,.own,67,1,List.replicate n [.nilm]⟩⟩,⟨104,some 104,0,⟨0,.mapo,85,0,Zs l i⟩⟩] zf zd)
  ·have h1:o.k≠0:=by simpa using h1
   refine zb ?_;refine ⟨i+1,by omega,by omega,?_⟩;rw [hskip (fun q=>h1 q.1)];exact (FLe.cv [⟨100,some 100,0,⟨0,.hrow,71,4,[[.list 8 (l.map OpV.fv),.own 101 0 0 0,.omap 102 0,.own 103 0 0 n]]⟩⟩,⟨101,some 101,0,⟨0,.own,3,1,[]⟩⟩,⟨102,some 102,0,⟨0,.mapo,68,0,[]⟩⟩,⟨103,some 103,0,⟨0,.own,67,1,List.replicate n [.nilm]⟩⟩,⟨104,some 104,0,⟨0,.mapo,85,0,Zs l i⟩⟩] zf zd)
 have hie:i=n:=by simp at h;omega
 rw [hie];clear h hi hie;refine zb ?_;rw [hn];refine FW.loop (fun i:Nat=>⟨[(0,.list 8 (l.map OpV.fv)),(3,.ptr 100 0 0 0),(4,.omap 104 0),(50,.list 8 (l.map OpV.fv)),(51,.int .i64 n),(52,.int .i64 i)],[(100,⟨0,.hrow,71,4,[[.list 8 (l.map OpV.fv),.own 101 0 0 (zO l i).length,.omap 102 0,.own 103 0 0 n]]⟩),(101,⟨0,.own,3,1,(zO l i).map yp⟩),(102,⟨0,.mapo,68,0,yG l i⟩),(103,⟨0,.own,67,1,List.replicate n [.nilm]⟩),(104,⟨0,.mapo,85,0,Zs l n⟩)]⟩) (fun i=>i≤n) (fun i=>n - i) 0 (Nat.zero_le _) ?_ ?_
 ·exact (FLe.cv [⟨100,some 100,0,⟨0,.hrow,71,4,[[.list 8 (l.map OpV.fv),.own 101 0 0 0,.omap 102 0,.own 103 0 0 n]]⟩⟩,⟨101,some 101,0,⟨0,.own,3,1,[]⟩⟩,⟨102,some 102,0,⟨0,.mapo,68,0,[]⟩⟩,⟨103,some 103,0,⟨0,.own,67,1,List.replicate n [.nilm]⟩⟩,⟨104,some 104,0,⟨0,.mapo,85,0,Zs l n⟩⟩] zf zd)
 intro i hi;have hil:=YB l i;refine zb ?_;refine FW.cond rfl (fun h=>?_) (fun h=>?_)
 ·have hlt:i<n:=by simpa using h
  clear h;have hlt2:i<l.length:=by omega
  have ho:=hin _ (zC hlt2);have hdo:=hd i hlt2;have hws:=zip l i;have his:=ziS l i;have hiw:=zgG l (nth l i);have hlk:=znP l n (nth l i).key (nth l i).arg;have hinc:zK l i=((nth l i).done || (decide ((nth l i).k=1) && l.any (zmc (nth l i).key (nth l i).arg))):=rfl;rw [← hiw,hn] at hinc;clear hiw;unfold okW at hdo;unfold zot at hws;obtain ⟨o,hoe⟩:∃ o,nth l i=o:=⟨_,rfl⟩
  rw [hoe] at ho hdo hws hlk hinc;generalize decide ((o.key,o.arg)∈xY l n)=wt at hlk hinc;generalize zK l i=ic at hws his hinc;refine zb ?_;rw [hoe];skip;refine XO (e:=88) Vu (zfE za hin) (UV ho.2.2.1 ho.2.2.2.1) hlk rfl rfl zg rfl rfl rfl rfl rfl rfl ?_
  (repeat (first|refine zn.nil ?_|refine zV rfl rfl rfl ?_|refine zG rfl rfl rfl ?_|refine zak rfl rfl rfl rfl rfl rfl rfl ?_|refine zc6 rfl rfl rfl rfl rfl rfl rfl rfl rfl ?_|refine Um rfl rfl rfl rfl rfl ?_))
  refine FW.seq ?_;refine FW.join (fun _:Unit=>⟨[(0,.list 8 (l.map OpV.fv)),(3,.ptr 100 0 0 0),(4,.omap 104 0),(50,.list 8 (l.map OpV.fv)),(51,.int .i64 n),(52,.int .i64 i),(7,.int .i64 i),(8,.ptr 105 0 0 0),(9,.ptr 106 0 0 0),(77,.bool ic)],[(100,⟨0,.hrow,71,4,[[.list 8 (l.map OpV.fv),.own 101 0 0 (zO l i).length,.omap 102 0,.own 103 0 0 n]]⟩),(101,⟨0,.own,3,1,(zO l i).map yp⟩),(102,⟨0,.mapo,68,0,yG l i⟩),(103,⟨0,.own,67,1,List.replicate n [.nilm]⟩),(104,⟨0,.mapo,85,0,Zs l n⟩),(105,⟨0,.own,43,8,[o.fv]⟩),(106,⟨0,.own,87,2,[[.int .i64 o.key,.int .i64 o.arg]]⟩)]⟩) (fun _=>True) ?_ ?_
  ·refine zb ?_;refine zP (fun h1=>?_) (fun h1=>?_)
   ·rw [hinc,h1,Bool.true_or];refine zb ?_;exact ⟨rfl,(),trivial,(FLe.cv [⟨100,some 100,0,⟨0,.hrow,71,4,[[.list 8 (l.map OpV.fv),.own 101 0 0 (zO l i).length,.omap 102 0,.own 103 0 0 n]]⟩⟩,⟨101,some 101,0,⟨0,.own,3,1,(zO l i).map yp⟩⟩,⟨102,some 102,0,⟨0,.mapo,68,0,yG l i⟩⟩,⟨103,some 103,0,⟨0,.own,67,1,List.replicate n [.nilm]⟩⟩,⟨104,some 104,0,⟨0,.mapo,85,0,Zs l n⟩⟩,⟨105,some 8,0+1,⟨0,.own,43,8,[o.fv]⟩⟩,⟨106,some 9,0+1,⟨0,.own,87,2,[[.int .i64 o.key,.int .i64 o.arg]]⟩⟩] zf zd)⟩
   ·rw [h1,Bool.false_or] at hinc;refine zb ?_;refine zP (fun h2=>?_) (fun h2=>?_)
    ·rw [h2,Bool.true_and] at hinc;rw [hinc];refine zb ?_;exact ⟨rfl,(),trivial,(FLe.cv [⟨100,some 100,0,⟨0,.hrow,71,4,[[.list 8 (l.map OpV.fv),.own 101 0 0 (zO l i).length,.omap 102 0,.own 103 0 0 n]]⟩⟩,⟨101,some 101,0,⟨0,.own,3,1,(zO l i).map yp⟩⟩,⟨102,some 102,0,⟨0,.mapo,68,0,yG l i⟩⟩,⟨103,some 103,0,⟨0,.own,67,1,List.replicate n [.nilm]⟩⟩,⟨104,some 104,0,⟨0,.mapo,85,0,Zs l n⟩⟩,⟨105,some 8,0+1,⟨0,.own,43,8,[o.fv]⟩⟩,⟨106,some 9,0+1,⟨0,.own,87,2,[[.int .i64 o.key,.int .i64 o.arg]]⟩⟩] zf zd)⟩
    ·rw [h2,Bool.false_and] at hinc;rw [hinc];refine zb ?_;exact ⟨rfl,(),trivial,(FLe.cv [⟨100,some 100,0,⟨0,.hrow,71,4,[[.list 8 (l.map OpV.fv),.own 101 0 0 (zO l i).length,.omap 102 0,.own 103 0 0 n]]⟩⟩,⟨101,some 101,0,⟨0,.own,3,1,(zO l i).map yp⟩⟩,⟨102,some 102,0,⟨0,.mapo,68,0,yG l i⟩⟩,⟨103,some 103,0,⟨0,.own,67,1,List.replicate n [.nilm]⟩⟩,⟨104,some 104,0,⟨0,.mapo,85,0,Zs l n⟩⟩,⟨105,some 8,0+1,⟨0,.own,43,8,[o.fv]⟩⟩,⟨106,some 9,0+1,⟨0,.own,87,2,[[.int .i64 o.key,.int .i64 o.arg]]⟩⟩] zf zd)⟩
  rintro _ _;refine FW.cond rfl (fun h1=>?_) (fun h1=>?_)
  ·subst h1;rw [if_pos rfl] at his;rw [Bool.and_true] at hws;have hil2:(zO l i).length≤1000:=by omega
   refine zb ?_;refine Yd rfl rfl rfl rfl rfl rfl rfl ?_;refine zb ?_;refine zjK rfl rfl (.inr (.inl ⟨_,_,_,_,rfl,zR rfl zg⟩)) rfl rfl rfl rfl (by show 1<4;decide) rfl ?_;refine zb ?_;refine FW.cond rfl (fun h3=>?_) (fun h3=>?_)
   ·have h3:o.k=1:=by simpa using h3
    rw [if_pos (by simpa using h3)] at hws;have hno:∀ j,j<i→wOf o.key o.arg (nth l j)=false:=by
     rcases hdo with q|q
     ·omega
     ·exact q.2.2
    refine zQ ?_;refine VE rfl rfl rfl rfl rfl rfl rfl ?_;refine zp ?_;refine zlq Vu (zax za hin) (UV ho.2.2.1 ho.2.2.2.1) (.inr ⟨zcm (fun j hj _=>hno j hj),rfl⟩) rfl rfl rfl rfl rfl rfl rfl ?_;refine zN.nil ⟨by kernel_rfl,?_⟩;refine zb ?_;refine ⟨i+1,by omega,by omega,?_⟩;rw [hws,his,show (zO l i++[i]).length=(zO l i).length+1 by simp,List.map_append];exact (FLe.cv [⟨100,some 100,0,⟨0,.hrow,71,4,[[.list 8 (l.map OpV.fv),.own 101 0 0 ((zO l i).length+1),.omap 102 0,.own 103 0 0 n]]⟩⟩,⟨101,some 85,0+1,⟨0,.own,3,1,(zO l i).map yp++[i].map yp⟩⟩,⟨102,some 102,0,⟨0,.mapo,68,0,yG l i++[[zeo o.key o.arg,.int .i64 (i:Int)]]⟩⟩,⟨103,some 103,0,⟨0,.own,67,1,List.replicate n [.nilm]⟩⟩,⟨104,some 104,0,⟨0,.mapo,85,0,Zs l n⟩⟩] zf zd)
   ·have h3:o.k≠1:=by simpa using h3
    rw [if_neg (by simpa using h3),List.append_nil] at hws;refine zb ?_;refine ⟨i+1,by omega,by omega,?_⟩;rw [hws,his,show (zO l i++[i]).length=(zO l i).length+1 by simp,List.map_append];exact (FLe.cv [⟨100,some 100,0,⟨0,.hrow,71,4,[[.list 8 (l.map OpV.fv),.own 101 0 0 ((zO l i).length+1),.omap 102 0,.own 103 0 0 n]]⟩⟩,⟨101,some 85,0+1,⟨0,.own,3,1,(zO l i).map yp++[i].map yp⟩⟩,⟨102,some 102,0,⟨0,.mapo,68,0,yG l i⟩⟩,⟨103,some 103,0,⟨0,.own,67,1,List.replicate n [.nilm]⟩⟩,⟨104,some 104,0,⟨0,.mapo,85,0,Zs l n⟩⟩] zf zd)
  ·subst h1;rw [if_neg zc] at hws his;rw [List.append_nil] at hws his;refine zb ?_;refine ⟨i+1,by omega,by omega,?_⟩;rw [hws,his];exact (FLe.cv [⟨100,some 100,0,⟨0,.hrow,71,4,[[.list 8 (l.map OpV.fv),.own 101 0 0 (zO l i).length,.omap 102 0,.own 103 0 0 n]]⟩⟩,⟨101,some 101,0,⟨0,.own,3,1,(zO l i).map yp⟩⟩,⟨102,some 102,0,⟨0,.mapo,68,0,yG l i⟩⟩,⟨103,some 103,0,⟨0,.own,67,1,List.replicate n [.nilm]⟩⟩,⟨104,some 104,0,⟨0,.mapo,85,0,Zs l n⟩⟩] zf zd)
 have hie:i=n:=by simp at h;omega
 rw [hie];clear h hi hie hil;obtain ⟨I,hI⟩:∃ I,zO l n=I:=⟨_,rfl⟩
 obtain ⟨m,hm⟩:∃ m,I.length=m:=⟨_,rfl⟩
 have hml:m≤n:=by rw [← hm,← hI];exact YB l n
 have hIa:I.Pairwise (· < ·):=by rw [← hI];exact za7 l n
 have hIn:∀ j∈I,j<n:=fun j hj=>xt (by rw [hI];exact hj);rw [hI,hm];refine zb ?_;refine Yd rfl rfl rfl rfl rfl rfl rfl ?_;refine zb ?_;rw [zbl];refine FW.loop (fun x:Nat×List (Int×Int)=>⟨[(0,.list 8 (l.map OpV.fv)),(3,.ptr 100 0 0 0),(12,.omap 105 0),(102,.own 101 0 0 m),(103,.int .i64 m),(104,.int .i64 x.1)],[(100,⟨0,.hrow,71,4,[[.list 8 (l.map OpV.fv),.own 101 0 0 m,.omap 102 0,.own 103 0 0 n]]⟩),(101,⟨0,.own,3,1,I.map yp⟩),(102,⟨0,.mapo,68,0,yG l n⟩),(103,⟨0,.hrow,67,1,(List.range n).map fun q=>[VP (I.take x.1) q]⟩),(105,⟨0,.mapo,67,0,(x.2).map zhj⟩)]++(YJ 200++VY 1000 n (Vd l (I.take x.1)))⟩) (fun x=>x.1≤m∧(∀ p∈x.2,I64 p.1)∧∀ c,zaq x.2 c=((Xr l (I.take x.1) c).getD 0:Nat)∧(x.2.any fun p=>decide (p.1=c))=(Xr l (I.take x.1) c).isSome) (fun x=>m - x.1) (0,[]) ⟨Nat.zero_le _,fun p hp=>(by cases hp),fun c=>⟨rfl,rfl⟩⟩ ?_ ?_
 ·exact (FLe.toH (i:=103) rfl).trans (FLe.convN [⟨100,some 100,0,⟨0,.hrow,71,4,[[.list 8 (l.map OpV.fv),.own 101 0 0 m,.omap 102 0,.own 103 0 0 n]]⟩⟩,⟨101,some 101,0,⟨0,.own,3,1,I.map yp⟩⟩,⟨102,some 102,0,⟨0,.mapo,68,0,yG l n⟩⟩,⟨103,some 103,0,⟨0,.hrow,67,1,(List.range n).map fun q=>[VP ([]) q]⟩⟩,⟨105,some 98,1,⟨0,.mapo,67,0,([]).map zhj⟩⟩] 1000 n (Vd l []) rfl (by unfold zh;omega) rfl zc zc (by repeat (first|exact Low.nil|exact Low.fam rfl (by unfold zh;omega)|refine Low.cons rfl ?_)) (fun j _=>⟨rfl,rfl⟩) (.oldK rfl (Vc.cons (.cons (.plain rfl rfl) (.cons (.own (.tail _ (.head _)) rfl rfl rfl) (.cons (.omap (.tail _ (.tail _ (.head _))) rfl) (.cons (.own (.tail _ (.tail _ (.tail _ (.head _)))) rfl rfl rfl) .nil)))) rfl Vc.nil) (.old rfl zg rfl (.old rfl zg rfl (.oldH rfl (UN.of fun q hq=>.plain rfl rfl) (.old rfl zg rfl .nil))))) zd)
 rintro ⟨j,A⟩ ⟨hj,hAk,hA⟩;dsimp only at hj hAk hA ⊢;refine zb ?_;refine FW.cond rfl (fun h=>?_) (fun h=>?_)
 ·have hlt:j<m:=by simpa using h
  clear h;have hltI:j<I.length:=by omega
  obtain ⟨i,hi⟩:∃ i,nth I j=i:=⟨_,rfl⟩
  have hin2:i<n:=by rw [← hi];exact hIn _ (zC hltI)
  have htk:I.take (j+1)=I.take j++[i]:=by rw [List.take_succ_eq_append_getElem hltI,← nth_eq hltI,hi]
  obtain ⟨X,hX⟩:∃ X,I.take j=X:=⟨_,rfl⟩
  have hXa:X.Pairwise (· < ·):=by rw [← hX];exact hIa.sublist (List.take_sublist _ _)
  have hXi:∀ k∈X,k<i:=by
   have h2:(X++[i]).Pairwise (· < ·):=by rw [← hX,← htk];exact hIa.sublist (List.take_sublist _ _)
   exact fun k hk=>(List.pairwise_append.1 h2).2.2 k hk i zc
  have hXn:∀ k∈X,k<n:=fun k hk=>by have:=hXi k hk;omega
  rw [hX] at hA htk ⊢;have ho:=hin _ (zC (show i<l.length by omega));have hAp:=hA (nth l i).p;have hA' : ∀ c,zaq (zem A (nth l i).p (i:Int)) c=((Xr l (X++[i]) c).getD 0:Nat)∧((zem A (nth l i).p (i:Int)).any fun p=>decide (p.1=c))=(Xr l (X++[i]) c).isSome:=fun c=>by
   rw [ziY,zes,zhi];by_cases hc:(nth l i).p=c
   ·rw [if_pos hc,if_pos hc,decide_eq_true hc];exact ⟨rfl,by simp⟩
   ·rw [if_neg hc,if_neg hc,decide_eq_false hc,Bool.false_or];exact hA c
  have hlk:=zcj (c:=(nth l i).p) A;rw [hAp.1,hAp.2] at hlk;refine zb ?_;rw [hi];skip;refine Yd rfl rfl rfl rfl rfl rfl rfl ?_;refine zb ?_;rw [VC,zoL];refine XO (e:=3) xw (zdm hAk) (Zw ho.1) hlk rfl rfl zg rfl rfl rfl rfl rfl rfl ?_;cases hlp:Xr l X (nth l i).p with
  | none=>
   refine zb ?_;refine Ye xw (zdm hAk) (Zw ho.1) (zdl (c:=(nth l i).p) (v:=(i:Int)) A) rfl rfl rfl rfl rfl rfl rfl ?_;refine zb ?_;refine ⟨(j+1,zem A (nth l i).p i),⟨by show j+1≤m;omega,?_,?_⟩,by show m - (j+1)<m - j;omega,?_⟩
   ·exact zeu (by simpa using ho.1) hAk
   ·dsimp only;rw [htk];exact fun c=>hA' c
   ·dsimp only;rw [htk];have hE:∀ q∈X,e3 l (X++[i]) q=e3 l X q:=fun q hq=>by rw [zgv hXa hXi hq,hlp,if_neg zc]
    refine FLe.convS [⟨100,some 100,0,⟨0,.hrow,71,4,[[.list 8 (l.map OpV.fv),.own 101 0 0 m,.omap 102 0,.own 103 0 0 n]]⟩⟩,⟨101,some 101,0,⟨0,.own,3,1,I.map yp⟩⟩,⟨102,some 102,0,⟨0,.mapo,68,0,yG l n⟩⟩,⟨103,some 103,0,⟨0,.hrow,67,1,(List.range n).map fun q=>[VP (X++[i]) q]⟩⟩,⟨105,some 105,0,⟨0,.mapo,67,0,(zem A (nth l i).p i).map zhj⟩⟩] 1000 n i (some 113) (fun q=>if q=i then 1 else 0) (Vd l (X++[i])) rfl (by unfold zh;omega) rfl zc zc zc (by repeat (first|exact Low.nil|exact Low.fam rfl (by unfold zh;omega)|refine Low.cons rfl ?_)) ?_ ?_ zd
    ·intro q hq;by_cases hqi:q=i
     ·subst hqi;rw [if_pos rfl,if_pos rfl];refine .inr ⟨113,rfl,?_,?_⟩
      ·unfold Vd;rw [if_pos zc,zkq hXi];rfl
      ·unfold Vd;rw [if_pos zc];rfl
     ·rw [if_neg hqi,if_neg hqi];refine .inr ⟨_,rfl,(ye (C:=[(105,_),(103,_),(113,_),(100,_),(101,_),(102,_),(103,_),(105,_)]) rfl zg hq).trans ?_,?_⟩
      ·unfold Vd;by_cases hqX:q∈X
       ·rw [if_pos hqX,if_pos (List.mem_append_left _ hqX),hE q hqX]
       ·rw [if_neg hqX,if_neg (by simp [hqX,hqi])]
      ·unfold Vd;split <;> rfl
    ·refine (.oldK rfl (Vc.cons (.cons (.plain rfl rfl) (.cons (.own (.tail _ (.head _)) rfl rfl rfl) (.cons (.omap (.tail _ (.tail _ (.head _))) rfl) (.cons (.own (.tail _ (.tail _ (.tail _ (.head _)))) rfl rfl rfl) .nil)))) rfl Vc.nil) (.old rfl zg rfl (.old rfl zg rfl (.oldH rfl (UN.of fun q hq=>?_) (.old rfl zg rfl .nil)))));have hmm:=yF (B:=1000) (s:=fun q=>if q=i then some 113 else some (1000+q)) (vo:=fun q=>if q=i then 1 else 0) (f:=Vd l (X++[i])) hq;unfold VP;unfold Vd at hmm;by_cases hqi:q=i
     ·subst hqi;rw [if_pos rfl,if_pos rfl,if_pos zc] at hmm;rw [if_pos rfl,if_pos zc];exact .omap (List.mem_append_right _ hmm) rfl
     ·rw [if_neg hqi,if_neg hqi] at hmm;rw [if_neg hqi];by_cases hqX:q∈X
      ·rw [if_pos (List.mem_append_left _ hqX)] at hmm;rw [if_pos hqX,if_pos (List.mem_append_left _ hqX)];exact .omap (List.mem_append_right _ hmm) rfl
      ·rw [if_neg hqX,if_neg (by simp [hqX,hqi])];exact .plain rfl rfl
  | some k=>
   obtain ⟨hkX,hkp⟩:=Wi hlp;have hki:k<i:=hXi k hkX;have hkn:k<n:=hXn k hkX;have hek:e3 l X k=[]:=by unfold e3;rw [zbc hXa hlp];rfl
   refine zb ?_;refine zn.le (s':=⟨[(0,.list 8 (l.map OpV.fv)),(3,.ptr 100 0 0 0),(12,.omap 105 0),(14,.int .i64 i),(15,.int .i64 k),(102,.own 101 0 0 m),(103,.int .i64 m),(104,.int .i64 j),(128,.ptr 100 0 0 3)],[(100,⟨0,.hrow,71,4,[[.list 8 (l.map OpV.fv),.own 101 0 0 m,.omap 102 0,.own 103 0 0 n]]⟩),(101,⟨0,.own,3,1,I.map yp⟩),(102,⟨0,.mapo,68,0,yG l n⟩),(103,⟨0,.hrow,67,1,(List.range n).map fun q=>[if q=k then .omap 150 0 else VP (X++[i]) q]⟩),(105,⟨0,.mapo,67,0,(A).map zhj⟩),(150,⟨0,.mapo,67,0,[]⟩)]++(YJ 200++VY 1000 n (fun q=>if q=k then (⟨0,.own,67,1,[]⟩:zq) else if q=i then ⟨0,.mapo,67,0,[]⟩ else Vd l X q))⟩) ?_ ?_
   ·refine Yd rfl rfl rfl rfl rfl rfl rfl ?_;refine zb ?_;refine Ws rfl rfl rfl rfl (xF n k _ hkn) rfl rfl ?_;rw [if_pos rfl];refine zb ?_;refine Ye xw (fun row hr=>by cases hr) (Zw (by unfold I64;omega)) (.inr ⟨fun row hr=>(by cases hr),rfl⟩) rfl rfl rfl rfl rfl rfl rfl ?_;refine zb ?_;refine Ye xw (zdm hAk) (Zw ho.1) (zdl (c:=(nth l i).p) (v:=(i:Int)) A) rfl rfl rfl rfl rfl rfl rfl ?_;refine zb ?_;refine ⟨(j+1,zem A (nth l i).p i),⟨by show j+1≤m;omega,zeu (by simpa using ho.1) hAk,by dsimp only;rw [htk];exact fun c=>hA' c⟩,by show m - (j+1)<m - j;omega,?_⟩;dsimp only;rw [htk];refine FLe.convS [⟨100,some 100,0,⟨0,.hrow,71,4,[[.list 8 (l.map OpV.fv),.own 101 0 0 m,.omap 102 0,.own 103 0 0 n]]⟩⟩,⟨101,some 101,0,⟨0,.own,3,1,I.map yp⟩⟩,⟨102,some 102,0,⟨0,.mapo,68,0,yG l n⟩⟩,⟨103,some 103,0,⟨0,.hrow,67,1,(List.range n).map fun q=>[VP (X++[i]) q]⟩⟩,⟨105,some 105,0,⟨0,.mapo,67,0,(zem A (nth l i).p i).map zhj⟩⟩] 1000 n k (some 150) (fun _=>0) (Vd l (X++[i])) rfl (by unfold zh;omega) rfl zc zc zc (by repeat (first|exact Low.nil|exact Low.fam rfl (by unfold zh;omega)|refine Low.cons rfl ?_)) ?_ ?_ zd
    ·intro q hq;by_cases hqk:q=k
     ·subst hqk;rw [if_pos rfl];refine .inr ⟨150,rfl,?_,?_⟩
      ·unfold Vd;rw [if_pos (List.mem_append_left _ hkX),zgv hXa hXi hkX,hlp,if_pos rfl,hek];rfl
      ·unfold Vd;rw [if_pos (List.mem_append_left _ hkX)];rfl
     ·rw [if_neg hqk];refine .inr ⟨_,rfl,(ye (C:=[(105,_),(150,_),(100,_),(101,_),(102,_),(103,_),(105,_),(150,_)]) rfl zg hq).trans ?_,?_⟩
      ·rw [if_neg hqk];by_cases hqi:q=i
       ·subst hqi;rw [if_pos rfl];unfold Vd;rw [if_pos zc,zkq hXi]
       ·rw [if_neg hqi];unfold Vd;by_cases hqX:q∈X
        ·rw [if_pos hqX,if_pos (List.mem_append_left _ hqX),zgv hXa hXi hqX,hlp,if_neg (fun e=>hqk (by injection e with e;exact e.symm))]
        ·rw [if_neg hqX,if_neg (by simp [hqX,hqi])]
      ·unfold Vd;split <;> rfl
    ·refine (.oldK rfl (Vc.cons (.cons (.plain rfl rfl) (.cons (.own (.tail _ (.head _)) rfl rfl rfl) (.cons (.omap (.tail _ (.tail _ (.head _))) rfl) (.cons (.own (.tail _ (.tail _ (.tail _ (.head _)))) rfl rfl rfl) .nil)))) rfl Vc.nil) (.old rfl zg rfl (.old rfl zg rfl (.oldH rfl (UN.of fun q hq=>?_) (.old rfl zg rfl .nil)))));have hmm:=yF (B:=1000) (s:=fun q=>if q=k then some 150 else some (1000+q)) (vo:=fun _=>0) (f:=Vd l (X++[i])) hq;unfold Vd at hmm;by_cases hqk:q=k
     ·subst hqk;rw [if_pos rfl,if_pos (List.mem_append_left _ hkX)] at hmm;unfold VP;rw [if_pos rfl,if_pos (List.mem_append_left _ hkX)];exact .omap (List.mem_append_right _ hmm) rfl
     ·rw [if_neg hqk] at hmm;rw [if_neg hqk];unfold VP;by_cases hqX:q∈X++[i]
      ·rw [if_pos hqX] at hmm;rw [if_pos hqX];exact .omap (List.mem_append_right _ hmm) rfl
      ·rw [if_neg hqX];exact .plain rfl rfl
   ·refine FLe.trans (FLe.convS (t':=[(0,.list 8 (l.map OpV.fv)),(3,.ptr 100 0 0 0),(12,.omap 105 0),(14,.int .i64 i),(15,.int .i64 k),(102,.own 101 0 0 m),(103,.int .i64 m),(104,.int .i64 j),(128,.ptr 100 0 0 3)]) [⟨100,some 100,0,⟨0,.hrow,71,4,[[.list 8 (l.map OpV.fv),.own 101 0 0 m,.omap 102 0,.own 103 0 0 n]]⟩⟩,⟨101,some 101,0,⟨0,.own,3,1,I.map yp⟩⟩,⟨102,some 102,0,⟨0,.mapo,68,0,yG l n⟩⟩,⟨103,some 103,0,⟨0,.hrow,67,1,(List.range n).map fun q=>[VP (X++[i]) q]⟩⟩,⟨105,some 105,0,⟨0,.mapo,67,0,(A).map zhj⟩⟩] 1000 n i (some 113) (fun q=>if q=i then 1 else 0) (fun q=>if q=i then (⟨0,.mapo,67,0,[]⟩:zq) else Vd l X q) rfl (by unfold zh;omega) rfl zc zc zc (by repeat (first|exact Low.nil|exact Low.fam rfl (by unfold zh;omega)|refine Low.cons rfl ?_)) ?_ ?_ zd) (FLe.convS [⟨100,some 100,0,⟨0,.hrow,71,4,[[.list 8 (l.map OpV.fv),.own 101 0 0 m,.omap 102 0,.own 103 0 0 n]]⟩⟩,⟨101,some 101,0,⟨0,.own,3,1,I.map yp⟩⟩,⟨102,some 102,0,⟨0,.mapo,68,0,yG l n⟩⟩,⟨103,some 103,0,⟨0,.hrow,67,1,(List.range n).map fun q=>[if q=k then .omap 150 0 else VP (X++[i]) q]⟩⟩,⟨105,some 105,0,⟨0,.mapo,67,0,(A).map zhj⟩⟩,⟨150,some (1000+k),0,⟨0,.mapo,67,0,[]⟩⟩] 1000 n k none (fun _=>0) (fun q=>if q=k then (⟨0,.own,67,1,[]⟩:zq) else if q=i then ⟨0,.mapo,67,0,[]⟩ else Vd l X q) rfl (by unfold zh;omega) rfl zc XW XW (by repeat (first|exact Low.nil|exact Low.fam rfl (by unfold zh;omega)|refine Low.cons rfl ?_)) ?_ ?_ zd)
    ·intro q hq;by_cases hqi:q=i
     ·subst hqi;rw [if_pos rfl,if_pos rfl,if_pos rfl];exact .inr ⟨113,rfl,rfl,rfl⟩
     ·rw [if_neg hqi,if_neg hqi,if_neg hqi];refine .inr ⟨_,rfl,(ye (C:=[(103,_),(113,_),(100,_),(101,_),(102,_),(103,_),(105,_)]) rfl zg hq).trans (by unfold Vd;split <;> rfl),?_⟩;unfold Vd;split <;> rfl
    ·refine (.oldK rfl (Vc.cons (.cons (.plain rfl rfl) (.cons (.own (.tail _ (.head _)) rfl rfl rfl) (.cons (.omap (.tail _ (.tail _ (.head _))) rfl) (.cons (.own (.tail _ (.tail _ (.tail _ (.head _)))) rfl rfl rfl) .nil)))) rfl Vc.nil) (.old rfl zg rfl (.old rfl zg rfl (.oldH rfl (UN.of fun q hq=>?_) (.old rfl zg rfl .nil)))));have hmm:=yF (B:=1000) (s:=fun q=>if q=i then some 113 else some (1000+q)) (vo:=fun q=>if q=i then 1 else 0) (f:=(fun q=>if q=i then (⟨0,.mapo,67,0,[]⟩:zq) else Vd l X q)) hq;unfold VP;unfold Vd at hmm;by_cases hqi:q=i
     ·subst hqi;rw [if_pos rfl,if_pos rfl,if_pos rfl] at hmm;rw [if_pos rfl,if_pos zc];exact .omap (List.mem_append_right _ hmm) rfl
     ·rw [if_neg hqi,if_neg hqi,if_neg hqi] at hmm;rw [if_neg hqi];by_cases hqX:q∈X
      ·rw [if_pos hqX] at hmm;rw [if_pos hqX,if_pos (List.mem_append_left _ hqX)];exact .omap (List.mem_append_right _ hmm) rfl
      ·rw [if_neg hqX,if_neg (by simp [hqX,hqi])];exact .plain rfl rfl
    ·intro q hq;by_cases hqk:q=k
     ·rw [if_pos hqk,if_pos hqk];exact .inl ⟨rfl,rfl,rfl⟩
     ·rw [if_neg hqk,if_neg hqk];refine .inr ⟨_,rfl,(ye (C:=[(100,_),(101,_),(102,_),(103,_),(105,_)]) rfl zg hq).trans (by split;(· rfl);(· unfold Vd;split <;> rfl)),?_⟩;unfold Vd;split
      ·rfl
      ·split <;> rfl
    ·refine (.oldK rfl (Vc.cons (.cons (.plain rfl rfl) (.cons (.own (.tail _ (.head _)) rfl rfl rfl) (.cons (.omap (.tail _ (.tail _ (.head _))) rfl) (.cons (.own (.tail _ (.tail _ (.tail _ (.head _)))) rfl rfl rfl) .nil)))) rfl Vc.nil) (.old rfl zg rfl (.old rfl zg rfl (.oldH rfl (UN.of fun q hq=>?_) (.old rfl zg rfl (.old ((ye (C:=[(100,_),(101,_),(102,_),(103,_),(105,_)]) rfl zg hkn).trans (by rw [if_neg za];unfold Vd;rw [if_pos hkX,hek])) zg rfl .nil))))));have hmm:=yF (B:=1000) (s:=fun q=>if q=k then none else some (1000+q)) (vo:=fun _=>0) (f:=(fun q=>if q=k then (⟨0,.own,67,1,[]⟩:zq) else if q=i then ⟨0,.mapo,67,0,[]⟩ else Vd l X q)) hq;by_cases hqk:q=k
     ·subst hqk;unfold VP;rw [if_pos rfl,if_pos (List.mem_append_left _ hkX)];exact .omap (.tail _ (.tail _ (.tail _ (.tail _ (.tail _ (.head _)))))) rfl
     ·rw [if_neg hqk,if_neg hqk] at hmm;rw [if_neg hqk];unfold VP;by_cases hqX:q∈X++[i]
      ·rw [if_pos hqX];refine .omap (List.mem_append_right _ hmm) ?_;split
       ·rfl
       ·unfold Vd;split <;> rfl
      ·rw [if_neg hqX];exact .plain rfl rfl
 ·have hje:j=m:=by simp at h;omega
  subst hje;clear h;rw [show I.take j=I by rw [← hm,List.take_length]] at hA ⊢;clear hA hAk;have hIm:∀ q,q<l.length→zK l q=true→q∈I:=fun q hq h1=>by
   rw [← hI];exact List.mem_filter.2 ⟨by simpa using (show q<n by omega),h1⟩
  obtain ⟨m,hmj⟩:∃ m,m=j:=⟨_,rfl⟩
  rw [← hmj] at hm hml ⊢;clear hmj hj j;refine zb ?_;refine Yd rfl rfl rfl rfl rfl rfl rfl ?_;refine zb ?_;refine FW.loop (fun j:Nat=>⟨[(0,.list 8 (l.map OpV.fv)),(3,.ptr 100 0 0 0),(145,.own 101 0 0 m),(146,.int .i64 m),(147,.int .i64 j)],[(100,⟨0,.hrow,71,4,[[.list 8 (l.map OpV.fv),.own 101 0 0 m,.omap 102 0,.own 103 0 0 n]]⟩),(101,⟨0,.own,3,1,I.map yp⟩),(102,⟨0,.mapo,68,0,yG l n⟩),(103,⟨0,.hrow,67,1,(List.range n).map fun q=>[VP I q]⟩)]++(YJ 200++VY 1000 n (We l I (I.take j)))⟩) (fun j=>j≤m) (fun j=>m - j) 0 (Nat.zero_le _) ?_ ?_
  ·refine FLe.convK [⟨100,some 100,0,⟨0,.hrow,71,4,[[.list 8 (l.map OpV.fv),.own 101 0 0 m,.omap 102 0,.own 103 0 0 n]]⟩⟩,⟨101,some 101,0,⟨0,.own,3,1,I.map yp⟩⟩,⟨102,some 102,0,⟨0,.mapo,68,0,yG l n⟩⟩,⟨103,some 103,0,⟨0,.hrow,67,1,(List.range n).map fun q=>[VP I q]⟩⟩] 1000 n (fun _=>0) (We l I []) rfl (by unfold zh;omega) rfl zc zc zc (by repeat (first|exact Low.nil|exact Low.fam rfl (by unfold zh;omega)|refine Low.cons rfl ?_)) (fun q hq=>.inr ⟨_,rfl,(ye (C:=[(100,_),(101,_),(102,_),(103,_),(105,_)]) rfl zg hq).trans ?_,?_⟩) (.oldK rfl (Vc.cons (.cons (.plain rfl rfl) (.cons (.own (.tail _ (.head _)) rfl rfl rfl) (.cons (.omap (.tail _ (.tail _ (.head _))) rfl) (.cons (.own (.tail _ (.tail _ (.tail _ (.head _)))) rfl rfl rfl) .nil)))) rfl Vc.nil) (.old rfl zg rfl (.old rfl zg rfl (.oldH rfl (UN.of fun q hq=>?_) .nil)))) zd
   ·unfold Vd We;split
    ·rw [zoF]
    ·rfl
   ·unfold We;split <;> rfl
   ·have hmm:=yF (B:=1000) (s:=fun q=>some (1000+q)) (vo:=fun _=>0) (f:=We l I []) hq;unfold We at hmm;unfold VP;by_cases hqX:q∈I
    ·rw [if_pos hqX] at hmm ⊢;exact .omap (List.mem_append_right _ hmm) rfl
    ·rw [if_neg hqX];exact .plain rfl rfl
  intro j hj;refine zb ?_;refine FW.cond rfl (fun h=>?_) (fun h=>?_)
  ·have hlt:j<m:=by simpa using h
   clear h;have hltI:j<I.length:=by omega
   obtain ⟨i,hi⟩:∃ i,nth I j=i:=⟨_,rfl⟩
   have hin2:i<n:=by rw [← hi];exact hIn _ (zC hltI)
   have htk:I.take (j+1)=I.take j++[i]:=by rw [List.take_succ_eq_append_getElem hltI,← nth_eq hltI,hi]
   obtain ⟨Y,hY⟩:∃ Y,I.take j=Y:=⟨_,rfl⟩
   have hYi:∀ k∈Y,k<i:=by
    have h2:(Y++[i]).Pairwise (· < ·):=by rw [← hY,← htk];exact hIa.sublist (List.take_sublist _ _)
    exact fun k hk=>(List.pairwise_append.1 h2).2.2 k hk i zc
   have hYn:∀ k∈Y,k<n:=fun k hk=>by have:=hYi k hk;omega
   rw [hY] at htk ⊢;have hfr:=zaT l (.list 1 (I.map yp)) (zos l I Y n) rfl rfl i za za hin;refine zb ?_;rw [hi];skip;refine zlD hfr (.cons rfl (Yy.ptr1 rfl rfl (.cons (.plain rfl) rfl (.cons (Yy.ownP rfl (by simpa using hm) (fun e he=>by obtain ⟨q,_,rfl⟩:=List.mem_map.1 he;rfl) (fun g hg=>by obtain ⟨e,he,hg⟩:=List.mem_flatten.1 hg;obtain ⟨q,_,rfl⟩:=List.mem_map.1 he;rw [List.mem_singleton.1 hg];rfl)) rfl (.cons ?_ rfl (.cons ?_ rfl .nil))))) (.cons rfl (.plain rfl) .nil)) rfl rfl ?_
   ·rw [hn];exact Yy.omapP rfl
   ·refine Yy.ownR rfl fun q hq=>?_;unfold VP zpa;by_cases hqX:q∈I
    ·rw [if_pos hqX,if_pos hqX];exact ⟨Yy.omapP ((ye (C:=[(100,_),(101,_),(102,_),(103,_)]) rfl zg hq).trans (by unfold We;rw [if_pos hqX])),rfl⟩
    ·rw [if_neg hqX,if_neg hqX];exact ⟨.plain rfl,rfl⟩
   unfold ziE;cases hfc:yR l i with
   | none=>
    refine zb ?_;refine ⟨j+1,by omega,by omega,?_⟩;rw [htk];refine FLe.convK [⟨100,some 100,0,⟨0,.hrow,71,4,[[.list 8 (l.map OpV.fv),.own 101 0 0 m,.omap 102 0,.own 103 0 0 n]]⟩⟩,⟨101,some 101,0,⟨0,.own,3,1,I.map yp⟩⟩,⟨102,some 102,0,⟨0,.mapo,68,0,yG l n⟩⟩,⟨103,some 103,0,⟨0,.hrow,67,1,(List.range n).map fun q=>[VP I q]⟩⟩] 1000 n (fun _=>0) (We l I (Y++[i])) rfl (by unfold zh;omega) rfl zc zc zc (by repeat (first|exact Low.nil|exact Low.fam rfl (by unfold zh;omega)|refine Low.cons rfl ?_)) (fun q hq=>.inr ⟨_,rfl,(ye (C:=[(100,_),(101,_),(102,_),(103,_)]) rfl zg hq).trans ?_,?_⟩) (.oldK rfl (Vc.cons (.cons (.plain rfl rfl) (.cons (.own (.tail _ (.head _)) rfl rfl rfl) (.cons (.omap (.tail _ (.tail _ (.head _))) rfl) (.cons (.own (.tail _ (.tail _ (.tail _ (.head _)))) rfl rfl rfl) .nil)))) rfl Vc.nil) (.old rfl zg rfl (.old rfl zg rfl (.oldH rfl (UN.of fun q hq=>?_) .nil)))) zd
    ·unfold We;rw [zaG,if_neg (show ¬ (yR l i=some q∧yi l I q≠some i) from fun e=>by have:=e.1;rw [hfc] at this;cases this),List.append_nil];split <;> rfl
    ·unfold We;split <;> rfl
    ·have hmm:=yF (B:=1000) (s:=fun q=>some (1000+q)) (vo:=fun _=>0) (f:=We l I (Y++[i])) hq;unfold We at hmm;unfold VP;by_cases hqX:q∈I
     ·rw [if_pos hqX] at hmm ⊢;exact .omap (List.mem_append_right _ hmm) rfl
     ·rw [if_neg hqX];exact .plain rfl rfl
   | some w=>
    have hfw:w<l.length∧zK l w=true:=by
     unfold yR at hfc;split at hfc
     ·cases hfc
     ·exact ⟨(ZE hfc).1,(ZE hfc).2.2⟩
    have hwI:w∈I:=hIm w hfw.1 hfw.2;have hwn:w<n:=by omega
    refine zb ?_;refine zn.le (s':=⟨[(0,.list 8 (l.map OpV.fv)),(3,.ptr 100 0 0 0),(18,.int .i64 i),(19,.int .i64 w),(145,.own 101 0 0 m),(146,.int .i64 m),(147,.int .i64 j),(158,.bool true),(161,.ptr 100 0 0 3)],[(100,⟨0,.hrow,71,4,[[.list 8 (l.map OpV.fv),.own 101 0 0 m,.omap 102 0,.own 103 0 0 n]]⟩),(101,⟨0,.own,3,1,I.map yp⟩),(102,⟨0,.mapo,68,0,yG l n⟩),(103,⟨0,.hrow,67,1,(List.range n).map fun q=>[if q=w then .omap 150 0 else VP I q]⟩),(150,⟨0,.mapo,67,0,e4 l I Y w⟩)]++(YJ 200++VY 1000 n (fun q=>if q=w then (⟨0,.own,67,1,[]⟩:zq) else We l I Y q))⟩) ?_ ?_
    ·refine Yd rfl rfl rfl rfl rfl rfl ⟨_,_,rfl,rfl,rfl⟩ ?_;refine zb ?_;refine Ws rfl rfl rfl rfl (xF n w _ hwn) rfl ⟨_,_,rfl,rfl,rfl⟩ ?_;rw [if_pos rfl];refine zb ?_;refine zfV (e:=3) xw (zno hIn hYn za) (Zw (by unfold I64;omega)) (znK l hYi) rfl rfl zg rfl rfl rfl rfl rfl ⟨_,_,rfl,rfl,rfl⟩ ?_;refine zb ?_;refine FW.cond rfl (fun h=>?_) (fun h=>?_)
     ·have hnx:yi l I w≠some i:=fun e=>by rw [e] at h;simp at h
      refine zb ?_;refine Yd rfl rfl rfl rfl rfl rfl rfl ?_;refine zb ?_;refine Ws rfl rfl rfl rfl (xF n w _ hwn) rfl rfl ?_;rw [if_pos rfl];refine zb ?_;refine Ye xw (zno hIn hYn za) (Zw (by unfold I64;omega)) (.inr ⟨zkr hnx hYi,rfl⟩) rfl rfl rfl rfl rfl rfl rfl ?_;refine zb ?_;refine ⟨j+1,by omega,by omega,?_⟩;rw [htk];refine FLe.convS [⟨100,some 100,0,⟨0,.hrow,71,4,[[.list 8 (l.map OpV.fv),.own 101 0 0 m,.omap 102 0,.own 103 0 0 n]]⟩⟩,⟨101,some 101,0,⟨0,.own,3,1,I.map yp⟩⟩,⟨102,some 102,0,⟨0,.mapo,68,0,yG l n⟩⟩,⟨103,some 103,0,⟨0,.hrow,67,1,(List.range n).map fun q=>[VP I q]⟩⟩] 1000 n w (some 150) (fun _=>0) (We l I (Y++[i])) rfl (by unfold zh;omega) rfl zc zc zc (by repeat (first|exact Low.nil|exact Low.fam rfl (by unfold zh;omega)|refine Low.cons rfl ?_)) ?_ ?_ zd
      ·intro q hq;by_cases hqk:q=w
       ·subst hqk;rw [if_pos rfl];refine .inr ⟨150,rfl,?_,?_⟩
        ·unfold We;rw [if_pos hwI,zaG,if_pos (show yR l i=some q∧yi l I q≠some i from ⟨hfc,hnx⟩)];rfl
        ·unfold We;rw [if_pos hwI];rfl
       ·rw [if_neg hqk];refine .inr ⟨_,rfl,(ye (C:=[(150,_),(100,_),(101,_),(102,_),(103,_),(150,_)]) rfl zg hq).trans ?_,?_⟩
        ·rw [if_neg hqk];unfold We;rw [zaG,if_neg (show ¬ (yR l i=some q∧yi l I q≠some i) from fun e=>hqk (by have:=e.1;rw [hfc] at this;injection this with this;exact this.symm)),List.append_nil];split <;> rfl
        ·unfold We;split <;> rfl
      ·refine (.oldK rfl (Vc.cons (.cons (.plain rfl rfl) (.cons (.own (.tail _ (.head _)) rfl rfl rfl) (.cons (.omap (.tail _ (.tail _ (.head _))) rfl) (.cons (.own (.tail _ (.tail _ (.tail _ (.head _)))) rfl rfl rfl) .nil)))) rfl Vc.nil) (.old rfl zg rfl (.old rfl zg rfl (.oldH rfl (UN.of fun q hq=>?_) .nil))));have hmm:=yF (B:=1000) (s:=fun q=>if q=w then some 150 else some (1000+q)) (vo:=fun _=>0) (f:=We l I (Y++[i])) hq;unfold We at hmm;unfold VP;by_cases hqX:q∈I
       ·by_cases hqk:q=w
        ·rw [if_pos hqk,if_pos hqX] at hmm;rw [if_pos hqk,if_pos hqX];exact .omap (List.mem_append_right _ hmm) rfl
        ·rw [if_neg hqk,if_pos hqX] at hmm;rw [if_neg hqk,if_pos hqX];exact .omap (List.mem_append_right _ hmm) rfl
       ·rw [if_neg (fun e=>hqX (by rw [e];exact hwI)),if_neg hqX];exact .plain rfl rfl
     ·have hnx:yi l I w=some i:=by
       by_cases e:yi l I w=some i
       ·exact e
       ·rw [if_neg e] at h;simp at h
      refine zb ?_;refine ⟨j+1,by omega,by omega,?_⟩;rw [htk];refine FLe.convS [⟨100,some 100,0,⟨0,.hrow,71,4,[[.list 8 (l.map OpV.fv),.own 101 0 0 m,.omap 102 0,.own 103 0 0 n]]⟩⟩,⟨101,some 101,0,⟨0,.own,3,1,I.map yp⟩⟩,⟨102,some 102,0,⟨0,.mapo,68,0,yG l n⟩⟩,⟨103,some 103,0,⟨0,.hrow,67,1,(List.range n).map fun q=>[VP I q]⟩⟩] 1000 n w (some 150) (fun _=>0) (We l I (Y++[i])) rfl (by unfold zh;omega) rfl zc zc zc (by repeat (first|exact Low.nil|exact Low.fam rfl (by unfold zh;omega)|refine Low.cons rfl ?_)) ?_ ?_ zd
      ·intro q hq;by_cases hqk:q=w
       ·subst hqk;rw [if_pos rfl];refine .inr ⟨150,rfl,?_,?_⟩
        ·unfold We;rw [if_pos hwI,zaG,if_neg (show ¬ (yR l i=some q∧yi l I q≠some i) from fun e=>e.2 hnx),List.append_nil];rfl
        ·unfold We;rw [if_pos hwI];rfl
       ·rw [if_neg hqk];refine .inr ⟨_,rfl,(ye (C:=[(100,_),(101,_),(102,_),(103,_),(150,_)]) rfl zg hq).trans ?_,?_⟩
        ·rw [if_neg hqk];unfold We;rw [zaG,if_neg (show ¬ (yR l i=some q∧yi l I q≠some i) from fun e=>hqk (by have:=e.1;rw [hfc] at this;injection this with this;exact this.symm)),List.append_nil];split <;> rfl
        ·unfold We;split <;> rfl
      ·refine (.oldK rfl (Vc.cons (.cons (.plain rfl rfl) (.cons (.own (.tail _ (.head _)) rfl rfl rfl) (.cons (.omap (.tail _ (.tail _ (.head _))) rfl) (.cons (.own (.tail _ (.tail _ (.tail _ (.head _)))) rfl rfl rfl) .nil)))) rfl Vc.nil) (.old rfl zg rfl (.old rfl zg rfl (.oldH rfl (UN.of fun q hq=>?_) .nil))));have hmm:=yF (B:=1000) (s:=fun q=>if q=w then some 150 else some (1000+q)) (vo:=fun _=>0) (f:=We l I (Y++[i])) hq;unfold We at hmm;unfold VP;by_cases hqX:q∈I
       ·by_cases hqk:q=w
        ·rw [if_pos hqk,if_pos hqX] at hmm;rw [if_pos hqk,if_pos hqX];exact .omap (List.mem_append_right _ hmm) rfl
        ·rw [if_neg hqk,if_pos hqX] at hmm;rw [if_neg hqk,if_pos hqX];exact .omap (List.mem_append_right _ hmm) rfl
       ·rw [if_neg (fun e=>hqX (by rw [e];exact hwI)),if_neg hqX];exact .plain rfl rfl
    ·refine FLe.convS [⟨100,some 100,0,⟨0,.hrow,71,4,[[.list 8 (l.map OpV.fv),.own 101 0 0 m,.omap 102 0,.own 103 0 0 n]]⟩⟩,⟨101,some 101,0,⟨0,.own,3,1,I.map yp⟩⟩,⟨102,some 102,0,⟨0,.mapo,68,0,yG l n⟩⟩,⟨103,some 103,0,⟨0,.hrow,67,1,(List.range n).map fun q=>[if q=w then .omap 150 0 else VP I q]⟩⟩,⟨150,some (1000+w),0,⟨0,.mapo,67,0,e4 l I Y w⟩⟩] 1000 n w none (fun _=>0) (fun q=>if q=w then (⟨0,.own,67,1,[]⟩:zq) else We l I Y q) rfl (by unfold zh;omega) rfl zc XW XW (by repeat (first|exact Low.nil|exact Low.fam rfl (by unfold zh;omega)|refine Low.cons rfl ?_)) ?_ ?_ zd
     ·intro q hq;by_cases hqk:q=w
      ·rw [if_pos hqk,if_pos hqk];exact .inl ⟨rfl,rfl,rfl⟩
      ·rw [if_neg hqk,if_neg hqk];refine .inr ⟨_,rfl,(ye (C:=[(100,_),(101,_),(102,_),(103,_)]) rfl zg hq).trans (by unfold We;split <;> rfl),?_⟩;unfold We;split <;> rfl
     ·refine (.oldK rfl (Vc.cons (.cons (.plain rfl rfl) (.cons (.own (.tail _ (.head _)) rfl rfl rfl) (.cons (.omap (.tail _ (.tail _ (.head _))) rfl) (.cons (.own (.tail _ (.tail _ (.tail _ (.head _)))) rfl rfl rfl) .nil)))) rfl Vc.nil) (.old rfl zg rfl (.old rfl zg rfl (.oldH rfl (UN.of fun q hq=>?_) (.old ((ye (C:=[(100,_),(101,_),(102,_),(103,_)]) rfl zg hwn).trans (by unfold We;rw [if_pos hwI])) zg rfl .nil)))));have hmm:=yF (B:=1000) (s:=fun q=>if q=w then none else some (1000+q)) (vo:=fun _=>0) (f:=(fun q=>if q=w then (⟨0,.own,67,1,[]⟩:zq) else We l I Y q)) hq;by_cases hqk:q=w
      ·subst hqk;unfold VP;rw [if_pos rfl,if_pos hwI];exact .omap (.tail _ (.tail _ (.tail _ (.tail _ (.head _))))) rfl
      ·rw [if_neg hqk,if_neg hqk] at hmm;rw [if_neg hqk];unfold VP;by_cases hqX:q∈I
       ·rw [if_pos hqX];refine .omap (List.mem_append_right _ hmm) ?_;unfold We;split <;> rfl
       ·rw [if_neg hqX];exact .plain rfl rfl
  ·have hje:j=m:=by simp at h;omega
   subst hje;clear h;rw [show I.take j=I by rw [← hm,List.take_length]];refine zb ?_;have hRe:R=.eptr 4 [[.list 8 (l.map OpV.fv),.list 1 (I.map yp),.smap (yG l n),zos l I I n]] 0 0:=by
    rw [← hR];unfold zjv;rw [hn,hI]
   refine FW.le (s':=⟨[(2,R)],[]⟩) (FW.ret ⟨.inl rfl,.sh (.cons (.tmp 2 rfl (by rw [hRe];rfl)) .nil) rfl (by rw [hRe];rfl)⟩) ?_;refine FLe.freeze (Low.gh (by repeat (first|exact Low.nil|exact Low.fam rfl (by unfold zh;omega)|refine Low.cons rfl ?_))) (.cons rfl ?_ (by rw [hRe];rfl) .nil);rw [hRe];refine Yy.ptr1 rfl rfl (.cons (.plain rfl) rfl (.cons (Yy.ownP rfl (by simpa using hm) (fun e he=>by obtain ⟨q,_,rfl⟩:=List.mem_map.1 he;rfl) (fun g hg=>by obtain ⟨e,he,hg⟩:=List.mem_flatten.1 hg;obtain ⟨q,_,rfl⟩:=List.mem_map.1 he;rw [List.mem_singleton.1 hg];rfl)) rfl (.cons (Yy.omapP rfl) rfl (.cons ?_ rfl .nil))));refine Yy.ownR rfl fun q hq=>?_;unfold VP zpa;by_cases hqX:q∈I
   ·rw [if_pos hqX,if_pos hqX];exact ⟨Yy.omapP ((ye (C:=[(100,_),(101,_),(102,_),(103,_)]) rfl zg hq).trans (by unfold We;rw [if_pos hqX])),rfl⟩
   ·rw [if_neg hqX,if_neg hqX];exact ⟨.plain rfl,rfl⟩
end Go.Proofs.Ytmnmakhpjgjdaaa
