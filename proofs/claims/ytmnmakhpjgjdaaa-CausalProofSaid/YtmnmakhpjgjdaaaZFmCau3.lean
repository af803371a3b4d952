/-
  Some texts as one: FmCau3, FmCau4.
-/
import Derived.Test.YtmnmakhpjgjdaaaZFmW
import Derived.Test.YtmnmakhpjgjdaaaZDA
import Derived.Test.YtmnmakhpjgjdaaaZS
namespace Go.Proofs.Ytmnmakhpjgjdaaa
set_option linter.unusedVariables false
set_option maxHeartbeats 16000000
open Go.RowKit
def xJ (l:List OpV):Nat→List (Int×Int)
 | 0 => []
 | i+1 => if (nth l i).k=0 ∧ (nth l i).done=true ∧ ((nth l i).key, (nth l i).res) ∉ xJ l i then xJ l i ++ [((nth l i).key, (nth l i).res)] else xJ l i
def zmD (p:Int×Int):List FV:=[zc6 p.1 p.2,.agg []]
def Zg (l:List OpV) (i:Nat):List (List FV):=(xJ l i).map zmD
theorem Vu {l:List OpV} {a b:Int}:∀ {i:Nat},(a,b)∈xJ l i↔∃ j,j<i∧(nth l j).k=0∧(nth l j).done=true∧(nth l j).key=a∧(nth l j).res=b
 | 0 => by simp [xJ]
 | i + 1=>by
  unfold xJ
  have ih:=Vu (l:=l) (a:=a) (b:=b) (i:=i)
  constructor
  ·intro h
   split at h
   ·rename_i hc
    rcases List.mem_append.1 h with h|h
    ·obtain ⟨j,hj,q⟩:=ih.1 h
     exact ⟨j,by omega,q⟩
    ·have h:=List.mem_singleton.1 h
     injection h with h1 h2
     exact ⟨i,by omega,hc.1,hc.2.1,h1.symm,h2.symm⟩
   ·obtain ⟨j,hj,q⟩:=ih.1 h
    exact ⟨j,by omega,q⟩
  ·rintro ⟨j,hj,q1,q2,q3,q4⟩
   by_cases hji:j=i
   ·subst hji
    rw [q3,q4]
    split
    ·simp
    ·rename_i hc
     simp only [not_and,Classical.not_not] at hc
     exact hc q1 q2
   ·have:=ih.2 ⟨j,by omega,q1,q2,q3,q4⟩
    split
    ·exact List.mem_append_left _ this
    ·exact this
theorem zd6 {l:List OpV} {i:Nat} (hi:i≤l.length) (hin:∀ o∈l,za2 o):∀ row∈Zg l i,∀ kf,row.head? = some kf→Zl Try.prog 87 kf:=fun row hr kf hk=>by
 obtain ⟨⟨a,b⟩,hp,rfl⟩:=List.mem_map.1 hr
 obtain ⟨j,hj,_,_,h1,h2⟩:=Vu.1 hp
 have ho:=hin _ (zu (show j<l.length by omega))
 injection hk with hk
 subst hk
 exact Uf (by rw [← h1];exact ho.2.2.1) (by rw [← h2];exact ho.2.2.2.2.1)
theorem zlB (l:List OpV) (i:Nat) (a b:Int):YO (Zg l i) (zc6 a b) (.agg []) (.agg []) (decide ((a,b)∈xJ l i)):=by
 by_cases h:(a,b)∈xJ l i
 ·rw [decide_eq_true h]
  exact .inl ⟨rfl,List.mem_map.2 ⟨_,h,rfl⟩⟩
 ·rw [decide_eq_false h]
  refine .inr ⟨rfl,rfl,fun row hr e=>?_⟩
  obtain ⟨p,hp,rfl⟩:=List.mem_map.1 hr
  injection e with e
  obtain ⟨e1,e2⟩:=WH e
  exact h (by rw [← e1,← e2];exact hp)
theorem zi3 {l:List OpV} {i:Nat} (h0:(nth l i).k=0) (h1:(nth l i).done=true):zhQ (Zg l i) (zc6 (nth l i).key (nth l i).res) (.agg []) (Zg l (i+1)):=by
 by_cases h:((nth l i).key,(nth l i).res)∈xJ l i
 ·have e:Zg l (i+1)=Zg l i:=by unfold Zg;rw [show xJ l (i+1)=xJ l i from if_neg (fun q=>q.2.2 h)]
  have hm:zmD ((nth l i).key,(nth l i).res)∈Zg l i:=List.mem_map.2 ⟨_,h,rfl⟩
  obtain ⟨j,hj,hje⟩:=List.getElem_of_mem hm
  rw [e]
  refine .inl ⟨j,.agg [],by rw [List.getElem?_eq_getElem hj,hje];rfl,?_⟩
  apply List.ext_getElem?
  intro q
  rw [List.getElem?_set]
  by_cases hq:j=q
  ·subst hq
   rw [if_pos rfl,if_pos hj,List.getElem?_eq_getElem hj,hje];rfl
  ·rw [if_neg hq]
 ·refine .inr ⟨fun row hr e=>?_,?_⟩
  ·obtain ⟨p,hp,rfl⟩:=List.mem_map.1 hr
   injection e with e
   obtain ⟨e1,e2⟩:=WH e
   exact h (by rw [← e1,← e2];exact hp)
  ·unfold Zg
   rw [show xJ l (i+1)=xJ l i++[((nth l i).key,(nth l i).res)] from if_pos ⟨h0,h1,h⟩,List.map_append]
   rfl
theorem zhd {l:List OpV} {i:Nat} (h:¬ ((nth l i).k=0∧(nth l i).done=true)):Zg l (i+1)=Zg l i:=by
 unfold Zg
 rw [show xJ l (i+1)=xJ l i from if_neg (fun q=>h ⟨q.1,q.2.1⟩)]
theorem ze6 (l:List OpV) (o:OpV):decide ((o.key,o.arg)∈xJ l l.length)=l.any (zla o.key o.arg):=by
 rw [Bool.eq_iff_iff,decide_eq_true_iff,Vu,zh1]
 constructor
 ·rintro ⟨j,hj,q1,q2,q3,q4⟩
  exact ⟨j,hj,by unfold zla;simp [q1,q2,q3,q4]⟩
 ·rintro ⟨j,hj,h⟩
  unfold zla at h
  simp at h
  exact ⟨j,hj,by simp [h],by simp [h],by simp [h],by simp [h]⟩
def zI (l:List OpV) (i:Nat):List Nat:=(List.range i).filter (xf l)
theorem zgP (l:List OpV) (i:Nat):zI l (i+1)=zI l i++if xf l i=true then [i] else []:=by
 unfold zI
 rw [List.range_succ,List.filter_append]
 congr 1
 by_cases h:xf l i=true <;> simp [h]
theorem ZZ (l:List OpV) (i:Nat):(zI l i).length≤i:=Nat.le_trans (List.length_filter_le _ _) zd
theorem xi:Maps.Keyed Try.prog 3:=Maps.int_keyed (q:=.i64) zi
theorem Zj {a:Int} (ha:I64 a):Zl Try.prog 3 (.int .i64 a):=⟨rfl,_,Maps.keyOf_int_mk (q:=.i64) zi (zdX ha)⟩
def YL (l:List OpV) (X:List Nat) (p:Int):Option Nat:=X.reverse.find? fun k=>decide ((nth l k).p=p)
def yd (l:List OpV) (X:List Nat) (i:Nat):Option Nat:=X.find? fun k=>decide (i<k) && decide ((nth l k).p=(nth l i).p)
theorem zgU (l:List OpV) (X:List Nat) (i:Nat) (p:Int):YL l (X++[i]) p=if (nth l i).p=p then some i else YL l X p:=by
 unfold YL
 rw [List.reverse_append,List.reverse_singleton,List.singleton_append,List.find?_cons]
 by_cases h:(nth l i).p=p
 ·rw [if_pos h,decide_eq_true h]
 ·rw [if_neg h,decide_eq_false h]
theorem Xw {l:List OpV} {X:List Nat} {p:Int} {k:Nat} (h:YL l X p=some k):k∈X∧(nth l k).p=p:=by
 have h1:=List.find?_some h
 have h2:=List.mem_of_find?_eq_some h
 exact ⟨by simpa using h2,by simpa using h1⟩
theorem zgT {l:List OpV} {X:List Nat} {p:Int} (h:YL l X p=none):∀ k∈X,(nth l k).p≠p:=fun k hk=>by
 have:=List.find?_eq_none.1 h k (by simpa using hk)
 simpa using this
theorem zaf {l:List OpV} {X:List Nat} (hX:X.Pairwise (· < ·)) {p:Int} {k:Nat} (h:YL l X p=some k):∀ q∈X,(nth l q).p=p→q≤k:=fun q hq hp=>by
 unfold YL at h
 rw [List.find?_eq_some_iff_append] at h
 obtain ⟨_,ua,ub,e,hn⟩:=h
 have hq2:q∈X.reverse:=by simpa using hq
 rw [e] at hq2
 rcases List.mem_append.1 hq2 with h1|h1
 ·have:=hn q h1
  simp [hp] at this
 ·rcases List.mem_cons.1 h1 with rfl|h1
  ·exact Nat.le_refl _
  ·have hX2:=List.pairwise_reverse.2 (show X.Pairwise (fun a b=>a<b) from hX)
   have hX3:X.reverse.Pairwise fun a b=>b<a:=hX2
   rw [e] at hX3
   exact Nat.le_of_lt ((List.pairwise_cons.1 (List.pairwise_append.1 hX3).2.1).1 q h1)
def e3 (l:List OpV) (X:List Nat) (i:Nat):List (List FV):=(yd l X i).toList.map fun k:Nat=>[.int .i64 (k:Int),.int .i64 1]
theorem zfa {l:List OpV} {X:List Nat} (hX:X.Pairwise (· < ·)) {i:Nat} (hi:∀ k∈X,k<i) {j:Nat} (hj:j∈X):yd l (X++[i]) j=if YL l X (nth l i).p=some j then some i else yd l X j:=by
 unfold yd
 rw [List.find?_append]
 by_cases h:YL l X (nth l i).p=some j
 ·rw [if_pos h]
  obtain ⟨_,h2⟩:=Xw h
  have h3:=zaf hX h
  have:(X.find? fun k=>decide (j<k) && decide ((nth l k).p=(nth l j).p))=none:=by
   rw [List.find?_eq_none]
   intro q hq
   simp only [Bool.and_eq_true,decide_eq_true_eq,not_and]
   intro hlt hp
   have:=h3 q hq (hp.trans h2)
   omega
  rw [this,Option.none_or,List.find?_cons,decide_eq_true (hi j hj),decide_eq_true h2.symm]
  rfl
 ·rw [if_neg h]
  cases hf:X.find? fun k=>decide (j<k) && decide ((nth l k).p=(nth l j).p) with
  | some q => rfl
  | none=>
   rw [Option.none_or,List.find?_cons,decide_eq_true (hi j hj),Bool.true_and]
   by_cases hp:(nth l i).p=(nth l j).p
   ·exfalso
    cases hl:YL l X (nth l i).p with
    | none => exact zgT hl j hj hp.symm
    | some k =>
     obtain ⟨h1,h2⟩:=Xw hl
     have h3:=zaf hX hl j hj hp.symm
     have hne:j≠k:=fun e=>h (by rw [e];exact hl)
     have:=List.find?_eq_none.1 hf k h1
     simp only [Bool.and_eq_true,decide_eq_true_eq,not_and] at this
     exact this za (h2.trans hp)
   ·rw [decide_eq_false hp];rfl
theorem ze9 {l:List OpV} {X:List Nat} {i:Nat} (hi:∀ k∈X,k<i):yd l (X++[i]) i=none:=by
 unfold yd
 rw [List.find?_eq_none]
 intro q hq
 rcases List.mem_append.1 hq with h|h
 ·have:=hi q h;simp;omega
 ·rw [List.mem_singleton.1 h];simp
theorem zan {l:List OpV} {X:List Nat} (hX:X.Pairwise (· < ·)) {p:Int} {j:Nat} (h:YL l X p=some j):yd l X j=none:=by
 unfold yd
 rw [List.find?_eq_none]
 intro q hq
 simp only [Bool.and_eq_true,decide_eq_true_eq,not_and]
 intro hlt hp
 have:=zaf hX h q hq (hp.trans (Xw h).2)
 omega
theorem zeU {l:List OpV} {X:List Nat} (hX:X.Pairwise (· < ·)) {i:Nat} (hi:∀ k∈X,k<i) {j:Nat} (hj:j∈X):e3 l (X++[i]) j=if YL l X (nth l i).p=some j then e3 l X j++[[.int .i64 (i:Int),.int .i64 1]] else e3 l X j:=by
 unfold e3
 rw [zfa hX hi hj]
 by_cases h:YL l X (nth l i).p=some j
 ·rw [if_pos h,if_pos h,zan hX h];rfl
 ·rw [if_neg h,if_neg h]
theorem zia {l:List OpV} {X:List Nat} {i:Nat} (hi:∀ k∈X,k<i):e3 l (X++[i]) i=[]:=by
 unfold e3;rw [ze9 hi];rfl
def Vc (X:List Nat) (j:Nat):FV:=if j∈X then .omap (1000+j) 0 else .nilm
def Wi (l:List OpV) (X:List Nat) (j:Nat):zm:=if j∈X then ⟨0,.mapo,67,0,e3 l X j⟩ else ⟨0,.own,67,1,[]⟩
theorem zad (l:List OpV) (i:Nat):(zI l i).Pairwise (· < ·):=List.Pairwise.filter _ List.pairwise_lt_range
theorem yR {l:List OpV} {i j:Nat} (h:j∈zI l i):j<i:=by simpa using (List.mem_filter.1 h).1
def e4 (l:List OpV) (I Y:List Nat) (q:Nat):List (List FV):=e3 l I q++(Y.filter fun k=>decide (xu l k=some q∧yd l I q≠some k)).map fun k:Nat=>[.int .i64 (k:Int),.int .i64 2]
theorem zmj (l:List OpV) (I:List Nat) (q:Nat):e4 l I [] q=e3 l I q:=by unfold e4;simp
theorem UJ (l:List OpV) (I Y:List Nat) (i q:Nat):e4 l I (Y++[i]) q=e4 l I Y q++if xu l i=some q∧yd l I q≠some i then [[.int .i64 (i:Int),.int .i64 2]] else []:=by
 unfold e4
 rw [List.filter_append,List.map_append,List.append_assoc]
 congr 2
 by_cases h:xu l i=some q∧yd l I q≠some i
 ·rw [if_pos h,List.filter_cons_of_pos (by simpa using h)];rfl
 ·rw [if_neg h,List.filter_cons_of_neg (by simpa using h)];rfl
theorem Xx {l:List OpV} {I:List Nat} {q k:Nat} (h:yd l I q=some k):k∈I∧q<k∧(nth l k).p=(nth l q).p:=by
 have h1:=List.find?_some h
 have h2:=List.mem_of_find?_eq_some h
 simp only [Bool.and_eq_true,decide_eq_true_eq] at h1
 exact ⟨h2,h1⟩
theorem zk6 {l:List OpV} {I Y:List Nat} {q n:Nat} (hI:∀ k∈I,k<n) (hY:∀ k∈Y,k<n) (hn:n≤1000):∀ row∈e4 l I Y q,∀ kf,row.head? = some kf→Zl Try.prog 3 kf:=fun row hr kf hk=>by
 have key:∀ k:Nat,k<n→Zl Try.prog 3 (.int .i64 (k:Int)):=fun k hk=>Zj (by unfold I64;omega)
 unfold e4 e3 at hr
 rcases List.mem_append.1 hr with h|h
 ·obtain ⟨k,hk2,rfl⟩:=List.mem_map.1 h
  injection hk with hk;subst hk
  exact key k (hI k (Xx (by simpa using hk2)).1)
 ·obtain ⟨k,hk2,rfl⟩:=List.mem_map.1 h
  injection hk with hk;subst hk
  exact key k (hY k (List.mem_filter.1 hk2).1)
theorem zib {l:List OpV} {I Y:List Nat} {q i:Nat} (h:yd l I q≠some i) (hY:∀ k∈Y,k<i):∀ row∈e4 l I Y q,row.head?≠some (.int .i64 (i:Int)):=fun row hr e=>by
 unfold e4 e3 at hr
 rcases List.mem_append.1 hr with h1|h1
 ·obtain ⟨k,hk,rfl⟩:=List.mem_map.1 h1
  simp only [List.head?_cons,Option.some.injEq,FV.int.injEq,true_and] at e
  have:k=i:=by omega
  subst this
  exact h (by simpa using hk)
 ·obtain ⟨k,hk,rfl⟩:=List.mem_map.1 h1
  simp only [List.head?_cons,Option.some.injEq,FV.int.injEq,true_and] at e
  have:=hY k (List.mem_filter.1 hk).1
  omega
theorem zlv (l:List OpV) {I Y:List Nat} {q i:Nat} (hY:∀ k∈Y,k<i):YO (e4 l I Y q) (.int .i64 (i:Int)) (.int .i64 0) (.int .i64 (if yd l I q=some i then 1 else 0)) (decide (yd l I q=some i)):=by
 by_cases h:yd l I q=some i
 ·rw [if_pos h,decide_eq_true h]
  refine .inl ⟨rfl,?_⟩
  unfold e4 e3
  rw [h]
  exact List.mem_append_left _ zd
 ·rw [if_neg h,decide_eq_false h]
  exact .inr ⟨rfl,rfl,zib h hY⟩
def Xs (l:List OpV) (I Y:List Nat) (q:Nat):zm:=if q∈I then ⟨0,.mapo,67,0,e4 l I Y q⟩ else ⟨0,.own,67,1,[]⟩
def zmL (l:List OpV) (I Y:List Nat) (q:Nat):FV:=if q∈I then .smap (e4 l I Y q) else .nilm
def zl7 (l:List OpV) (I Y:List Nat) (n:Nat):FV:=.list 1 ((List.range n).map fun q=>[zmL l I Y q])
inductive zgm (s:FSt):List FV→List FV→Prop where
 | nil:zgm s [] []
 | cons {f g:FV} {fs gs:List FV} (h:ZY s f g) (ho:g.one=true) (hs:zgm s fs gs):zgm s (f :: fs) (g :: gs)
theorem zgm.get {s:FSt} {fs gs:List FV} (h:zgm s fs gs):fs.length=gs.length∧(∀ g∈gs,g.one=true)∧∀ (j:Nat) f g,fs[j]? = some f→gs[j]? = some g→ZY s f g:=by
 induction h with
 | nil => exact ⟨rfl, (fun g hg => by cases hg), fun j f g h1 => by simp at h1⟩
 | cons h ho hs ih=>
  obtain ⟨h1,h2,h3⟩:=ih
  refine ⟨by simp [h1],fun g hg=>?_,fun j f g hf hg=>?_⟩
  ·rcases List.mem_cons.1 hg with rfl|hg
   ·exact ho
   ·exact h2 g hg
  ·cases j with
   | zero => simp at hf hg; subst hf; subst hg; exact h
   | succ j => simp at hf hg; exact h3 j f g hf hg
theorem ZY.ptr1 {t:List (Nat×FV)} {ob:List (Nat×zm)} {id ver sz E:Nat} {r r' : List FV} (h:look {} ob id=⟨ver,.hrow,E,sz,[r]⟩) (hz:r'.length=sz) (hv:zgm ⟨t,ob⟩ r r'):ZY ⟨t,ob⟩ (.ptr id ver 0 0) (.eptr sz [r'] 0 0):=by
 have ho:(⟨t,ob⟩:FSt).ob id=⟨ver,.hrow,E,sz,[r]⟩:=h
 obtain ⟨h1,h2,h3⟩:=hv.get
 refine .ptr (zO ho zc) (by rw [ho];rfl) (by rw [ho]) (by rw [ho];rfl) (fun e he=>by rw [List.mem_singleton.1 he];exact hz) (fun g hg=>h2 g (by simpa using hg)) fun j f g hf hg=>?_
 rw [ho] at hf
 exact h3 j f g (by simpa using hf) (by simpa using hg)
theorem ZY.ownP {t:List (Nat×FV)} {ob:List (Nat×zm)} {id ver n E sz:Nat} {es:List (List FV)} (h:look {} ob id=⟨ver,.own,E,sz,es⟩) (hn:es.length=n) (hw:∀ e∈es,e.length=sz) (h1:∀ g∈es.flatten,g.one=true):ZY ⟨t,ob⟩ (.own id ver 0 n) (.list sz es):=by
 have ho:(⟨t,ob⟩:FSt).ob id=⟨ver,.own,E,sz,es⟩:=h
 refine .own (zO ho zc) (by rw [ho];rfl) (by rw [ho]) hn hw h1 fun j f g hf hg=>?_
 rw [ho] at hf
 dsimp only at hf
 rw [List.drop_zero,List.take_of_length_le za,hg] at hf
 injection hf with hf
 subst hf
 exact .plain (by have:=h1 g (List.mem_of_getElem? hg);cases g <;> first|rfl|(simp [FV.one] at this))
theorem UP {n:Nat} {c:Nat→FV}:((List.range n).map fun q=>[c q]).flatten=(List.range n).map c:=by
 induction List.range n with
 | nil => rfl
 | cons x L ih => simp [ih]
theorem ZY.ownR {t:List (Nat×FV)} {ob:List (Nat×zm)} {id ver n E:Nat} {c c' : Nat→FV} (h:look {} ob id=⟨ver,.hrow,E,1,(List.range n).map fun q=>[c q]⟩) (hv:∀ q,q<n→ZY ⟨t,ob⟩ (c q) (c' q)∧(c' q).one=true):ZY ⟨t,ob⟩ (.own id ver 0 n) (.list 1 ((List.range n).map fun q=>[c' q])):=by
 have ho:(⟨t,ob⟩:FSt).ob id=⟨ver,.hrow,E,1,(List.range n).map fun q=>[c q]⟩:=h
 refine .own (zO ho zc) (by rw [ho];rfl) (by rw [ho]) zd (fun e he=>?_) (fun g hg=>?_) fun j f g hf hg=>?_
 ·obtain ⟨q,_,rfl⟩:=List.mem_map.1 he;rfl
 ·rw [UP] at hg
  obtain ⟨q,hq,rfl⟩:=List.mem_map.1 hg
  exact (hv q (List.mem_range.1 hq)).2
 ·rw [ho] at hf
  dsimp only at hf
  rw [List.drop_zero,List.take_of_length_le zd,UP] at hf
  rw [UP] at hg
  rw [List.getElem?_map] at hf hg
  cases hj:(List.range n)[j]? with
  | none => rw [hj] at hf; cases hf
  | some q =>
   rw [hj] at hf hg
   injection hf with hf;injection hg with hg
   subst hf;subst hg
   exact (hv q (List.mem_range.1 (List.mem_of_getElem? hj))).1
theorem ZY.omapP {t:List (Nat×FV)} {ob:List (Nat×zm)} {id ver E sz:Nat} {es:List (List FV)} (h:look {} ob id=⟨ver,.mapo,E,sz,es⟩):ZY ⟨t,ob⟩ (.omap id ver) (.smap es):=by
 have ho:(⟨t,ob⟩:FSt).ob id=⟨ver,.mapo,E,sz,es⟩:=h
 exact .omap (zO ho zc) (by rw [ho];rfl) (by rw [ho];exact fun e=>by cases e) (by rw [ho])
theorem Low.gh {ob:List (Nat×zm)} (h:Low ob):zkq ob=true:=List.all_eq_true.2 fun p hp=>by
 have h1:=h p hp
 cases e:Nat.ble zg p.1 with
 | true => have := Nat.le_of_ble_eq_true e; omega
 | false => rfl
theorem zda {A:List (Int×Int)} {c v:Int} (hc:I64 c) (h:∀ p∈A,I64 p.1):∀ p∈zc4 A c v,I64 p.1:=by
 induction A with
 | nil => intro p hp; unfold zc4 at hp; rw [List.mem_singleton.1 hp]; exact hc
 | cons a A ih=>
  intro p hp
  unfold zc4 at hp
  split at hp
  ·rcases List.mem_cons.1 hp with rfl|hp
   ·exact hc
   ·exact h p (List.mem_cons_of_mem _ hp)
  ·rcases List.mem_cons.1 hp with rfl|hp
   ·exact h _ (List.mem_cons_self ..)
   ·exact ih (fun q hq=>h q (List.mem_cons_of_mem _ hq)) p hp
theorem zfw {c v d:Int}:∀ (A:List (Int×Int)),((zc4 A c v).any fun p=>decide (p.1=d))=(decide (c=d) || A.any fun p=>decide (p.1=d))
 | [] => by simp [zc4]
 | p::A=>by
  unfold zc4
  by_cases h:p.1=c
  ·rw [if_pos h];subst h;simp [List.any_cons]
  ·rw [if_neg h,List.any_cons,zfw A,List.any_cons]
   cases decide (p.1=d) <;> cases decide (c=d) <;> simp
theorem zmo {i:Nat} {x:FV} {f:Nat→FV}:(fun j=>if j=i then [x] else [f j])=fun j=>[if j=i then x else f j]:=funext fun j=>by split <;> rfl
theorem zbo (l:List OpV) (hl:l.length≤1000) (hin:∀ o∈l,za2 o) (hd:YK l):zU Try.prog 31 [.list 8 (l.map OpV.fv)] .sh (zhl l (.list 1 ((zI l l.length).map ym)) (zl7 l (zI l l.length) (zI l l.length) l.length)):=by
 obtain ⟨n,hn⟩:∃ n,l.length=n:=⟨_,rfl⟩
 have hr0:Zg l 0=[]:=rfl
 refine zU.of_body (c:=(xT Try.prog zE zt 180)) ⟨Try.func31,rfl,Try.ntmps31,by kernel_rfl⟩ zL zw rfl ?_
 change FW _ _ _ ⟨[(0,.list 8 (l.map OpV.fv))],[]⟩
 obtain ⟨R,hR⟩:∃ R,zhl l (.list 1 ((zI l l.length).map ym)) (zl7 l (zI l l.length) (zI l l.length) l.length)=R:=⟨_,rfl⟩
 rw [hR]
 (repeat (first|refine FW.seq ?_|refine FW.region ?_|refine zn.nil ?_|refine zT rfl rfl rfl ?_|refine zB rfl rfl rfl ?_|refine zb0 rfl rfl rfl ?_|refine XD rfl rfl (by first|exact List.length_map _|rfl|omega) rfl rfl ?_|refine zjB rfl rfl rfl rfl rfl rfl rfl rfl za za rfl rfl rfl ?_))
 rw [hn]
 refine zju (cs:=[.list 8 (l.map OpV.fv),.nil,.omap 22 (0+1),.own 25 (0+1) 0 n]) rfl (by refine Uv.cons rfl (.inl rfl) rfl rfl ?_;refine Uv.cons rfl (.inr (.inr (.inr (.inr ⟨_,_,rfl,zO rfl zc⟩)))) rfl rfl ?_;refine Uv.cons rfl (.inr (.inl ⟨_,_,_,_,rfl,zO rfl zc⟩)) rfl rfl ?_;exact Uv.nil) rfl rfl rfl rfl rfl rfl ?_
 refine zlP rfl rfl rfl rfl rfl ?_
 refine zb ?_
 rw [hn]
 refine FW.loop (fun i:Nat=>⟨[(0,.list 8 (l.map OpV.fv)),(3,.ptr 100 0 0 0),(4,.omap 104 0),(29,.list 8 (l.map OpV.fv)),(30,.int .i64 n),(31,.int .i64 i)],[(100,⟨0,.hrow,71,4,[[.list 8 (l.map OpV.fv),.own 101 0 0 0,.omap 102 0,.own 103 0 0 n]]⟩),(101,⟨0,.own,3,1,[]⟩),(102,⟨0,.mapo,68,0,[]⟩),(103,⟨0,.own,67,1,List.replicate n [.nilm]⟩),(104,⟨0,.mapo,85,0,Zg l i⟩)]⟩) (fun i=>i≤n) (fun i=>n - i) 0 (Nat.zero_le _) ?_ ?_
 ·exact (FLe.cv [⟨100,some 27,0+1,⟨0,.hrow,71,4,[[.list 8 (l.map OpV.fv),.own 101 0 0 0,.omap 102 0,.own 103 0 0 n]]⟩⟩,⟨101,none,0,⟨0,.own,3,1,[]⟩⟩,⟨102,some 22,0+1,⟨0,.mapo,68,0,[]⟩⟩,⟨103,some 25,0+1,⟨0,.own,67,1,List.replicate n [.nilm]⟩⟩,⟨104,some 28,0+1,⟨0,.mapo,85,0,[]⟩⟩] (by repeat (first|exact .nil|refine .old rfl zc rfl ?_|refine .oldK rfl (xS.cons (by repeat (first|exact zf.nil|refine zf.cons (.plain rfl rfl) ?_|refine zf.cons (.nil (.tail _ (.head _)) rfl) ?_|refine zf.cons (.omap (.tail _ (.tail _ (.head _))) rfl) ?_|refine zf.cons (.own (.tail _ (.tail _ (.tail _ (.head _)))) rfl rfl rfl) ?_)) rfl xS.nil) ?_|refine .new ?_)) (by repeat (first|exact .nil|refine .cons (.plain rfl rfl rfl) ?_|refine .cons (.ptr rfl (.head _) rfl) ?_|refine .cons (.omap rfl (.tail _ (.tail _ (.tail _ (.tail _ (.head _))))) rfl) ?_)))
 intro i hi
 refine zb ?_
 refine FW.cond rfl (fun h=>?_) (fun h=>?_)
 ·have hlt:i<n:=by simpa using h
  clear h
  have hlt2:i<l.length:=by omega
  have ho:=hin _ (zu hlt2)
  have hset:=zi3 (l:=l) (i:=i)
  have hskip:=zhd (l:=l) (i:=i)
  obtain ⟨o,hoe⟩:∃ o,nth l i=o:=⟨_,rfl⟩
  rw [hoe] at ho hset hskip
  refine zb ?_
  rw [hoe]
  skip
  refine zN (fun h1=>?_) (fun h1=>?_)
  ·have h1:o.k=0:=by simpa using h1
   refine zb ?_
   refine FW.cond rfl (fun h2=>?_) (fun h2=>?_)
   ·refine zb ?_
    refine ZH WG (zd6 za hin) (Uf ho.2.2.1 ho.2.2.2.2.1) (hset h1 h2) rfl rfl rfl rfl rfl rfl rfl ?_
    refine zb ?_
    exact ⟨i+1,by omega,by omega,(FLe.cv [⟨100,some 100,0,⟨0,.hrow,71,4,[[.list 8 (l.map OpV.fv),.own 101 0 0 0,.omap 102 0,.own 103 0 0 n]]⟩⟩,⟨101,some 101,0,⟨0,.own,3,1,[]⟩⟩,⟨102,some 102,0,⟨0,.mapo,68,0,[]⟩⟩,⟨103,some 103,0,⟨0,.own,67,1,List.replicate n [.nilm]⟩⟩,⟨104,some 104,0,⟨0,.mapo,85,0,Zg l (i+1)⟩⟩] (by repeat (first|exact .nil|refine .old rfl zc rfl ?_|refine .oldK rfl (xS.cons (by repeat (first|exact zf.nil|refine zf.cons (.plain rfl rfl) ?_|refine zf.cons (.own (.tail _ (.head _)) rfl rfl rfl) ?_|refine zf.cons (.omap (.tail _ (.tail _ (.head _))) rfl) ?_|refine zf.cons (.own (.tail _ (.tail _ (.tail _ (.head _)))) rfl rfl rfl) ?_)) rfl xS.nil) ?_)) (by repeat (first|exact .nil|refine .cons (.plain rfl rfl rfl) ?_|refine .cons (.ptr rfl (.head _) rfl) ?_|refine .cons (.omap rfl (.tail _ (.tail _ (.tail _ (.tail _ (.head _))))) rfl) ?_)))⟩
   ·refine zb ?_
    refine ⟨i+1,by omega,by omega,?_⟩
    rw [hskip (fun q=>by rw [q.2] at h2;cases h2)]
    exact (FLe.cv [⟨100,some 100,0,⟨0,.hrow,71,4,[[.list 8 (l.map OpV.fv),.own 101 0 0 0,.omap 102 0,.own 103 0 0 n]]⟩⟩,⟨101,some 101,0,⟨0,.own,3,1,[]⟩⟩,⟨102,some 102,0,⟨0,.mapo,68,0,[]⟩⟩,⟨103,some 103,0,⟨0,.own,67,1,List.replicate n [.nilm]⟩⟩,⟨104,some 104,0,⟨0,.mapo,85,0,Zg l i⟩⟩] (by repeat (first|exact .nil|refine .old rfl zc rfl ?_|refine .oldK rfl (xS.cons (by repeat (first|exact zf.nil|refine zf.cons (.plain rfl rfl) ?_|refine zf.cons (.own (.tail _ (.head _)) rfl rfl rfl) ?_|refine zf.cons (.omap (.tail _ (.tail _ (.head _))) rfl) ?_|refine zf.cons (.own (.tail _ (.tail _ (.tail _ (.head _)))) rfl rfl rfl) ?_)) rfl xS.nil) ?_)) (by repeat (first|exact .nil|refine .cons (.plain rfl rfl rfl) ?_|refine .cons (.ptr rfl (.head _) rfl) ?_|refine .cons (.omap rfl (.tail _ (.tail _ (.tail _ (.tail _ (.head _))))) rfl) ?_)))
  ·have h1:o.k≠0:=by simpa using h1
   refine zb ?_
   refine ⟨i+1,by omega,by omega,?_⟩
   rw [hskip (fun q=>h1 q.1)]
   exact (FLe.cv [⟨100,some 100,0,⟨0,.hrow,71,4,[[.list 8 (l.map OpV.fv),.own 101 0 0 0,.omap 102 0,.own 103 0 0 n]]⟩⟩,⟨101,some 101,0,⟨0,.own,3,1,[]⟩⟩,⟨102,some 102,0,⟨0,.mapo,68,0,[]⟩⟩,⟨103,some 103,0,⟨0,.own,67,1,List.replicate n [.nilm]⟩⟩,⟨104,some 104,0,⟨0,.mapo,85,0,Zg l i⟩⟩] (by repeat (first|exact .nil|refine .old rfl zc rfl ?_|refine .oldK rfl (xS.cons (by repeat (first|exact zf.nil|refine zf.cons (.plain rfl rfl) ?_|refine zf.cons (.own (.tail _ (.head _)) rfl rfl rfl) ?_|refine zf.cons (.omap (.tail _ (.tail _ (.head _))) rfl) ?_|refine zf.cons (.own (.tail _ (.tail _ (.tail _ (.head _)))) rfl rfl rfl) ?_)) rfl xS.nil) ?_)) (by repeat (first|exact .nil|refine .cons (.plain rfl rfl rfl) ?_|refine .cons (.ptr rfl (.head _) rfl) ?_|refine .cons (.omap rfl (.tail _ (.tail _ (.tail _ (.tail _ (.head _))))) rfl) ?_)))
 have hie:i=n:=by simp at h;omega
 rw [hie]
 clear h hi hie
 refine zb ?_
 rw [hn]
 refine FW.loop (fun i:Nat=>⟨[(0,.list 8 (l.map OpV.fv)),(3,.ptr 100 0 0 0),(4,.omap 104 0),(50,.list 8 (l.map OpV.fv)),(51,.int .i64 n),(52,.int .i64 i)],[(100,⟨0,.hrow,71,4,[[.list 8 (l.map OpV.fv),.own 101 0 0 (zI l i).length,.omap 102 0,.own 103 0 0 n]]⟩),(101,⟨0,.own,3,1,(zI l i).map ym⟩),(102,⟨0,.mapo,68,0,yE l i⟩),(103,⟨0,.own,67,1,List.replicate n [.nilm]⟩),(104,⟨0,.mapo,85,0,Zg l n⟩)]⟩) (fun i=>i≤n) (fun i=>n - i) 0 (Nat.zero_le _) ?_ ?_
 ·exact (FLe.cv [⟨100,some 100,0,⟨0,.hrow,71,4,[[.list 8 (l.map OpV.fv),.own 101 0 0 0,.omap 102 0,.own 103 0 0 n]]⟩⟩,⟨101,some 101,0,⟨0,.own,3,1,[]⟩⟩,⟨102,some 102,0,⟨0,.mapo,68,0,[]⟩⟩,⟨103,some 103,0,⟨0,.own,67,1,List.replicate n [.nilm]⟩⟩,⟨104,some 104,0,⟨0,.mapo,85,0,Zg l n⟩⟩] (by repeat (first|exact .nil|refine .old rfl zc rfl ?_|refine .oldK rfl (xS.cons (by repeat (first|exact zf.nil|refine zf.cons (.plain rfl rfl) ?_|refine zf.cons (.own (.tail _ (.head _)) rfl rfl rfl) ?_|refine zf.cons (.omap (.tail _ (.tail _ (.head _))) rfl) ?_|refine zf.cons (.own (.tail _ (.tail _ (.tail _ (.head _)))) rfl rfl rfl) ?_)) rfl xS.nil) ?_)) (by repeat (first|exact .nil|refine .cons (.plain rfl rfl rfl) ?_|refine .cons (.ptr rfl (.head _) rfl) ?_|refine .cons (.omap rfl (.tail _ (.tail _ (.tail _ (.tail _ (.head _))))) rfl) ?_)))
 intro i hi
 have hil:=ZZ l i
 refine zb ?_
 refine FW.cond rfl (fun h=>?_) (fun h=>?_)
 ·have hlt:i<n:=by simpa using h
  clear h
  have hlt2:i<l.length:=by omega
  have ho:=hin _ (zu hlt2)
  have hdo:=hd i hlt2
  have hws:=zgo l i
  have his:=zgP l i
  have hiw:=ze6 l (nth l i)
  have hlk:=zlB l n (nth l i).key (nth l i).arg
  have hinc:xf l i=((nth l i).done || (decide ((nth l i).k=1) && l.any (zla (nth l i).key (nth l i).arg))):=rfl
  rw [← hiw,hn] at hinc
  clear hiw
  unfold okW at hdo
  unfold zl8 at hws
  obtain ⟨o,hoe⟩:∃ o,nth l i=o:=⟨_,rfl⟩
  rw [hoe] at ho hdo hws hlk hinc
  generalize decide ((o.key,o.arg)∈xJ l n)=wt at hlk hinc
  generalize xf l i=ic at hws his hinc
  refine zb ?_
  rw [hoe]
  skip
  refine Xd (e:=88) WG (zd6 za hin) (Uf ho.2.2.1 ho.2.2.2.1) hlk rfl rfl zc rfl rfl rfl rfl rfl rfl ?_
  (repeat (first|refine zn.nil ?_|refine zT rfl rfl rfl ?_|refine zB rfl rfl rfl ?_|refine Uq rfl rfl rfl rfl rfl rfl rfl ?_|refine zb1 rfl rfl rfl rfl rfl rfl rfl rfl rfl ?_|refine Vy rfl rfl rfl rfl rfl ?_))
  refine FW.seq ?_
  refine FW.join (fun _:Unit=>⟨[(0,.list 8 (l.map OpV.fv)),(3,.ptr 100 0 0 0),(4,.omap 104 0),(50,.list 8 (l.map OpV.fv)),(51,.int .i64 n),(52,.int .i64 i),(7,.int .i64 i),(8,.ptr 105 0 0 0),(9,.ptr 106 0 0 0),(77,.bool ic)],[(100,⟨0,.hrow,71,4,[[.list 8 (l.map OpV.fv),.own 101 0 0 (zI l i).length,.omap 102 0,.own 103 0 0 n]]⟩),(101,⟨0,.own,3,1,(zI l i).map ym⟩),(102,⟨0,.mapo,68,0,yE l i⟩),(103,⟨0,.own,67,1,List.replicate n [.nilm]⟩),(104,⟨0,.mapo,85,0,Zg l n⟩),(105,⟨0,.own,43,8,[o.fv]⟩),(106,⟨0,.own,87,2,[[.int .i64 o.key,.int .i64 o.arg]]⟩)]⟩) (fun _=>True) ?_ ?_
  ·refine zb ?_
   refine zN (fun h1=>?_) (fun h1=>?_)
   ·rw [hinc,h1,Bool.true_or]
    refine zb ?_
    exact ⟨rfl,(),trivial,(FLe.cv [⟨100,some 100,0,⟨0,.hrow,71,4,[[.list 8 (l.map OpV.fv),.own 101 0 0 (zI l i).length,.omap 102 0,.own 103 0 0 n]]⟩⟩,⟨101,some 101,0,⟨0,.own,3,1,(zI l i).map ym⟩⟩,⟨102,some 102,0,⟨0,.mapo,68,0,yE l i⟩⟩,⟨103,some 103,0,⟨0,.own,67,1,List.replicate n [.nilm]⟩⟩,⟨104,some 104,0,⟨0,.mapo,85,0,Zg l n⟩⟩,⟨105,some 8,0+1,⟨0,.own,43,8,[o.fv]⟩⟩,⟨106,some 9,0+1,⟨0,.own,87,2,[[.int .i64 o.key,.int .i64 o.arg]]⟩⟩] (by repeat (first|exact .nil|refine .old rfl zc rfl ?_|refine .oldK rfl (xS.cons (by repeat (first|exact zf.nil|refine zf.cons (.plain rfl rfl) ?_|refine zf.cons (.own (.tail _ (.head _)) rfl rfl rfl) ?_|refine zf.cons (.omap (.tail _ (.tail _ (.head _))) rfl) ?_|refine zf.cons (.own (.tail _ (.tail _ (.tail _ (.head _)))) rfl rfl rfl) ?_)) rfl xS.nil) ?_)) (by repeat (first|exact .nil|refine .cons (.plain rfl rfl rfl) ?_|refine .cons (.ptr rfl (.head _) rfl) ?_|refine .cons (.omap rfl (.tail _ (.tail _ (.tail _ (.tail _ (.head _))))) rfl) ?_|refine .cons (.ptr rfl (.tail _ (.tail _ (.tail _ (.tail _ (.tail _ (.head _)))))) rfl) ?_|refine .cons (.ptr rfl (.tail _ (.tail _ (.tail _ (.tail _ (.tail _ (.tail _ (.head _))))))) rfl) ?_)))⟩
   ·rw [h1,Bool.false_or] at hinc
    refine zb ?_
    refine zN (fun h2=>?_) (fun h2=>?_)
    ·rw [h2,Bool.true_and] at hinc
     rw [hinc]
     refine zb ?_
     exact ⟨rfl,(),trivial,(FLe.cv [⟨100,some 100,0,⟨0,.hrow,71,4,[[.list 8 (l.map OpV.fv),.own 101 0 0 (zI l i).length,.omap 102 0,.own 103 0 0 n]]⟩⟩,⟨101,some 101,0,⟨0,.own,3,1,(zI l i).map ym⟩⟩,⟨102,some 102,0,⟨0,.mapo,68,0,yE l i⟩⟩,⟨103,some 103,0,⟨0,.own,67,1,List.replicate n [.nilm]⟩⟩,⟨104,some 104,0,⟨0,.mapo,85,0,Zg l n⟩⟩,⟨105,some 8,0+1,⟨0,.own,43,8,[o.fv]⟩⟩,⟨106,some 9,0+1,⟨0,.own,87,2,[[.int .i64 o.key,.int .i64 o.arg]]⟩⟩] (by repeat (first|exact .nil|refine .old rfl zc rfl ?_|refine .oldK rfl (xS.cons (by repeat (first|exact zf.nil|refine zf.cons (.plain rfl rfl) ?_|refine zf.cons (.own (.tail _ (.head _)) rfl rfl rfl) ?_|refine zf.cons (.omap (.tail _ (.tail _ (.head _))) rfl) ?_|refine zf.cons (.own (.tail _ (.tail _ (.tail _ (.head _)))) rfl rfl rfl) ?_)) rfl xS.nil) ?_)) (by repeat (first|exact .nil|refine .cons (.plain rfl rfl rfl) ?_|refine .cons (.ptr rfl (.head _) rfl) ?_|refine .cons (.omap rfl (.tail _ (.tail _ (.tail _ (.tail _ (.head _))))) rfl) ?_|refine .cons (.ptr rfl (.tail _ (.tail _ (.tail _ (.tail _ (.tail _ (.head _)))))) rfl) ?_|refine .cons (.ptr rfl (.tail _ (.tail _ (.tail _ (.tail _ (.tail _ (.tail _ (.head _))))))) rfl) ?_)))⟩
    ·rw [h2,Bool.false_and] at hinc
     rw [hinc]
     refine zb ?_
     exact ⟨rfl,(),trivial,(FLe.cv [⟨100,some 100,0,⟨0,.hrow,71,4,[[.list 8 (l.map OpV.fv),.own 101 0 0 (zI l i).length,.omap 102 0,.own 103 0 0 n]]⟩⟩,⟨101,some 101,0,⟨0,.own,3,1,(zI l i).map ym⟩⟩,⟨102,some 102,0,⟨0,.mapo,68,0,yE l i⟩⟩,⟨103,some 103,0,⟨0,.own,67,1,List.replicate n [.nilm]⟩⟩,⟨104,some 104,0,⟨0,.mapo,85,0,Zg l n⟩⟩,⟨105,some 8,0+1,⟨0,.own,43,8,[o.fv]⟩⟩,⟨106,some 9,0+1,⟨0,.own,87,2,[[.int .i64 o.key,.int .i64 o.arg]]⟩⟩] (by repeat (first|exact .nil|refine .old rfl zc rfl ?_|refine .oldK rfl (xS.cons (by repeat (first|exact zf.nil|refine zf.cons (.plain rfl rfl) ?_|refine zf.cons (.own (.tail _ (.head _)) rfl rfl rfl) ?_|refine zf.cons (.omap (.tail _ (.tail _ (.head _))) rfl) ?_|refine zf.cons (.own (.tail _ (.tail _ (.tail _ (.head _)))) rfl rfl rfl) ?_)) rfl xS.nil) ?_)) (by repeat (first|exact .nil|refine .cons (.plain rfl rfl rfl) ?_|refine .cons (.ptr rfl (.head _) rfl) ?_|refine .cons (.omap rfl (.tail _ (.tail _ (.tail _ (.tail _ (.head _))))) rfl) ?_|refine .cons (.ptr rfl (.tail _ (.tail _ (.tail _ (.tail _ (.tail _ (.head _)))))) rfl) ?_|refine .cons (.ptr rfl (.tail _ (.tail _ (.tail _ (.tail _ (.tail _ (.tail _ (.head _))))))) rfl) ?_)))⟩
  rintro _ _
  refine FW.cond rfl (fun h1=>?_) (fun h1=>?_)
  ·subst h1
   rw [if_pos rfl] at his
   rw [Bool.and_true] at hws
   have hil2:(zI l i).length≤1000:=by omega
   refine zb ?_
   refine ZG rfl rfl rfl rfl rfl rfl rfl ?_
   refine zb ?_
   refine zhA rfl rfl (.inr (.inl ⟨_,_,_,_,rfl,zO rfl zc⟩)) rfl rfl rfl rfl (by show 1<4;decide) rfl ?_
   refine zb ?_
   refine FW.cond rfl (fun h3=>?_) (fun h3=>?_)
   ·have h3:o.k=1:=by simpa using h3
    rw [if_pos (by simpa using h3)] at hws
    have hno:∀ j,j<i→wOf o.key o.arg (nth l j)=false:=by
     rcases hdo with q|q
     ·omega
     ·exact q.2.2
    refine zY ?_
    refine zea rfl rfl rfl rfl rfl rfl rfl ?_
    refine zD ?_
    refine zji WG (UB za hin) (Uf ho.2.2.1 ho.2.2.2.1) (.inr ⟨zbq (fun j hj _=>hno j hj),rfl⟩) rfl rfl rfl rfl rfl rfl rfl ?_
    refine zH.nil ⟨by kernel_rfl,?_⟩
    refine zb ?_
    refine ⟨i+1,by omega,by omega,?_⟩
    rw [hws,his,show (zI l i++[i]).length=(zI l i).length+1 by simp,List.map_append]
    exact (FLe.cv [⟨100,some 100,0,⟨0,.hrow,71,4,[[.list 8 (l.map OpV.fv),.own 101 0 0 ((zI l i).length+1),.omap 102 0,.own 103 0 0 n]]⟩⟩,⟨101,some 85,0+1,⟨0,.own,3,1,(zI l i).map ym++[i].map ym⟩⟩,⟨102,some 102,0,⟨0,.mapo,68,0,yE l i++[[zc6 o.key o.arg,.int .i64 (i:Int)]]⟩⟩,⟨103,some 103,0,⟨0,.own,67,1,List.replicate n [.nilm]⟩⟩,⟨104,some 104,0,⟨0,.mapo,85,0,Zg l n⟩⟩] (by repeat (first|exact .nil|refine .old rfl zc yv ?_|refine .oldK rfl (xS.cons (by repeat (first|exact zf.nil|refine zf.cons (.plain rfl rfl) ?_|refine zf.cons (.own (.tail _ (.head _)) rfl yv yv) ?_|refine zf.cons (.omap (.tail _ (.tail _ (.head _))) rfl) ?_|refine zf.cons (.own (.tail _ (.tail _ (.tail _ (.head _)))) rfl yv yv) ?_)) rfl xS.nil) ?_)) (by repeat (first|exact .nil|refine .cons (.plain rfl rfl yv) ?_|refine .cons (.ptr rfl (.head _) rfl) ?_|refine .cons (.omap rfl (.tail _ (.tail _ (.tail _ (.tail _ (.head _))))) rfl) ?_)))
   ·have h3:o.k≠1:=by simpa using h3
    rw [if_neg (by simpa using h3),List.append_nil] at hws
    refine zb ?_
    refine ⟨i+1,by omega,by omega,?_⟩
    rw [hws,his,show (zI l i++[i]).length=(zI l i).length+1 by simp,List.map_append]
    exact (FLe.cv [⟨100,some 100,0,⟨0,.hrow,71,4,[[.list 8 (l.map OpV.fv),.own 101 0 0 ((zI l i).length+1),.omap 102 0,.own 103 0 0 n]]⟩⟩,⟨101,some 85,0+1,⟨0,.own,3,1,(zI l i).map ym++[i].map ym⟩⟩,⟨102,some 102,0,⟨0,.mapo,68,0,yE l i⟩⟩,⟨103,some 103,0,⟨0,.own,67,1,List.replicate n [.nilm]⟩⟩,⟨104,some 104,0,⟨0,.mapo,85,0,Zg l n⟩⟩] (by repeat (first|exact .nil|refine .old rfl zc yv ?_|refine .oldK rfl (xS.cons (by repeat (first|exact zf.nil|refine zf.cons (.plain rfl rfl) ?_|refine zf.cons (.own (.tail _ (.head _)) rfl yv yv) ?_|refine zf.cons (.omap (.tail _ (.tail _ (.head _))) rfl) ?_|refine zf.cons (.own (.tail _ (.tail _ (.tail _ (.head _)))) rfl yv yv) ?_)) rfl xS.nil) ?_)) (by repeat (first|exact .nil|refine .cons (.plain rfl rfl yv) ?_|refine .cons (.ptr rfl (.head _) rfl) ?_|refine .cons (.omap rfl (.tail _ (.tail _ (.tail _ (.tail _ (.head _))))) rfl) ?_)))
  ·subst h1
   rw [if_neg zd] at hws his
   rw [List.append_nil] at hws his
   refine zb ?_
   refine ⟨i+1,by omega,by omega,?_⟩
   rw [hws,his]
   exact (FLe.cv [⟨100,some 100,0,⟨0,.hrow,71,4,[[.list 8 (l.map OpV.fv),.own 101 0 0 (zI l i).length,.omap 102 0,.own 103 0 0 n]]⟩⟩,⟨101,some 101,0,⟨0,.own,3,1,(zI l i).map ym⟩⟩,⟨102,some 102,0,⟨0,.mapo,68,0,yE l i⟩⟩,⟨103,some 103,0,⟨0,.own,67,1,List.replicate n [.nilm]⟩⟩,⟨104,some 104,0,⟨0,.mapo,85,0,Zg l n⟩⟩] (by repeat (first|exact .nil|refine .old rfl zc rfl ?_|refine .oldK rfl (xS.cons (by repeat (first|exact zf.nil|refine zf.cons (.plain rfl rfl) ?_|refine zf.cons (.own (.tail _ (.head _)) rfl rfl rfl) ?_|refine zf.cons (.omap (.tail _ (.tail _ (.head _))) rfl) ?_|refine zf.cons (.own (.tail _ (.tail _ (.tail _ (.head _)))) rfl rfl rfl) ?_)) rfl xS.nil) ?_)) (by repeat (first|exact .nil|refine .cons (.plain rfl rfl rfl) ?_|refine .cons (.ptr rfl (.head _) rfl) ?_|refine .cons (.omap rfl (.tail _ (.tail _ (.tail _ (.tail _ (.head _))))) rfl) ?_)))
 have hie:i=n:=by simp at h;omega
 rw [hie]
 clear h hi hie hil
 obtain ⟨I,hI⟩:∃ I,zI l n=I:=⟨_,rfl⟩
 obtain ⟨m,hm⟩:∃ m,I.length=m:=⟨_,rfl⟩
 have hml:m≤n:=by rw [← hm,← hI];exact ZZ l n
 have hIa:I.Pairwise (· < ·):=by rw [← hI];exact zad l n
 have hIn:∀ j∈I,j<n:=fun j hj=>yR (by rw [hI];exact hj)
 rw [hI,hm]
 refine zb ?_
 refine ZG rfl rfl rfl rfl rfl rfl rfl ?_
 refine zb ?_
 rw [zd7]
 refine FW.loop (fun x:Nat×List (Int×Int)=>⟨[(0,.list 8 (l.map OpV.fv)),(3,.ptr 100 0 0 0),(12,.omap 105 0),(102,.own 101 0 0 m),(103,.int .i64 m),(104,.int .i64 x.1)],[(100,⟨0,.hrow,71,4,[[.list 8 (l.map OpV.fv),.own 101 0 0 m,.omap 102 0,.own 103 0 0 n]]⟩),(101,⟨0,.own,3,1,I.map ym⟩),(102,⟨0,.mapo,68,0,yE l n⟩),(103,⟨0,.hrow,67,1,(List.range n).map fun q=>[Vc (I.take x.1) q]⟩),(105,⟨0,.mapo,67,0,(x.2).map zfx⟩)]++(Yf 200++Vl 1000 n (Wi l (I.take x.1)))⟩) (fun x=>x.1≤m∧(∀ p∈x.2,I64 p.1)∧∀ c,Uw x.2 c=((YL l (I.take x.1) c).getD 0:Nat)∧(x.2.any fun p=>decide (p.1=c))=(YL l (I.take x.1) c).isSome) (fun x=>m - x.1) (0,[]) ⟨Nat.zero_le _,fun p hp=>(by cases hp),fun c=>⟨rfl,rfl⟩⟩ ?_ ?_
 ·exact (FLe.toH (i:=103) rfl).trans (FLe.convN [⟨100,some 100,0,⟨0,.hrow,71,4,[[.list 8 (l.map OpV.fv),.own 101 0 0 m,.omap 102 0,.own 103 0 0 n]]⟩⟩,⟨101,some 101,0,⟨0,.own,3,1,I.map ym⟩⟩,⟨102,some 102,0,⟨0,.mapo,68,0,yE l n⟩⟩,⟨103,some 103,0,⟨0,.hrow,67,1,(List.range n).map fun q=>[Vc ([]) q]⟩⟩,⟨105,some 98,1,⟨0,.mapo,67,0,([]).map zfx⟩⟩] 1000 n (Wi l []) rfl (by unfold zg;omega) rfl zd zd (by repeat (first|exact Low.nil|exact Low.fam rfl (by unfold zg;omega)|refine Low.cons rfl ?_)) (fun j _=>⟨rfl,rfl⟩) (.oldK rfl (xS.cons (.cons (.plain rfl rfl) (.cons (.own (.tail _ (.head _)) rfl rfl rfl) (.cons (.omap (.tail _ (.tail _ (.head _))) rfl) (.cons (.own (.tail _ (.tail _ (.tail _ (.head _)))) rfl rfl rfl) .nil)))) rfl xS.nil) (.old rfl zc rfl (.old rfl zc rfl (.oldH rfl (VZ.of fun q hq=>.plain rfl rfl) (.old rfl zc rfl .nil))))) (by repeat (first|exact .nil|refine .cons (.plain rfl rfl rfl) ?_|refine .cons (.ptr rfl (.head _) rfl) ?_|refine .cons (.own rfl (.tail _ (.head _)) rfl rfl) ?_|refine .cons (.omap rfl (.tail _ (.tail _ (.tail _ (.tail _ (.head _))))) rfl) ?_)))
 rintro ⟨j,A⟩ ⟨hj,hAk,hA⟩
 dsimp only at hj hAk hA ⊢
 refine zb ?_
 refine FW.cond rfl (fun h=>?_) (fun h=>?_)
 ·have hlt:j<m:=by simpa using h
  clear h
  have hltI:j<I.length:=by omega
  obtain ⟨i,hi⟩:∃ i,nth I j=i:=⟨_,rfl⟩
  have hin2:i<n:=by rw [← hi];exact hIn _ (zu hltI)
  have htk:I.take (j+1)=I.take j++[i]:=by rw [List.take_succ_eq_append_getElem hltI,← nth_eq hltI,hi]
  obtain ⟨X,hX⟩:∃ X,I.take j=X:=⟨_,rfl⟩
  have hXa:X.Pairwise (· < ·):=by rw [← hX];exact hIa.sublist (List.take_sublist _ _)
  have hXi:∀ k∈X,k<i:=by
   have h2:(X++[i]).Pairwise (· < ·):=by rw [← hX,← htk];exact hIa.sublist (List.take_sublist _ _)
   exact fun k hk=>(List.pairwise_append.1 h2).2.2 k hk i zd
  have hXn:∀ k∈X,k<n:=fun k hk=>by have:=hXi k hk;omega
  rw [hX] at hA htk ⊢
  have ho:=hin _ (zu (show i<l.length by omega))
  have hAp:=hA (nth l i).p
  have hA' : ∀ c,Uw (zc4 A (nth l i).p (i:Int)) c=((YL l (X++[i]) c).getD 0:Nat)∧((zc4 A (nth l i).p (i:Int)).any fun p=>decide (p.1=c))=(YL l (X++[i]) c).isSome:=fun c=>by
   rw [zgU,zc9,zfw]
   by_cases hc:(nth l i).p=c
   ·rw [if_pos hc,if_pos hc,decide_eq_true hc];exact ⟨rfl,by simp⟩
   ·rw [if_neg hc,if_neg hc,decide_eq_false hc,Bool.false_or];exact hA c
  have hlk:=zbn (c:=(nth l i).p) A
  rw [hAp.1,hAp.2] at hlk
  refine zb ?_
  rw [hi]
  skip
  refine ZG rfl rfl rfl rfl rfl rfl rfl ?_
  refine zb ?_
  rw [zau,zmo]
  refine Xd (e:=3) xi (zcg hAk) (Zj ho.1) hlk rfl rfl zc rfl rfl rfl rfl rfl rfl ?_
  cases hlp:YL l X (nth l i).p with
  | none=>
   refine zb ?_
   refine ZH xi (zcg hAk) (Zj ho.1) (zcf (c:=(nth l i).p) (v:=(i:Int)) A) rfl rfl rfl rfl rfl rfl rfl ?_
   refine zb ?_
   refine ⟨(j+1,zc4 A (nth l i).p i),⟨by show j+1≤m;omega,?_,?_⟩,by show m - (j+1)<m - j;omega,?_⟩
   ·exact zda (by simpa using ho.1) hAk
   ·dsimp only
    rw [htk]
    exact fun c=>hA' c
   ·dsimp only
    rw [htk]
    have hE:∀ q∈X,e3 l (X++[i]) q=e3 l X q:=fun q hq=>by rw [zeU hXa hXi hq,hlp,if_neg zd]
    refine FLe.convS [⟨100,some 100,0,⟨0,.hrow,71,4,[[.list 8 (l.map OpV.fv),.own 101 0 0 m,.omap 102 0,.own 103 0 0 n]]⟩⟩,⟨101,some 101,0,⟨0,.own,3,1,I.map ym⟩⟩,⟨102,some 102,0,⟨0,.mapo,68,0,yE l n⟩⟩,⟨103,some 103,0,⟨0,.hrow,67,1,(List.range n).map fun q=>[Vc (X++[i]) q]⟩⟩,⟨105,some 105,0,⟨0,.mapo,67,0,(zc4 A (nth l i).p i).map zfx⟩⟩] 1000 n i (some 113) (fun q=>if q=i then 1 else 0) (Wi l (X++[i])) rfl (by unfold zg;omega) rfl zd zd zd (by repeat (first|exact Low.nil|exact Low.fam rfl (by unfold zg;omega)|refine Low.cons rfl ?_)) ?_ ?_ (by repeat (first|exact .nil|refine .cons (.plain rfl rfl rfl) ?_|refine .cons (.ptr rfl (.head _) rfl) ?_|refine .cons (.own rfl (.tail _ (.head _)) rfl rfl) ?_|refine .cons (.omap rfl (.tail _ (.tail _ (.tail _ (.tail _ (.head _))))) rfl) ?_))
    ·intro q hq
     by_cases hqi:q=i
     ·subst hqi
      rw [if_pos rfl,if_pos rfl]
      refine .inr ⟨113,rfl,?_,?_⟩
      ·unfold Wi
       rw [if_pos zd,zia hXi];rfl
      ·unfold Wi
       rw [if_pos zd];rfl
     ·rw [if_neg hqi,if_neg hqi]
      refine .inr ⟨_,rfl,(zZ (C:=[(105,_),(103,_),(113,_),(100,_),(101,_),(102,_),(103,_),(105,_)]) rfl zc hq).trans ?_,?_⟩
      ·unfold Wi
       by_cases hqX:q∈X
       ·rw [if_pos hqX,if_pos (List.mem_append_left _ hqX),hE q hqX]
       ·rw [if_neg hqX,if_neg (by simp [hqX,hqi])]
      ·unfold Wi
       split <;> rfl
    ·refine (.oldK rfl (xS.cons (.cons (.plain rfl rfl) (.cons (.own (.tail _ (.head _)) rfl rfl rfl) (.cons (.omap (.tail _ (.tail _ (.head _))) rfl) (.cons (.own (.tail _ (.tail _ (.tail _ (.head _)))) rfl rfl rfl) .nil)))) rfl xS.nil) (.old rfl zc rfl (.old rfl zc rfl (.oldH rfl (VZ.of fun q hq=>?_) (.old rfl zc rfl .nil)))))
     have hmm:=yD (B:=1000) (s:=fun q=>if q=i then some 113 else some (1000+q)) (vo:=fun q=>if q=i then 1 else 0) (f:=Wi l (X++[i])) hq
     unfold Vc
     unfold Wi at hmm
     by_cases hqi:q=i
     ·subst hqi
      rw [if_pos rfl,if_pos rfl,if_pos zd] at hmm
      rw [if_pos rfl,if_pos zd]
      exact .omap (List.mem_append_right _ hmm) rfl
     ·rw [if_neg hqi,if_neg hqi] at hmm
      rw [if_neg hqi]
      by_cases hqX:q∈X
      ·rw [if_pos (List.mem_append_left _ hqX)] at hmm
       rw [if_pos hqX,if_pos (List.mem_append_left _ hqX)]
       exact .omap (List.mem_append_right _ hmm) rfl
      ·rw [if_neg hqX,if_neg (by simp [hqX,hqi])]
       exact .plain rfl rfl
  | some k=>
   obtain ⟨hkX,hkp⟩:=Xw hlp
   have hki:k<i:=hXi k hkX
   have hkn:k<n:=hXn k hkX
   have hek:e3 l X k=[]:=by unfold e3;rw [zan hXa hlp];rfl
   refine zb ?_
   refine zn.le (s':=⟨[(0,.list 8 (l.map OpV.fv)),(3,.ptr 100 0 0 0),(12,.omap 105 0),(14,.int .i64 i),(15,.int .i64 k),(102,.own 101 0 0 m),(103,.int .i64 m),(104,.int .i64 j),(128,.ptr 100 0 0 3)],[(100,⟨0,.hrow,71,4,[[.list 8 (l.map OpV.fv),.own 101 0 0 m,.omap 102 0,.own 103 0 0 n]]⟩),(101,⟨0,.own,3,1,I.map ym⟩),(102,⟨0,.mapo,68,0,yE l n⟩),(103,⟨0,.hrow,67,1,(List.range n).map fun q=>[if q=k then .omap 150 0 else Vc (X++[i]) q]⟩),(105,⟨0,.mapo,67,0,(A).map zfx⟩),(150,⟨0,.mapo,67,0,[]⟩)]++(Yf 200++Vl 1000 n (fun q=>if q=k then (⟨0,.own,67,1,[]⟩:zm) else if q=i then ⟨0,.mapo,67,0,[]⟩ else Wi l X q))⟩) ?_ ?_
   ·refine ZG rfl rfl rfl rfl rfl rfl rfl ?_
    refine zb ?_
    refine XE rfl rfl rfl rfl (xp n k _ hkn) rfl rfl ?_
    rw [if_pos rfl]
    refine zb ?_
    refine ZH xi (fun row hr=>by cases hr) (Zj (by unfold I64;omega)) (.inr ⟨fun row hr=>(by cases hr),rfl⟩) rfl rfl rfl rfl rfl rfl rfl ?_
    refine zb ?_
    refine ZH xi (zcg hAk) (Zj ho.1) (zcf (c:=(nth l i).p) (v:=(i:Int)) A) rfl rfl rfl rfl rfl rfl rfl ?_
    refine zb ?_
    refine ⟨(j+1,zc4 A (nth l i).p i),⟨by show j+1≤m;omega,zda (by simpa using ho.1) hAk,by dsimp only;rw [htk];exact fun c=>hA' c⟩,by show m - (j+1)<m - j;omega,?_⟩
    dsimp only
    rw [htk]
    refine FLe.convS [⟨100,some 100,0,⟨0,.hrow,71,4,[[.list 8 (l.map OpV.fv),.own 101 0 0 m,.omap 102 0,.own 103 0 0 n]]⟩⟩,⟨101,some 101,0,⟨0,.own,3,1,I.map ym⟩⟩,⟨102,some 102,0,⟨0,.mapo,68,0,yE l n⟩⟩,⟨103,some 103,0,⟨0,.hrow,67,1,(List.range n).map fun q=>[Vc (X++[i]) q]⟩⟩,⟨105,some 105,0,⟨0,.mapo,67,0,(zc4 A (nth l i).p i).map zfx⟩⟩] 1000 n k (some 150) (fun _=>0) (Wi l (X++[i])) rfl (by unfold zg;omega) rfl zd zd zd (by repeat (first|exact Low.nil|exact Low.fam rfl (by unfold zg;omega)|refine Low.cons rfl ?_)) ?_ ?_ (by repeat (first|exact .nil|refine .cons (.plain rfl rfl rfl) ?_|refine .cons (.ptr rfl (.head _) rfl) ?_|refine .cons (.own rfl (.tail _ (.head _)) rfl rfl) ?_|refine .cons (.omap rfl (.tail _ (.tail _ (.tail _ (.tail _ (.head _))))) rfl) ?_))
    ·intro q hq
     by_cases hqk:q=k
     ·subst hqk
      rw [if_pos rfl]
      refine .inr ⟨150,rfl,?_,?_⟩
      ·unfold Wi
       rw [if_pos (List.mem_append_left _ hkX),zeU hXa hXi hkX,hlp,if_pos rfl,hek];rfl
      ·unfold Wi
       rw [if_pos (List.mem_append_left _ hkX)];rfl
     ·rw [if_neg hqk]
      refine .inr ⟨_,rfl,(zZ (C:=[(105,_),(150,_),(100,_),(101,_),(102,_),(103,_),(105,_),(150,_)]) rfl zc hq).trans ?_,?_⟩
      ·rw [if_neg hqk]
       by_cases hqi:q=i
       ·subst hqi
        rw [if_pos rfl]
        unfold Wi
        rw [if_pos zd,zia hXi]
       ·rw [if_neg hqi]
        unfold Wi
        by_cases hqX:q∈X
        ·rw [if_pos hqX,if_pos (List.mem_append_left _ hqX),zeU hXa hXi hqX,hlp,if_neg (fun e=>hqk (by injection e with e;exact e.symm))]
        ·rw [if_neg hqX,if_neg (by simp [hqX,hqi])]
      ·unfold Wi
       split <;> rfl
    ·refine (.oldK rfl (xS.cons (.cons (.plain rfl rfl) (.cons (.own (.tail _ (.head _)) rfl rfl rfl) (.cons (.omap (.tail _ (.tail _ (.head _))) rfl) (.cons (.own (.tail _ (.tail _ (.tail _ (.head _)))) rfl rfl rfl) .nil)))) rfl xS.nil) (.old rfl zc rfl (.old rfl zc rfl (.oldH rfl (VZ.of fun q hq=>?_) (.old rfl zc rfl .nil)))))
     have hmm:=yD (B:=1000) (s:=fun q=>if q=k then some 150 else some (1000+q)) (vo:=fun _=>0) (f:=Wi l (X++[i])) hq
     unfold Wi at hmm
     by_cases hqk:q=k
     ·subst hqk
      rw [if_pos rfl,if_pos (List.mem_append_left _ hkX)] at hmm
      unfold Vc
      rw [if_pos rfl,if_pos (List.mem_append_left _ hkX)]
      exact .omap (List.mem_append_right _ hmm) rfl
     ·rw [if_neg hqk] at hmm
      rw [if_neg hqk]
      unfold Vc
      by_cases hqX:q∈X++[i]
      ·rw [if_pos hqX] at hmm
       rw [if_pos hqX]
       exact .omap (List.mem_append_right _ hmm) rfl
      ·rw [if_neg hqX]
       exact .plain rfl rfl
   ·refine FLe.trans (FLe.convS (t':=[(0,.list 8 (l.map OpV.fv)),(3,.ptr 100 0 0 0),(12,.omap 105 0),(14,.int .i64 i),(15,.int .i64 k),(102,.own 101 0 0 m),(103,.int .i64 m),(104,.int .i64 j),(128,.ptr 100 0 0 3)]) [⟨100,some 100,0,⟨0,.hrow,71,4,[[.list 8 (l.map OpV.fv),.own 101 0 0 m,.omap 102 0,.own 103 0 0 n]]⟩⟩,⟨101,some 101,0,⟨0,.own,3,1,I.map ym⟩⟩,⟨102,some 102,0,⟨0,.mapo,68,0,yE l n⟩⟩,⟨103,some 103,0,⟨0,.hrow,67,1,(List.range n).map fun q=>[Vc (X++[i]) q]⟩⟩,⟨105,some 105,0,⟨0,.mapo,67,0,(A).map zfx⟩⟩] 1000 n i (some 113) (fun q=>if q=i then 1 else 0) (fun q=>if q=i then (⟨0,.mapo,67,0,[]⟩:zm) else Wi l X q) rfl (by unfold zg;omega) rfl zd zd zd (by repeat (first|exact Low.nil|exact Low.fam rfl (by unfold zg;omega)|refine Low.cons rfl ?_)) ?_ ?_ (by repeat (first|exact .nil|refine .cons (.plain rfl rfl rfl) ?_|refine .cons (.ptr rfl (.head _) rfl) ?_|refine .cons (.own rfl (.tail _ (.head _)) rfl rfl) ?_|refine .cons (.omap rfl (.tail _ (.tail _ (.tail _ (.tail _ (.head _))))) rfl) ?_))) (FLe.convS [⟨100,some 100,0,⟨0,.hrow,71,4,[[.list 8 (l.map OpV.fv),.own 101 0 0 m,.omap 102 0,.own 103 0 0 n]]⟩⟩,⟨101,some 101,0,⟨0,.own,3,1,I.map ym⟩⟩,⟨102,some 102,0,⟨0,.mapo,68,0,yE l n⟩⟩,⟨103,some 103,0,⟨0,.hrow,67,1,(List.range n).map fun q=>[if q=k then .omap 150 0 else Vc (X++[i]) q]⟩⟩,⟨105,some 105,0,⟨0,.mapo,67,0,(A).map zfx⟩⟩,⟨150,some (1000+k),0,⟨0,.mapo,67,0,[]⟩⟩] 1000 n k none (fun _=>0) (fun q=>if q=k then (⟨0,.own,67,1,[]⟩:zm) else if q=i then ⟨0,.mapo,67,0,[]⟩ else Wi l X q) rfl (by unfold zg;omega) rfl zd Xl Xl (by repeat (first|exact Low.nil|exact Low.fam rfl (by unfold zg;omega)|refine Low.cons rfl ?_)) ?_ ?_ (by repeat (first|exact .nil|refine .cons (.plain rfl rfl rfl) ?_|refine .cons (.ptr rfl (.head _) rfl) ?_|refine .cons (.own rfl (.tail _ (.head _)) rfl rfl) ?_|refine .cons (.omap rfl (.tail _ (.tail _ (.tail _ (.tail _ (.head _))))) rfl) ?_)))
    ·intro q hq
     by_cases hqi:q=i
     ·subst hqi
      rw [if_pos rfl,if_pos rfl,if_pos rfl]
      exact .inr ⟨113,rfl,rfl,rfl⟩
     ·rw [if_neg hqi,if_neg hqi,if_neg hqi]
      refine .inr ⟨_,rfl,(zZ (C:=[(103,_),(113,_),(100,_),(101,_),(102,_),(103,_),(105,_)]) rfl zc hq).trans (by unfold Wi;split <;> rfl),?_⟩
      unfold Wi
      split <;> rfl
    ·refine (.oldK rfl (xS.cons (.cons (.plain rfl rfl) (.cons (.own (.tail _ (.head _)) rfl rfl rfl) (.cons (.omap (.tail _ (.tail _ (.head _))) rfl) (.cons (.own (.tail _ (.tail _ (.tail _ (.head _)))) rfl rfl rfl) .nil)))) rfl xS.nil) (.old rfl zc rfl (.old rfl zc rfl (.oldH rfl (VZ.of fun q hq=>?_) (.old rfl zc rfl .nil)))))
     have hmm:=yD (B:=1000) (s:=fun q=>if q=i then some 113 else some (1000+q)) (vo:=fun q=>if q=i then 1 else 0) (f:=(fun q=>if q=i then (⟨0,.mapo,67,0,[]⟩:zm) else Wi l X q)) hq
     unfold Vc
     unfold Wi at hmm
     by_cases hqi:q=i
     ·subst hqi
      rw [if_pos rfl,if_pos rfl,if_pos rfl] at hmm
      rw [if_pos rfl,if_pos zd]
      exact .omap (List.mem_append_right _ hmm) rfl
     ·rw [if_neg hqi,if_neg hqi,if_neg hqi] at hmm
      rw [if_neg hqi]
      by_cases hqX:q∈X
      ·rw [if_pos hqX] at hmm
       rw [if_pos hqX,if_pos (List.mem_append_left _ hqX)]
       exact .omap (List.mem_append_right _ hmm) rfl
      ·rw [if_neg hqX,if_neg (by simp [hqX,hqi])]
       exact .plain rfl rfl
    ·intro q hq
     by_cases hqk:q=k
     ·rw [if_pos hqk,if_pos hqk];exact .inl ⟨rfl,rfl,rfl⟩
     ·rw [if_neg hqk,if_neg hqk]
      refine .inr ⟨_,rfl,(zZ (C:=[(100,_),(101,_),(102,_),(103,_),(105,_)]) rfl zc hq).trans (by split;(· rfl);(· unfold Wi;split <;> rfl)),?_⟩
      unfold Wi
      split
      ·rfl
      ·split <;> rfl
    ·refine (.oldK rfl (xS.cons (.cons (.plain rfl rfl) (.cons (.own (.tail _ (.head _)) rfl rfl rfl) (.cons (.omap (.tail _ (.tail _ (.head _))) rfl) (.cons (.own (.tail _ (.tail _ (.tail _ (.head _)))) rfl rfl rfl) .nil)))) rfl xS.nil) (.old rfl zc rfl (.old rfl zc rfl (.oldH rfl (VZ.of fun q hq=>?_) (.old rfl zc rfl (.old ((zZ (C:=[(100,_),(101,_),(102,_),(103,_),(105,_)]) rfl zc hkn).trans (by rw [if_neg za];unfold Wi;rw [if_pos hkX,hek])) zc rfl .nil))))))
     have hmm:=yD (B:=1000) (s:=fun q=>if q=k then none else some (1000+q)) (vo:=fun _=>0) (f:=(fun q=>if q=k then (⟨0,.own,67,1,[]⟩:zm) else if q=i then ⟨0,.mapo,67,0,[]⟩ else Wi l X q)) hq
     by_cases hqk:q=k
     ·subst hqk
      unfold Vc
      rw [if_pos rfl,if_pos (List.mem_append_left _ hkX)]
      exact .omap (.tail _ (.tail _ (.tail _ (.tail _ (.tail _ (.head _)))))) rfl
     ·rw [if_neg hqk,if_neg hqk] at hmm
      rw [if_neg hqk]
      unfold Vc
      by_cases hqX:q∈X++[i]
      ·rw [if_pos hqX]
       refine .omap (List.mem_append_right _ hmm) ?_
       split
       ·rfl
       ·unfold Wi;split <;> rfl
      ·rw [if_neg hqX]
       exact .plain rfl rfl
 ·have hje:j=m:=by simp at h;omega
  subst hje
  clear h
  rw [show I.take j=I by rw [← hm,List.take_length]] at hA ⊢
  clear hA hAk
  have hIm:∀ q,q<l.length→xf l q=true→q∈I:=fun q hq h1=>by
   rw [← hI]
   exact List.mem_filter.2 ⟨by simpa using (show q<n by omega),h1⟩
  obtain ⟨m,hmj⟩:∃ m,m=j:=⟨_,rfl⟩
  rw [← hmj] at hm hml ⊢
  clear hmj hj j
  refine zb ?_
  refine ZG rfl rfl rfl rfl rfl rfl rfl ?_
  refine zb ?_
  refine FW.loop (fun j:Nat=>⟨[(0,.list 8 (l.map OpV.fv)),(3,.ptr 100 0 0 0),(145,.own 101 0 0 m),(146,.int .i64 m),(147,.int .i64 j)],[(100,⟨0,.hrow,71,4,[[.list 8 (l.map OpV.fv),.own 101 0 0 m,.omap 102 0,.own 103 0 0 n]]⟩),(101,⟨0,.own,3,1,I.map ym⟩),(102,⟨0,.mapo,68,0,yE l n⟩),(103,⟨0,.hrow,67,1,(List.range n).map fun q=>[Vc I q]⟩)]++(Yf 200++Vl 1000 n (Xs l I (I.take j)))⟩) (fun j=>j≤m) (fun j=>m - j) 0 (Nat.zero_le _) ?_ ?_
  ·refine FLe.convK [⟨100,some 100,0,⟨0,.hrow,71,4,[[.list 8 (l.map OpV.fv),.own 101 0 0 m,.omap 102 0,.own 103 0 0 n]]⟩⟩,⟨101,some 101,0,⟨0,.own,3,1,I.map ym⟩⟩,⟨102,some 102,0,⟨0,.mapo,68,0,yE l n⟩⟩,⟨103,some 103,0,⟨0,.hrow,67,1,(List.range n).map fun q=>[Vc I q]⟩⟩] 1000 n (fun _=>0) (Xs l I []) rfl (by unfold zg;omega) rfl zd zd zd (by repeat (first|exact Low.nil|exact Low.fam rfl (by unfold zg;omega)|refine Low.cons rfl ?_)) (fun q hq=>.inr ⟨_,rfl,(zZ (C:=[(100,_),(101,_),(102,_),(103,_),(105,_)]) rfl zc hq).trans ?_,?_⟩) (.oldK rfl (xS.cons (.cons (.plain rfl rfl) (.cons (.own (.tail _ (.head _)) rfl rfl rfl) (.cons (.omap (.tail _ (.tail _ (.head _))) rfl) (.cons (.own (.tail _ (.tail _ (.tail _ (.head _)))) rfl rfl rfl) .nil)))) rfl xS.nil) (.old rfl zc rfl (.old rfl zc rfl (.oldH rfl (VZ.of fun q hq=>?_) .nil)))) (by repeat (first|exact .nil|refine .cons (.plain rfl rfl rfl) ?_|refine .cons (.ptr rfl (.head _) rfl) ?_|refine .cons (.own rfl (.tail _ (.head _)) rfl rfl) ?_))
   ·unfold Wi Xs
    split
    ·rw [zmj]
    ·rfl
   ·unfold Xs
    split <;> rfl
   ·have hmm:=yD (B:=1000) (s:=fun q=>some (1000+q)) (vo:=fun _=>0) (f:=Xs l I []) hq
    unfold Xs at hmm
    unfold Vc
    by_cases hqX:q∈I
    ·rw [if_pos hqX] at hmm ⊢
     exact .omap (List.mem_append_right _ hmm) rfl
    ·rw [if_neg hqX]
     exact .plain rfl rfl
  intro j hj
  refine zb ?_
  refine FW.cond rfl (fun h=>?_) (fun h=>?_)
  ·have hlt:j<m:=by simpa using h
   clear h
   have hltI:j<I.length:=by omega
   obtain ⟨i,hi⟩:∃ i,nth I j=i:=⟨_,rfl⟩
   have hin2:i<n:=by rw [← hi];exact hIn _ (zu hltI)
   have htk:I.take (j+1)=I.take j++[i]:=by rw [List.take_succ_eq_append_getElem hltI,← nth_eq hltI,hi]
   obtain ⟨Y,hY⟩:∃ Y,I.take j=Y:=⟨_,rfl⟩
   have hYi:∀ k∈Y,k<i:=by
    have h2:(Y++[i]).Pairwise (· < ·):=by rw [← hY,← htk];exact hIa.sublist (List.take_sublist _ _)
    exact fun k hk=>(List.pairwise_append.1 h2).2.2 k hk i zd
   have hYn:∀ k∈Y,k<n:=fun k hk=>by have:=hYi k hk;omega
   rw [hY] at htk ⊢
   have hfr:=UR l (.list 1 (I.map ym)) (zl7 l I Y n) rfl rfl i za za hin
   refine zb ?_
   rw [hi]
   skip
   refine zjv hfr (.cons rfl (ZY.ptr1 rfl rfl (.cons (.plain rfl) rfl (.cons (ZY.ownP rfl (by simpa using hm) (fun e he=>by obtain ⟨q,_,rfl⟩:=List.mem_map.1 he;rfl) (fun g hg=>by obtain ⟨e,he,hg⟩:=List.mem_flatten.1 hg;obtain ⟨q,_,rfl⟩:=List.mem_map.1 he;rw [List.mem_singleton.1 hg];rfl)) rfl (.cons ?_ rfl (.cons ?_ rfl .nil))))) (.cons rfl (.plain rfl) .nil)) rfl rfl ?_
   ·rw [hn];exact ZY.omapP rfl
   ·refine ZY.ownR rfl fun q hq=>?_
    unfold Vc zmL
    by_cases hqX:q∈I
    ·rw [if_pos hqX,if_pos hqX]
     exact ⟨ZY.omapP ((zZ (C:=[(100,_),(101,_),(102,_),(103,_)]) rfl zc hq).trans (by unfold Xs;rw [if_pos hqX])),rfl⟩
    ·rw [if_neg hqX,if_neg hqX]
     exact ⟨.plain rfl,rfl⟩
   unfold zgC
   cases hfc:xu l i with
   | none=>
    refine zb ?_
    refine ⟨j+1,by omega,by omega,?_⟩
    rw [htk]
    refine FLe.convK [⟨100,some 100,0,⟨0,.hrow,71,4,[[.list 8 (l.map OpV.fv),.own 101 0 0 m,.omap 102 0,.own 103 0 0 n]]⟩⟩,⟨101,some 101,0,⟨0,.own,3,1,I.map ym⟩⟩,⟨102,some 102,0,⟨0,.mapo,68,0,yE l n⟩⟩,⟨103,some 103,0,⟨0,.hrow,67,1,(List.range n).map fun q=>[Vc I q]⟩⟩] 1000 n (fun _=>0) (Xs l I (Y++[i])) rfl (by unfold zg;omega) rfl zd zd zd (by repeat (first|exact Low.nil|exact Low.fam rfl (by unfold zg;omega)|refine Low.cons rfl ?_)) (fun q hq=>.inr ⟨_,rfl,(zZ (C:=[(100,_),(101,_),(102,_),(103,_)]) rfl zc hq).trans ?_,?_⟩) (.oldK rfl (xS.cons (.cons (.plain rfl rfl) (.cons (.own (.tail _ (.head _)) rfl rfl rfl) (.cons (.omap (.tail _ (.tail _ (.head _))) rfl) (.cons (.own (.tail _ (.tail _ (.tail _ (.head _)))) rfl rfl rfl) .nil)))) rfl xS.nil) (.old rfl zc rfl (.old rfl zc rfl (.oldH rfl (VZ.of fun q hq=>?_) .nil)))) (by repeat (first|exact .nil|refine .cons (.plain rfl rfl rfl) ?_|refine .cons (.ptr rfl (.head _) rfl) ?_|refine .cons (.own rfl (.tail _ (.head _)) rfl rfl) ?_))
    ·unfold Xs
     rw [UJ,if_neg (show ¬ (xu l i=some q∧yd l I q≠some i) from fun e=>by have:=e.1;rw [hfc] at this;cases this),List.append_nil]
     split <;> rfl
    ·unfold Xs
     split <;> rfl
    ·have hmm:=yD (B:=1000) (s:=fun q=>some (1000+q)) (vo:=fun _=>0) (f:=Xs l I (Y++[i])) hq
     unfold Xs at hmm
     unfold Vc
     by_cases hqX:q∈I
     ·rw [if_pos hqX] at hmm ⊢
      exact .omap (List.mem_append_right _ hmm) rfl
     ·rw [if_neg hqX]
      exact .plain rfl rfl
   | some w=>
    have hfw:w<l.length∧xf l w=true:=by
     unfold xu at hfc
     split at hfc
     ·cases hfc
     ·exact ⟨(Yr hfc).1,(Yr hfc).2.2⟩
    have hwI:w∈I:=hIm w hfw.1 hfw.2
    have hwn:w<n:=by omega
    refine zb ?_
    refine zn.le (s':=⟨[(0,.list 8 (l.map OpV.fv)),(3,.ptr 100 0 0 0),(18,.int .i64 i),(19,.int .i64 w),(145,.own 101 0 0 m),(146,.int .i64 m),(147,.int .i64 j),(158,.bool true),(161,.ptr 100 0 0 3)],[(100,⟨0,.hrow,71,4,[[.list 8 (l.map OpV.fv),.own 101 0 0 m,.omap 102 0,.own 103 0 0 n]]⟩),(101,⟨0,.own,3,1,I.map ym⟩),(102,⟨0,.mapo,68,0,yE l n⟩),(103,⟨0,.hrow,67,1,(List.range n).map fun q=>[if q=w then .omap 150 0 else Vc I q]⟩),(150,⟨0,.mapo,67,0,e4 l I Y w⟩)]++(Yf 200++Vl 1000 n (fun q=>if q=w then (⟨0,.own,67,1,[]⟩:zm) else Xs l I Y q))⟩) ?_ ?_
    ·refine ZG rfl rfl rfl rfl rfl rfl ⟨_,_,rfl,rfl,rfl⟩ ?_
     refine zb ?_
     refine XE rfl rfl rfl rfl (xp n w _ hwn) rfl ⟨_,_,rfl,rfl,rfl⟩ ?_
     rw [if_pos rfl]
     refine zb ?_
     refine zep (e:=3) xi (zk6 hIn hYn za) (Zj (by unfold I64;omega)) (zlv l hYi) rfl rfl zc rfl rfl rfl rfl rfl ⟨_,_,rfl,rfl,rfl⟩ ?_
     refine zb ?_
     refine FW.cond rfl (fun h=>?_) (fun h=>?_)
     ·have hnx:yd l I w≠some i:=fun e=>by rw [e] at h;simp at h
      refine zb ?_
      refine ZG rfl rfl rfl rfl rfl rfl rfl ?_
      refine zb ?_
      refine XE rfl rfl rfl rfl (xp n w _ hwn) rfl rfl ?_
      rw [if_pos rfl]
      refine zb ?_
      refine ZH xi (zk6 hIn hYn za) (Zj (by unfold I64;omega)) (.inr ⟨zib hnx hYi,rfl⟩) rfl rfl rfl rfl rfl rfl rfl ?_
      refine zb ?_
      refine ⟨j+1,by omega,by omega,?_⟩
      rw [htk]
      refine FLe.convS [⟨100,some 100,0,⟨0,.hrow,71,4,[[.list 8 (l.map OpV.fv),.own 101 0 0 m,.omap 102 0,.own 103 0 0 n]]⟩⟩,⟨101,some 101,0,⟨0,.own,3,1,I.map ym⟩⟩,⟨102,some 102,0,⟨0,.mapo,68,0,yE l n⟩⟩,⟨103,some 103,0,⟨0,.hrow,67,1,(List.range n).map fun q=>[Vc I q]⟩⟩] 1000 n w (some 150) (fun _=>0) (Xs l I (Y++[i])) rfl (by unfold zg;omega) rfl zd zd zd (by repeat (first|exact Low.nil|exact Low.fam rfl (by unfold zg;omega)|refine Low.cons rfl ?_)) ?_ ?_ (by repeat (first|exact .nil|refine .cons (.plain rfl rfl rfl) ?_|refine .cons (.ptr rfl (.head _) rfl) ?_|refine .cons (.own rfl (.tail _ (.head _)) rfl rfl) ?_))
      ·intro q hq
       by_cases hqk:q=w
       ·subst hqk
        rw [if_pos rfl]
        refine .inr ⟨150,rfl,?_,?_⟩
        ·unfold Xs
         rw [if_pos hwI,UJ,if_pos (show xu l i=some q∧yd l I q≠some i from ⟨hfc,hnx⟩)];rfl
        ·unfold Xs
         rw [if_pos hwI];rfl
       ·rw [if_neg hqk]
        refine .inr ⟨_,rfl,(zZ (C:=[(150,_),(100,_),(101,_),(102,_),(103,_),(150,_)]) rfl zc hq).trans ?_,?_⟩
        ·rw [if_neg hqk]
         unfold Xs
         rw [UJ,if_neg (show ¬ (xu l i=some q∧yd l I q≠some i) from fun e=>hqk (by have:=e.1;rw [hfc] at this;injection this with this;exact this.symm)),List.append_nil]
         split <;> rfl
        ·unfold Xs
         split <;> rfl
      ·refine (.oldK rfl (xS.cons (.cons (.plain rfl rfl) (.cons (.own (.tail _ (.head _)) rfl rfl rfl) (.cons (.omap (.tail _ (.tail _ (.head _))) rfl) (.cons (.own (.tail _ (.tail _ (.tail _ (.head _)))) rfl rfl rfl) .nil)))) rfl xS.nil) (.old rfl zc rfl (.old rfl zc rfl (.oldH rfl (VZ.of fun q hq=>?_) .nil))))
       have hmm:=yD (B:=1000) (s:=fun q=>if q=w then some 150 else some (1000+q)) (vo:=fun _=>0) (f:=Xs l I (Y++[i])) hq
       unfold Xs at hmm
       unfold Vc
       by_cases hqX:q∈I
       ·by_cases hqk:q=w
        ·rw [if_pos hqk,if_pos hqX] at hmm
         rw [if_pos hqk,if_pos hqX]
         exact .omap (List.mem_append_right _ hmm) rfl
        ·rw [if_neg hqk,if_pos hqX] at hmm
         rw [if_neg hqk,if_pos hqX]
         exact .omap (List.mem_append_right _ hmm) rfl
       ·rw [if_neg (fun e=>hqX (by rw [e];exact hwI)),if_neg hqX]
        exact .plain rfl rfl
     ·have hnx:yd l I w=some i:=by
       by_cases e:yd l I w=some i
       ·exact e
       ·rw [if_neg e] at h;simp at h
      refine zb ?_
      refine ⟨j+1,by omega,by omega,?_⟩
      rw [htk]
      refine FLe.convS [⟨100,some 100,0,⟨0,.hrow,71,4,[[.list 8 (l.map OpV.fv),.own 101 0 0 m,.omap 102 0,.own 103 0 0 n]]⟩⟩,⟨101,some 101,0,⟨0,.own,3,1,I.map ym⟩⟩,⟨102,some 102,0,⟨0,.mapo,68,0,yE l n⟩⟩,⟨103,some 103,0,⟨0,.hrow,67,1,(List.range n).map fun q=>[Vc I q]⟩⟩] 1000 n w (some 150) (fun _=>0) (Xs l I (Y++[i])) rfl (by unfold zg;omega) rfl zd zd zd (by repeat (first|exact Low.nil|exact Low.fam rfl (by unfold zg;omega)|refine Low.cons rfl ?_)) ?_ ?_ (by repeat (first|exact .nil|refine .cons (.plain rfl rfl rfl) ?_|refine .cons (.ptr rfl (.head _) rfl) ?_|refine .cons (.own rfl (.tail _ (.head _)) rfl rfl) ?_))
      ·intro q hq
       by_cases hqk:q=w
       ·subst hqk
        rw [if_pos rfl]
        refine .inr ⟨150,rfl,?_,?_⟩
        ·unfold Xs
         rw [if_pos hwI,UJ,if_neg (show ¬ (xu l i=some q∧yd l I q≠some i) from fun e=>e.2 hnx),List.append_nil];rfl
        ·unfold Xs
         rw [if_pos hwI];rfl
       ·rw [if_neg hqk]
        refine .inr ⟨_,rfl,(zZ (C:=[(100,_),(101,_),(102,_),(103,_),(150,_)]) rfl zc hq).trans ?_,?_⟩
        ·rw [if_neg hqk]
         unfold Xs
         rw [UJ,if_neg (show ¬ (xu l i=some q∧yd l I q≠some i) from fun e=>hqk (by have:=e.1;rw [hfc] at this;injection this with this;exact this.symm)),List.append_nil]
         split <;> rfl
        ·unfold Xs
         split <;> rfl
      ·refine (.oldK rfl (xS.cons (.cons (.plain rfl rfl) (.cons (.own (.tail _ (.head _)) rfl rfl rfl) (.cons (.omap (.tail _ (.tail _ (.head _))) rfl) (.cons (.own (.tail _ (.tail _ (.tail _ (.head _)))) rfl rfl rfl) .nil)))) rfl xS.nil) (.old rfl zc rfl (.old rfl zc rfl (.oldH rfl (VZ.of fun q hq=>?_) .nil))))
       have hmm:=yD (B:=1000) (s:=fun q=>if q=w then some 150 else some (1000+q)) (vo:=fun _=>0) (f:=Xs l I (Y++[i])) hq
       unfold Xs at hmm
       unfold Vc
       by_cases hqX:q∈I
       ·by_cases hqk:q=w
        ·rw [if_pos hqk,if_pos hqX] at hmm
         rw [if_pos hqk,if_pos hqX]
         exact .omap (List.mem_append_right _ hmm) rfl
        ·rw [if_neg hqk,if_pos hqX] at hmm
         rw [if_neg hqk,if_pos hqX]
         exact .omap (List.mem_append_right _ hmm) rfl
       ·rw [if_neg (fun e=>hqX (by rw [e];exact hwI)),if_neg hqX]
        exact .plain rfl rfl
    ·refine FLe.convS [⟨100,some 100,0,⟨0,.hrow,71,4,[[.list 8 (l.map OpV.fv),.own 101 0 0 m,.omap 102 0,.own 103 0 0 n]]⟩⟩,⟨101,some 101,0,⟨0,.own,3,1,I.map ym⟩⟩,⟨102,some 102,0,⟨0,.mapo,68,0,yE l n⟩⟩,⟨103,some 103,0,⟨0,.hrow,67,1,(List.range n).map fun q=>[if q=w then .omap 150 0 else Vc I q]⟩⟩,⟨150,some (1000+w),0,⟨0,.mapo,67,0,e4 l I Y w⟩⟩] 1000 n w none (fun _=>0) (fun q=>if q=w then (⟨0,.own,67,1,[]⟩:zm) else Xs l I Y q) rfl (by unfold zg;omega) rfl zd Xl Xl (by repeat (first|exact Low.nil|exact Low.fam rfl (by unfold zg;omega)|refine Low.cons rfl ?_)) ?_ ?_ (by repeat (first|exact .nil|refine .cons (.plain rfl rfl rfl) ?_|refine .cons (.ptr rfl (.head _) rfl) ?_|refine .cons (.own rfl (.tail _ (.head _)) rfl rfl) ?_))
     ·intro q hq
      by_cases hqk:q=w
      ·rw [if_pos hqk,if_pos hqk];exact .inl ⟨rfl,rfl,rfl⟩
      ·rw [if_neg hqk,if_neg hqk]
       refine .inr ⟨_,rfl,(zZ (C:=[(100,_),(101,_),(102,_),(103,_)]) rfl zc hq).trans (by unfold Xs;split <;> rfl),?_⟩
       unfold Xs
       split <;> rfl
     ·refine (.oldK rfl (xS.cons (.cons (.plain rfl rfl) (.cons (.own (.tail _ (.head _)) rfl rfl rfl) (.cons (.omap (.tail _ (.tail _ (.head _))) rfl) (.cons (.own (.tail _ (.tail _ (.tail _ (.head _)))) rfl rfl rfl) .nil)))) rfl xS.nil) (.old rfl zc rfl (.old rfl zc rfl (.oldH rfl (VZ.of fun q hq=>?_) (.old ((zZ (C:=[(100,_),(101,_),(102,_),(103,_)]) rfl zc hwn).trans (by unfold Xs;rw [if_pos hwI])) zc rfl .nil)))))
      have hmm:=yD (B:=1000) (s:=fun q=>if q=w then none else some (1000+q)) (vo:=fun _=>0) (f:=(fun q=>if q=w then (⟨0,.own,67,1,[]⟩:zm) else Xs l I Y q)) hq
      by_cases hqk:q=w
      ·subst hqk
       unfold Vc
       rw [if_pos rfl,if_pos hwI]
       exact .omap (.tail _ (.tail _ (.tail _ (.tail _ (.head _))))) rfl
      ·rw [if_neg hqk,if_neg hqk] at hmm
       rw [if_neg hqk]
       unfold Vc
       by_cases hqX:q∈I
       ·rw [if_pos hqX]
        refine .omap (List.mem_append_right _ hmm) ?_
        unfold Xs;split <;> rfl
       ·rw [if_neg hqX]
        exact .plain rfl rfl
  ·have hje:j=m:=by simp at h;omega
   subst hje
   clear h
   rw [show I.take j=I by rw [← hm,List.take_length]]
   refine zb ?_
   have hRe:R=.eptr 4 [[.list 8 (l.map OpV.fv),.list 1 (I.map ym),.smap (yE l n),zl7 l I I n]] 0 0:=by
    rw [← hR];unfold zhl;rw [hn,hI]
   refine FW.le (s':=⟨[(2,R)],[]⟩) (FW.ret ⟨.inl rfl,.sh (.cons (.tmp 2 rfl (by rw [hRe];rfl)) .nil) rfl (by rw [hRe];rfl)⟩) ?_
   refine FLe.freeze (Low.gh (by repeat (first|exact Low.nil|exact Low.fam rfl (by unfold zg;omega)|refine Low.cons rfl ?_))) (.cons rfl ?_ (by rw [hRe];rfl) .nil)
   rw [hRe]
   refine ZY.ptr1 rfl rfl (.cons (.plain rfl) rfl (.cons (ZY.ownP rfl (by simpa using hm) (fun e he=>by obtain ⟨q,_,rfl⟩:=List.mem_map.1 he;rfl) (fun g hg=>by obtain ⟨e,he,hg⟩:=List.mem_flatten.1 hg;obtain ⟨q,_,rfl⟩:=List.mem_map.1 he;rw [List.mem_singleton.1 hg];rfl)) rfl (.cons (ZY.omapP rfl) rfl (.cons ?_ rfl .nil))))
   refine ZY.ownR rfl fun q hq=>?_
   unfold Vc zmL
   by_cases hqX:q∈I
   ·rw [if_pos hqX,if_pos hqX]
    exact ⟨ZY.omapP ((zZ (C:=[(100,_),(101,_),(102,_),(103,_)]) rfl zc hq).trans (by unfold Xs;rw [if_pos hqX])),rfl⟩
   ·rw [if_neg hqX,if_neg hqX]
    exact ⟨.plain rfl,rfl⟩
end Go.Proofs.Ytmnmakhpjgjdaaa
