/-
  Some texts as one: FmCau3, FmCau4.
-/
import Derived.Test.YtmnmakhpjgjdaaaZFmW
import Derived.Test.YtmnmakhpjgjdaaaZDA
import Derived.Test.YtmnmakhpjgjdaaaZS
namespace Go.Proofs.Ytmnmakhpjgjdaaa
set_option linter.unusedVariables false
set_option maxHeartbeats 16000000
open Go.RowKit
def xY (l:List OpV):Nat→List (Int×Int)
 | 0 => []
 | i+1 => if (nth l i).k=0 ∧ (nth l i).done=true ∧ ((nth l i).key, (nth l i).res) ∉ xY l i then xY l i ++ [((nth l i).key, (nth l i).res)] else xY l i
def zo3 (p:Int×Int):List FV:=[zet p.1 p.2,.agg []]
def Zt (l:List OpV) (i:Nat):List (List FV):=(xY l i).map zo3
theorem Un {l:List OpV} {a b:Int}:∀ {i:Nat},(a,b)∈xY l i↔∃ j,j<i∧(nth l j).k=0∧(nth l j).done=true∧(nth l j).key=a∧(nth l j).res=b
 | 0 => by simp [xY]
 | i + 1=>by
  unfold xY;have ih:=Un (l:=l) (a:=a) (b:=b) (i:=i);constructor
  ·intro h;split at h
   ·rename_i hc;rcases List.mem_append.1 h with h|h
    ·obtain ⟨j,hj,q⟩:=ih.1 h;exact ⟨j,by omega,q⟩
    ·have h:=List.mem_singleton.1 h;injection h with h1 h2
     exact ⟨i,by omega,hc.1,hc.2.1,h1.symm,h2.symm⟩
   ·obtain ⟨j,hj,q⟩:=ih.1 h;exact ⟨j,by omega,q⟩
  ·rintro ⟨j,hj,q1,q2,q3,q4⟩;by_cases hji:j=i
   ·subst hji;rw [q3,q4];split
    ·simp
    ·rename_i hc;simp only [not_and,Classical.not_not] at hc;exact hc q1 q2
   ·have:=ih.2 ⟨j,by omega,q1,q2,q3,q4⟩;split
    ·exact List.mem_append_left _ this
    ·exact this
theorem zfJ {l:List OpV} {i:Nat} (hi:i≤l.length) (hin:∀ o∈l,VT o):∀ row∈Zt l i,∀ kf,row.head? = some kf→Zy Try.prog 87 kf:=fun row hr kf hk=>by
 obtain ⟨⟨a,b⟩,hp,rfl⟩:=List.mem_map.1 hr;obtain ⟨j,hj,_,_,h1,h2⟩:=Un.1 hp;have ho:=hin _ (zy (show j<l.length by omega));injection hk with hk
 subst hk;exact UZ (by rw [← h1];exact ho.2.2.1) (by rw [← h2];exact ho.2.2.2.2.1)
theorem znQ (l:List OpV) (i:Nat) (a b:Int):Xv (Zt l i) (zet a b) (.agg []) (.agg []) (decide ((a,b)∈xY l i)):=by
 by_cases h:(a,b)∈xY l i
 ·rw [decide_eq_true h];exact .inl ⟨rfl,List.mem_map.2 ⟨_,h,rfl⟩⟩
 ·rw [decide_eq_false h];refine .inr ⟨rfl,rfl,fun row hr e=>?_⟩;obtain ⟨p,hp,rfl⟩:=List.mem_map.1 hr;injection e with e
  obtain ⟨e1,e2⟩:=Vw e;exact h (by rw [← e1,← e2];exact hp)
theorem zll {l:List OpV} {i:Nat} (h0:(nth l i).k=0) (h1:(nth l i).done=true):zj1 (Zt l i) (zet (nth l i).key (nth l i).res) (.agg []) (Zt l (i+1)):=by
 by_cases h:((nth l i).key,(nth l i).res)∈xY l i
 ·have e:Zt l (i+1)=Zt l i:=by unfold Zt;rw [show xY l (i+1)=xY l i from if_neg (fun q=>q.2.2 h)]
  have hm:zo3 ((nth l i).key,(nth l i).res)∈Zt l i:=List.mem_map.2 ⟨_,h,rfl⟩;obtain ⟨j,hj,hje⟩:=List.getElem_of_mem hm;rw [e];refine .inl ⟨j,.agg [],by rw [List.getElem?_eq_getElem hj,hje];rfl,?_⟩;apply List.ext_getElem?;intro q;rw [List.getElem?_set];by_cases hq:j=q
  ·subst hq;rw [if_pos rfl,if_pos hj,List.getElem?_eq_getElem hj,hje];rfl
  ·rw [if_neg hq]
 ·refine .inr ⟨fun row hr e=>?_,?_⟩
  ·obtain ⟨p,hp,rfl⟩:=List.mem_map.1 hr;injection e with e
   obtain ⟨e1,e2⟩:=Vw e;exact h (by rw [← e1,← e2];exact hp)
  ·unfold Zt;rw [show xY l (i+1)=xY l i++[((nth l i).key,(nth l i).res)] from if_pos ⟨h0,h1,h⟩,List.map_append];rfl
theorem zjl {l:List OpV} {i:Nat} (h:¬ ((nth l i).k=0∧(nth l i).done=true)):Zt l (i+1)=Zt l i:=by
 unfold Zt;rw [show xY l (i+1)=xY l i from if_neg (fun q=>h ⟨q.1,q.2.1⟩)]
theorem zgL (l:List OpV) (o:OpV):decide ((o.key,o.arg)∈xY l l.length)=l.any (zmf o.key o.arg):=by
 rw [Bool.eq_iff_iff,decide_eq_true_iff,Un,zgi];constructor
 ·rintro ⟨j,hj,q1,q2,q3,q4⟩;exact ⟨j,hj,by unfold zmf;simp [q1,q2,q3,q4]⟩
 ·rintro ⟨j,hj,h⟩;unfold zmf at h;simp at h;exact ⟨j,hj,by simp [h],by simp [h],by simp [h],by simp [h]⟩
def zN (l:List OpV) (i:Nat):List Nat:=(List.range i).filter (zJ l)
theorem ziU (l:List OpV) (i:Nat):zN l (i+1)=zN l i++if zJ l i=true then [i] else []:=by
 unfold zN;rw [List.range_succ,List.filter_append];congr 1;by_cases h:zJ l i=true <;> simp [h]
theorem YF (l:List OpV) (i:Nat):(zN l i).length≤i:=Nat.le_trans (List.length_filter_le _ _) zc
theorem xz:Maps.Keyed Try.prog 3:=Maps.int_keyed (q:=.i64) zi
theorem Zw {a:Int} (ha:I64 a):Zy Try.prog 3 (.int .i64 a):=⟨rfl,_,Maps.keyOf_int_mk (q:=.i64) zi (zfs ha)⟩
def Xs (l:List OpV) (X:List Nat) (p:Int):Option Nat:=X.reverse.find? fun k=>decide ((nth l k).p=p)
def yi (l:List OpV) (X:List Nat) (i:Nat):Option Nat:=X.find? fun k=>decide (i<k) && decide ((nth l k).p=(nth l i).p)
theorem zi0 (l:List OpV) (X:List Nat) (i:Nat) (p:Int):Xs l (X++[i]) p=if (nth l i).p=p then some i else Xs l X p:=by
 unfold Xs;rw [List.reverse_append,List.reverse_singleton,List.singleton_append,List.find?_cons];by_cases h:(nth l i).p=p
 ·rw [if_pos h,decide_eq_true h]
 ·rw [if_neg h,decide_eq_false h]
theorem Wd {l:List OpV} {X:List Nat} {p:Int} {k:Nat} (h:Xs l X p=some k):k∈X∧(nth l k).p=p:=by
 have h1:=List.find?_some h;have h2:=List.mem_of_find?_eq_some h;exact ⟨by simpa using h2,by simpa using h1⟩
theorem ziZ {l:List OpV} {X:List Nat} {p:Int} (h:Xs l X p=none):∀ k∈X,(nth l k).p≠p:=fun k hk=>by
 have:=List.find?_eq_none.1 h k (by simpa using hk);simpa using this
theorem zbc {l:List OpV} {X:List Nat} (hX:X.Pairwise (· < ·)) {p:Int} {k:Nat} (h:Xs l X p=some k):∀ q∈X,(nth l q).p=p→q≤k:=fun q hq hp=>by
 unfold Xs at h;rw [List.find?_eq_some_iff_append] at h;obtain ⟨_,ua,ub,e,hn⟩:=h;have hq2:q∈X.reverse:=by simpa using hq
 rw [e] at hq2;rcases List.mem_append.1 hq2 with h1|h1
 ·have:=hn q h1;simp [hp] at this
 ·rcases List.mem_cons.1 h1 with rfl|h1
  ·exact Nat.le_refl _
  ·have hX2:=List.pairwise_reverse.2 (show X.Pairwise (fun a b=>a<b) from hX);have hX3:X.reverse.Pairwise fun a b=>b<a:=hX2;rw [e] at hX3;exact Nat.le_of_lt ((List.pairwise_cons.1 (List.pairwise_append.1 hX3).2.1).1 q h1)
def e3 (l:List OpV) (X:List Nat) (i:Nat):List (List FV):=(yi l X i).toList.map fun k:Nat=>[.int .i64 (k:Int),.int .i64 1]
theorem zgW {l:List OpV} {X:List Nat} (hX:X.Pairwise (· < ·)) {i:Nat} (hi:∀ k∈X,k<i) {j:Nat} (hj:j∈X):yi l (X++[i]) j=if Xs l X (nth l i).p=some j then some i else yi l X j:=by
 unfold yi;rw [List.find?_append];by_cases h:Xs l X (nth l i).p=some j
 ·rw [if_pos h];obtain ⟨_,h2⟩:=Wd h;have h3:=zbc hX h;have:(X.find? fun k=>decide (j<k) && decide ((nth l k).p=(nth l j).p))=none:=by
   rw [List.find?_eq_none];intro q hq;simp only [Bool.and_eq_true,decide_eq_true_eq,not_and];intro hlt hp;have:=h3 q hq (hp.trans h2);omega
  rw [this,Option.none_or,List.find?_cons,decide_eq_true (hi j hj),decide_eq_true h2.symm];rfl
 ·rw [if_neg h];cases hf:X.find? fun k=>decide (j<k) && decide ((nth l k).p=(nth l j).p) with
  | some q => rfl
  | none=>
   rw [Option.none_or,List.find?_cons,decide_eq_true (hi j hj),Bool.true_and];by_cases hp:(nth l i).p=(nth l j).p
   ·exfalso;cases hl:Xs l X (nth l i).p with
    | none => exact ziZ hl j hj hp.symm
    | some k =>
     obtain ⟨h1,h2⟩:=Wd hl;have h3:=zbc hX hl j hj hp.symm;have hne:j≠k:=fun e=>h (by rw [e];exact hl);have:=List.find?_eq_none.1 hf k h1;simp only [Bool.and_eq_true,decide_eq_true_eq,not_and] at this;exact this za (h2.trans hp)
   ·rw [decide_eq_false hp];rfl
theorem zgV {l:List OpV} {X:List Nat} {i:Nat} (hi:∀ k∈X,k<i):yi l (X++[i]) i=none:=by
 unfold yi;rw [List.find?_eq_none];intro q hq;rcases List.mem_append.1 hq with h|h
 ·have:=hi q h;simp;omega
 ·rw [List.mem_singleton.1 h];simp
theorem zbf {l:List OpV} {X:List Nat} (hX:X.Pairwise (· < ·)) {p:Int} {j:Nat} (h:Xs l X p=some j):yi l X j=none:=by
 unfold yi;rw [List.find?_eq_none];intro q hq;simp only [Bool.and_eq_true,decide_eq_true_eq,not_and];intro hlt hp;have:=zbc hX h q hq (hp.trans (Wd h).2);omega
theorem zgz {l:List OpV} {X:List Nat} (hX:X.Pairwise (· < ·)) {i:Nat} (hi:∀ k∈X,k<i) {j:Nat} (hj:j∈X):e3 l (X++[i]) j=if Xs l X (nth l i).p=some j then e3 l X j++[[.int .i64 (i:Int),.int .i64 1]] else e3 l X j:=by
 unfold e3;rw [zgW hX hi hj];by_cases h:Xs l X (nth l i).p=some j
 ·rw [if_pos h,if_pos h,zbf hX h];rfl
 ·rw [if_neg h,if_neg h]
theorem zkr {l:List OpV} {X:List Nat} {i:Nat} (hi:∀ k∈X,k<i):e3 l (X++[i]) i=[]:=by
 unfold e3;rw [zgV hi];rfl
def VU (X:List Nat) (j:Nat):FV:=if j∈X then .omap (1000+j) 0 else .nilm
def Va (l:List OpV) (X:List Nat) (j:Nat):zt:=if j∈X then ⟨0,.mapo,67,0,e3 l X j⟩ else ⟨0,.own,67,1,[]⟩
theorem za9 (l:List OpV) (i:Nat):(zN l i).Pairwise (· < ·):=List.Pairwise.filter _ List.pairwise_lt_range
theorem xw {l:List OpV} {i j:Nat} (h:j∈zN l i):j<i:=by simpa using (List.mem_filter.1 h).1
def e4 (l:List OpV) (I Y:List Nat) (q:Nat):List (List FV):=e3 l I q++(Y.filter fun k=>decide (yU l k=some q∧yi l I q≠some k)).map fun k:Nat=>[.int .i64 (k:Int),.int .i64 2]
theorem zoE (l:List OpV) (I:List Nat) (q:Nat):e4 l I [] q=e3 l I q:=by unfold e4;simp
theorem zaI (l:List OpV) (I Y:List Nat) (i q:Nat):e4 l I (Y++[i]) q=e4 l I Y q++if yU l i=some q∧yi l I q≠some i then [[.int .i64 (i:Int),.int .i64 2]] else []:=by
 unfold e4;rw [List.filter_append,List.map_append,List.append_assoc];congr 2;by_cases h:yU l i=some q∧yi l I q≠some i
 ·rw [if_pos h,List.filter_cons_of_pos (by simpa using h)];rfl
 ·rw [if_neg h,List.filter_cons_of_neg (by simpa using h)];rfl
theorem YK {l:List OpV} {I:List Nat} {q k:Nat} (h:yi l I q=some k):k∈I∧q<k∧(nth l k).p=(nth l q).p:=by
 have h1:=List.find?_some h;have h2:=List.mem_of_find?_eq_some h;simp only [Bool.and_eq_true,decide_eq_true_eq] at h1;exact ⟨h2,h1⟩
theorem znr {l:List OpV} {I Y:List Nat} {q n:Nat} (hI:∀ k∈I,k<n) (hY:∀ k∈Y,k<n) (hn:n≤1000):∀ row∈e4 l I Y q,∀ kf,row.head? = some kf→Zy Try.prog 3 kf:=fun row hr kf hk=>by
 have key:∀ k:Nat,k<n→Zy Try.prog 3 (.int .i64 (k:Int)):=fun k hk=>Zw (by unfold I64;omega);unfold e4 e3 at hr;rcases List.mem_append.1 hr with h|h
 ·obtain ⟨k,hk2,rfl⟩:=List.mem_map.1 h;injection hk with hk;subst hk
  exact key k (hI k (YK (by simpa using hk2)).1)
 ·obtain ⟨k,hk2,rfl⟩:=List.mem_map.1 h;injection hk with hk;subst hk
  exact key k (hY k (List.mem_filter.1 hk2).1)
theorem zks {l:List OpV} {I Y:List Nat} {q i:Nat} (h:yi l I q≠some i) (hY:∀ k∈Y,k<i):∀ row∈e4 l I Y q,row.head?≠some (.int .i64 (i:Int)):=fun row hr e=>by
 unfold e4 e3 at hr;rcases List.mem_append.1 hr with h1|h1
 ·obtain ⟨k,hk,rfl⟩:=List.mem_map.1 h1;simp only [List.head?_cons,Option.some.injEq,FV.int.injEq,true_and] at e;have:k=i:=by omega
  subst this;exact h (by simpa using hk)
 ·obtain ⟨k,hk,rfl⟩:=List.mem_map.1 h1;simp only [List.head?_cons,Option.some.injEq,FV.int.injEq,true_and] at e;have:=hY k (List.mem_filter.1 hk).1;omega
theorem znM (l:List OpV) {I Y:List Nat} {q i:Nat} (hY:∀ k∈Y,k<i):Xv (e4 l I Y q) (.int .i64 (i:Int)) (.int .i64 0) (.int .i64 (if yi l I q=some i then 1 else 0)) (decide (yi l I q=some i)):=by
 by_cases h:yi l I q=some i
 ·rw [if_pos h,decide_eq_true h];refine .inl ⟨rfl,?_⟩;unfold e4 e3;rw [h];exact List.mem_append_left _ zc
 ·rw [if_neg h,decide_eq_false h];exact .inr ⟨rfl,rfl,zks h hY⟩
def XZ (l:List OpV) (I Y:List Nat) (q:Nat):zt:=if q∈I then ⟨0,.mapo,67,0,e4 l I Y q⟩ else ⟨0,.own,67,1,[]⟩
def zpb (l:List OpV) (I Y:List Nat) (q:Nat):FV:=if q∈I then .smap (e4 l I Y q) else .nilm
def zor (l:List OpV) (I Y:List Nat) (n:Nat):FV:=.list 1 ((List.range n).map fun q=>[zpb l I Y q])
inductive zim (s:FSt):List FV→List FV→Prop where
 | nil:zim s [] []
 | cons {f g:FV} {fs gs:List FV} (h:YC s f g) (ho:g.one=true) (hs:zim s fs gs):zim s (f :: fs) (g :: gs)
theorem zim.get {s:FSt} {fs gs:List FV} (h:zim s fs gs):fs.length=gs.length∧(∀ g∈gs,g.one=true)∧∀ (j:Nat) f g,fs[j]? = some f→gs[j]? = some g→YC s f g:=by
 induction h with
 | nil => exact ⟨rfl, (fun g hg => by cases hg), fun j f g h1 => by simp at h1⟩
 | cons h ho hs ih=>
  obtain ⟨h1,h2,h3⟩:=ih;refine ⟨by simp [h1],fun g hg=>?_,fun j f g hf hg=>?_⟩
  ·rcases List.mem_cons.1 hg with rfl|hg
   ·exact ho
   ·exact h2 g hg
  ·cases j with
   | zero => simp at hf hg; subst hf; subst hg; exact h
   | succ j => simp at hf hg; exact h3 j f g hf hg
theorem YC.ptr1 {t:List (Nat×FV)} {ob:List (Nat×zt)} {id ver sz E:Nat} {r r' : List FV} (h:look {} ob id=⟨ver,.hrow,E,sz,[r]⟩) (hz:r'.length=sz) (hv:zim ⟨t,ob⟩ r r'):YC ⟨t,ob⟩ (.ptr id ver 0 0) (.eptr sz [r'] 0 0):=by
 have ho:(⟨t,ob⟩:FSt).ob id=⟨ver,.hrow,E,sz,[r]⟩:=h;obtain ⟨h1,h2,h3⟩:=hv.get;refine .ptr (zR ho zg) (by rw [ho];rfl) (by rw [ho]) (by rw [ho];rfl) (fun e he=>by rw [List.mem_singleton.1 he];exact hz) (fun g hg=>h2 g (by simpa using hg)) fun j f g hf hg=>?_;rw [ho] at hf;exact h3 j f g (by simpa using hf) (by simpa using hg)
theorem YC.ownP {t:List (Nat×FV)} {ob:List (Nat×zt)} {id ver n E sz:Nat} {es:List (List FV)} (h:look {} ob id=⟨ver,.own,E,sz,es⟩) (hn:es.length=n) (hw:∀ e∈es,e.length=sz) (h1:∀ g∈es.flatten,g.one=true):YC ⟨t,ob⟩ (.own id ver 0 n) (.list sz es):=by
 have ho:(⟨t,ob⟩:FSt).ob id=⟨ver,.own,E,sz,es⟩:=h;refine .own (zR ho zg) (by rw [ho];rfl) (by rw [ho]) hn hw h1 fun j f g hf hg=>?_;rw [ho] at hf;dsimp only at hf;rw [List.drop_zero,List.take_of_length_le za,hg] at hf;injection hf with hf
 subst hf;exact .plain (by have:=h1 g (List.mem_of_getElem? hg);cases g <;> first|rfl|(simp [FV.one] at this))
theorem zaS {n:Nat} {c:Nat→FV}:((List.range n).map fun q=>[c q]).flatten=(List.range n).map c:=by
 induction List.range n with
 | nil => rfl
 | cons x L ih => simp [ih]
theorem YC.ownR {t:List (Nat×FV)} {ob:List (Nat×zt)} {id ver n E:Nat} {c c' : Nat→FV} (h:look {} ob id=⟨ver,.hrow,E,1,(List.range n).map fun q=>[c q]⟩) (hv:∀ q,q<n→YC ⟨t,ob⟩ (c q) (c' q)∧(c' q).one=true):YC ⟨t,ob⟩ (.own id ver 0 n) (.list 1 ((List.range n).map fun q=>[c' q])):=by
 have ho:(⟨t,ob⟩:FSt).ob id=⟨ver,.hrow,E,1,(List.range n).map fun q=>[c q]⟩:=h;refine .own (zR ho zg) (by rw [ho];rfl) (by rw [ho]) zc (fun e he=>?_) (fun g hg=>?_) fun j f g hf hg=>?_
 ·obtain ⟨q,_,rfl⟩:=List.mem_map.1 he;rfl
 ·rw [zaS] at hg;obtain ⟨q,hq,rfl⟩:=List.mem_map.1 hg;exact (hv q (List.mem_range.1 hq)).2
 ·rw [ho] at hf;dsimp only at hf;rw [List.drop_zero,List.take_of_length_le zc,zaS] at hf;rw [zaS] at hg;rw [List.getElem?_map] at hf hg;cases hj:(List.range n)[j]? with
  | none => rw [hj] at hf; cases hf
  | some q =>
   rw [hj] at hf hg;injection hf with hf;injection hg with hg
   subst hf;subst hg;exact (hv q (List.mem_range.1 (List.mem_of_getElem? hj))).1
theorem YC.omapP {t:List (Nat×FV)} {ob:List (Nat×zt)} {id ver E sz:Nat} {es:List (List FV)} (h:look {} ob id=⟨ver,.mapo,E,sz,es⟩):YC ⟨t,ob⟩ (.omap id ver) (.smap es):=by
 have ho:(⟨t,ob⟩:FSt).ob id=⟨ver,.mapo,E,sz,es⟩:=h;exact .omap (zR ho zg) (by rw [ho];rfl) (by rw [ho];exact fun e=>by cases e) (by rw [ho])
theorem Low.gh {ob:List (Nat×zt)} (h:Low ob):zmH ob=true:=List.all_eq_true.2 fun p hp=>by
 have h1:=h p hp;cases e:Nat.ble zh p.1 with
 | true => have := Nat.le_of_ble_eq_true e; omega
 | false => rfl
theorem zey {A:List (Int×Int)} {c v:Int} (hc:I64 c) (h:∀ p∈A,I64 p.1):∀ p∈zer A c v,I64 p.1:=by
 induction A with
 | nil => intro p hp; unfold zer at hp; rw [List.mem_singleton.1 hp]; exact hc
 | cons a A ih=>
  intro p hp;unfold zer at hp;split at hp
  ·rcases List.mem_cons.1 hp with rfl|hp
   ·exact hc
   ·exact h p (List.mem_cons_of_mem _ hp)
  ·rcases List.mem_cons.1 hp with rfl|hp
   ·exact h _ (List.mem_cons_self ..)
   ·exact ih (fun q hq=>h q (List.mem_cons_of_mem _ hq)) p hp
theorem zhl {c v d:Int}:∀ (A:List (Int×Int)),((zer A c v).any fun p=>decide (p.1=d))=(decide (c=d) || A.any fun p=>decide (p.1=d))
 | [] => by simp [zer]
 | p::A=>by
  unfold zer;by_cases h:p.1=c
  ·rw [if_pos h];subst h;simp [List.any_cons]
  ·rw [if_neg h,List.any_cons,zhl A,List.any_cons];cases decide (p.1=d) <;> cases decide (c=d) <;> simp
theorem zoJ {i:Nat} {x:FV} {f:Nat→FV}:(fun j=>if j=i then [x] else [f j])=fun j=>[if j=i then x else f j]:=funext fun j=>by split <;> rfl
theorem zcr (l:List OpV) (hl:l.length≤1000) (hin:∀ o∈l,VT o) (hd:Yn l):zV Try.prog 31 [.list 8 (l.map OpV.fv)] .sh (zjt l (.list 1 ((zN l l.length).map yp)) (zor l (zN l l.length) (zN l l.length) l.length)):=by
 obtain ⟨n,hn⟩:∃ n,l.length=n:=⟨_,rfl⟩
 have hr0:Zt l 0=[]:=rfl;refine zV.of_body (c:=(xy Try.prog zD zu 180)) ⟨Try.func31,rfl,Try.ntmps31,by kernel_rfl⟩ zF zx rfl ?_;change FW _ _ _ ⟨[(0,.list 8 (l.map OpV.fv))],[]⟩;obtain ⟨R,hR⟩:∃ R,zjt l (.list 1 ((zN l l.length).map yp)) (zor l (zN l l.length) (zN l l.length) l.length)=R:=⟨_,rfl⟩
 rw [hR]
 (repeat (first|refine FW.seq ?_|refine FW.region ?_|refine zp.nil ?_|refine zU rfl rfl rfl ?_|refine zG rfl rfl rfl ?_|refine zda rfl rfl rfl ?_|refine YQ rfl rfl (by first|exact List.length_map _|rfl|omega) rfl rfl ?_|refine zg8 rfl rfl rfl rfl rfl rfl rfl rfl za za rfl rfl rfl ?_))
 rw [hn];refine zlF (cs:=[.list 8 (l.map OpV.fv),.nil,.omap 22 (0+1),.own 25 (0+1) 0 n]) rfl (by refine zas.cons rfl (.inl rfl) rfl rfl ?_;refine zas.cons rfl (.inr (.inr (.inr (.inr ⟨_,_,rfl,zR rfl zg⟩)))) rfl rfl ?_;refine zas.cons rfl (.inr (.inl ⟨_,_,_,_,rfl,zR rfl zg⟩)) rfl rfl ?_;exact zas.nil) rfl rfl rfl rfl rfl rfl ?_;refine zn5 rfl rfl rfl rfl rfl ?_;refine zb ?_;rw [hn];refine FW.loop (fun i:Nat=>⟨[(0,.list 8 (l.map OpV.fv)),(3,.ptr 100 0 0 0),(4,.omap 104 0),(29,.list 8 (l.map OpV.fv)),(30,.int .i64 n),(31,.int .i64 i)],[(100,⟨0,.hrow,71,4,[[.list 8 (l.map OpV.fv),.own 101 0 0 0,.omap 102 0,.own 103 0 0 n]]⟩),(101,⟨0,.own,3,1,[]⟩),(102,⟨0,.mapo,68,0,[]⟩),(103,⟨0,.own,67,1,List.replicate n [.nilm]⟩),(104,⟨0,.mapo,85,0,Zt l i⟩)]⟩) (fun i=>i≤n) (fun i=>n - i) 0 (Nat.zero_le _) ?_ ?_
 ·exact (FLe.cv [⟨100,some 27,0+1,⟨0,.hrow,71,4,[[.list 8 (l.map OpV.fv),.own 101 0 0 0,.omap 102 0,.own 103 0 0 n]]⟩⟩,⟨101,none,0,⟨0,.own,3,1,[]⟩⟩,⟨102,some 22,0+1,⟨0,.mapo,68,0,[]⟩⟩,⟨103,some 25,0+1,⟨0,.own,67,1,List.replicate n [.nilm]⟩⟩,⟨104,some 28,0+1,⟨0,.mapo,85,0,[]⟩⟩] zf zd)
 intro i hi;refine zb ?_;refine FW.cond rfl (fun h=>?_) (fun h=>?_)
 ·have hlt:i<n:=by simpa using h
  clear h;have hlt2:i<l.length:=by omega
  have ho:=hin _ (zy hlt2);have hset:=zll (l:=l) (i:=i);have hskip:=zjl (l:=l) (i:=i);obtain ⟨o,hoe⟩:∃ o,nth l i=o:=⟨_,rfl⟩
  rw [hoe] at ho hset hskip;refine zb ?_;rw [hoe];skip;refine zP (fun h1=>?_) (fun h1=>?_)
  ·have h1:o.k=0:=by simpa using h1
   refine zb ?_;refine FW.cond rfl (fun h2=>?_) (fun h2=>?_)
   ·refine zb ?_;refine Yi Vv (zfJ za hin) (UZ ho.2.2.1 ho.2.2.2.2.1) (hset h1 h2) rfl rfl rfl rfl rfl rfl rfl ?_;refine zb ?_;exact ⟨i+1,by omega,by omega,(FLe.cv [⟨100,some 100,0,⟨0,.hrow,71,4,[[.list 8 (l.map OpV.fv),.own 101 0 0 0,.omap 102 0,.own 103 0 0 n]]⟩⟩,⟨101,some 101,0,⟨0,.own,3,1,[]⟩⟩,⟨102,some 102,0,⟨0,.mapo,68,0,[]⟩⟩,⟨103,some 103,0,⟨0,.own,67,1,List.replicate n [.nilm]⟩⟩,⟨104,some 104,0,⟨0,.mapo,85,0,Zt l (i+1)⟩⟩] zf zd)⟩
   ·refine zb ?_;refine ⟨i+1,by omega,by omega,?_⟩;rw [hskip (fun q=>by rw [q.2] at h2;cases h2)];exact (FLe.cv [⟨100,some 100,0,⟨0,.hrow,71,4,[[.list 8 (l.map OpV.fv),.own 101 0 0 0,.omap 102 0,.own 103 0 0 n]]⟩⟩,⟨101,some 101,0,⟨0,.own,3,1,[]⟩⟩,⟨102,some 102,0,⟨0,.mapo,68,0,[]⟩⟩,⟨103,some 103,0,⟨0,.own,67,1,List.replicate n [.nilm]⟩⟩,⟨104,some 104,0,⟨0,.mapo,85,0,Zt l i⟩⟩] zf zd)
  ·have h1:o.k≠0:=by simpa using h1
   refine zb ?_;refine ⟨i+1,by omega,by omega,?_⟩;rw [hskip (fun q=>h1 q.1)];exact (FLe.cv [⟨100,some 100,0,⟨0,.hrow,71,4,[[.list 8 (l.map OpV.fv),.own 101 0 0 0,.omap 102 0,.own 103 0 0 n]]⟩⟩,⟨101,some 101,0,⟨0,.own,3,1,[]⟩⟩,⟨102,some 102,0,⟨0,.mapo,68,0,[]⟩⟩,⟨103,some 103,0,⟨0,.own,67,1,List.replicate n [.nilm]⟩⟩,⟨104,some 104,0,⟨0,.mapo,85,0,Zt l i⟩⟩] zf zd)
 have hie:i=n:=by simp at h;omega
 rw [hie];clear h hi hie;refine zb ?_;rw [hn];refine FW.loop (fun i:Nat=>⟨[(0,.list 8 (l.map OpV.fv)),(3,.ptr 100 0 0 0),(4,.omap 104 0),(50,.list 8 (l.map OpV.fv)),(51,.int .i64 n),(52,.int .i64 i)],[(100,⟨0,.hrow,71,4,[[.list 8 (l.map OpV.fv),.own 101 0 0 (zN l i).length,.omap 102 0,.own 103 0 0 n]]⟩),(101,⟨0,.own,3,1,(zN l i).map yp⟩),(102,⟨0,.mapo,68,0,yH l i⟩),(103,⟨0,.own,67,1,List.replicate n [.nilm]⟩),(104,⟨0,.mapo,85,0,Zt l n⟩)]⟩) (fun i=>i≤n) (fun i=>n - i) 0 (Nat.zero_le _) ?_ ?_
 ·exact (FLe.cv [⟨100,some 100,0,⟨0,.hrow,71,4,[[.list 8 (l.map OpV.fv),.own 101 0 0 0,.omap 102 0,.own 103 0 0 n]]⟩⟩,⟨101,some 101,0,⟨0,.own,3,1,[]⟩⟩,⟨102,some 102,0,⟨0,.mapo,68,0,[]⟩⟩,⟨103,some 103,0,⟨0,.own,67,1,List.replicate n [.nilm]⟩⟩,⟨104,some 104,0,⟨0,.mapo,85,0,Zt l n⟩⟩] zf zd)
 intro i hi;have hil:=YF l i;refine zb ?_;refine FW.cond rfl (fun h=>?_) (fun h=>?_)
 ·have hlt:i<n:=by simpa using h
  clear h;have hlt2:i<l.length:=by omega
  have ho:=hin _ (zy hlt2);have hdo:=hd i hlt2;have hws:=ziq l i;have his:=ziU l i;have hiw:=zgL l (nth l i);have hlk:=znQ l n (nth l i).key (nth l i).arg;have hinc:zJ l i=((nth l i).done || (decide ((nth l i).k=1) && l.any (zmf (nth l i).key (nth l i).arg))):=rfl;rw [← hiw,hn] at hinc;clear hiw;unfold okW at hdo;unfold zos at hws;obtain ⟨o,hoe⟩:∃ o,nth l i=o:=⟨_,rfl⟩
  rw [hoe] at ho hdo hws hlk hinc;generalize decide ((o.key,o.arg)∈xY l n)=wt at hlk hinc;generalize zJ l i=ic at hws his hinc;refine zb ?_;rw [hoe];skip;refine XL (e:=88) Vv (zfJ za hin) (UZ ho.2.2.1 ho.2.2.2.1) hlk rfl rfl zg rfl rfl rfl rfl rfl rfl ?_
  (repeat (first|refine zp.nil ?_|refine zU rfl rfl rfl ?_|refine zG rfl rfl rfl ?_|refine zan rfl rfl rfl rfl rfl rfl rfl ?_|refine zdb rfl rfl rfl rfl rfl rfl rfl rfl rfl ?_|refine Us rfl rfl rfl rfl rfl ?_))
  refine FW.seq ?_;refine FW.join (fun _:Unit=>⟨[(0,.list 8 (l.map OpV.fv)),(3,.ptr 100 0 0 0),(4,.omap 104 0),(50,.list 8 (l.map OpV.fv)),(51,.int .i64 n),(52,.int .i64 i),(7,.int .i64 i),(8,.ptr 105 0 0 0),(9,.ptr 106 0 0 0),(77,.bool ic)],[(100,⟨0,.hrow,71,4,[[.list 8 (l.map OpV.fv),.own 101 0 0 (zN l i).length,.omap 102 0,.own 103 0 0 n]]⟩),(101,⟨0,.own,3,1,(zN l i).map yp⟩),(102,⟨0,.mapo,68,0,yH l i⟩),(103,⟨0,.own,67,1,List.replicate n [.nilm]⟩),(104,⟨0,.mapo,85,0,Zt l n⟩),(105,⟨0,.own,43,8,[o.fv]⟩),(106,⟨0,.own,87,2,[[.int .i64 o.key,.int .i64 o.arg]]⟩)]⟩) (fun _=>True) ?_ ?_
  ·refine zb ?_;refine zP (fun h1=>?_) (fun h1=>?_)
   ·rw [hinc,h1,Bool.true_or];refine zb ?_;exact ⟨rfl,(),trivial,(FLe.cv [⟨100,some 100,0,⟨0,.hrow,71,4,[[.list 8 (l.map OpV.fv),.own 101 0 0 (zN l i).length,.omap 102 0,.own 103 0 0 n]]⟩⟩,⟨101,some 101,0,⟨0,.own,3,1,(zN l i).map yp⟩⟩,⟨102,some 102,0,⟨0,.mapo,68,0,yH l i⟩⟩,⟨103,some 103,0,⟨0,.own,67,1,List.replicate n [.nilm]⟩⟩,⟨104,some 104,0,⟨0,.mapo,85,0,Zt l n⟩⟩,⟨105,some 8,0+1,⟨0,.own,43,8,[o.fv]⟩⟩,⟨106,some 9,0+1,⟨0,.own,87,2,[[.int .i64 o.key,.int .i64 o.arg]]⟩⟩] zf zd)⟩
   ·rw [h1,Bool.false_or] at hinc;refine zb ?_;refine zP (fun h2=>?_) (fun h2=>?_)
    ·rw [h2,Bool.true_and] at hinc;rw [hinc];refine zb ?_;exact ⟨rfl,(),trivial,(FLe.cv [⟨100,some 100,0,⟨0,.hrow,71,4,[[.list 8 (l.map OpV.fv),.own 101 0 0 (zN l i).length,.omap 102 0,.own 103 0 0 n]]⟩⟩,⟨101,some 101,0,⟨0,.own,3,1,(zN l i).map yp⟩⟩,⟨102,some 102,0,⟨0,.mapo,68,0,yH l i⟩⟩,⟨103,some 103,0,⟨0,.own,67,1,List.replicate n [.nilm]⟩⟩,⟨104,some 104,0,⟨0,.mapo,85,0,Zt l n⟩⟩,⟨105,some 8,0+1,⟨0,.own,43,8,[o.fv]⟩⟩,⟨106,some 9,0+1,⟨0,.own,87,2,[[.int .i64 o.key,.int .i64 o.arg]]⟩⟩] zf zd)⟩
    ·rw [h2,Bool.false_and] at hinc;rw [hinc];refine zb ?_;exact ⟨rfl,(),trivial,(FLe.cv [⟨100,some 100,0,⟨0,.hrow,71,4,[[.list 8 (l.map OpV.fv),.own 101 0 0 (zN l i).length,.omap 102 0,.own 103 0 0 n]]⟩⟩,⟨101,some 101,0,⟨0,.own,3,1,(zN l i).map yp⟩⟩,⟨102,some 102,0,⟨0,.mapo,68,0,yH l i⟩⟩,⟨103,some 103,0,⟨0,.own,67,1,List.replicate n [.nilm]⟩⟩,⟨104,some 104,0,⟨0,.mapo,85,0,Zt l n⟩⟩,⟨105,some 8,0+1,⟨0,.own,43,8,[o.fv]⟩⟩,⟨106,some 9,0+1,⟨0,.own,87,2,[[.int .i64 o.key,.int .i64 o.arg]]⟩⟩] zf zd)⟩
  rintro _ _;refine FW.cond rfl (fun h1=>?_) (fun h1=>?_)
  ·subst h1;rw [if_pos rfl] at his;rw [Bool.and_true] at hws;have hil2:(zN l i).length≤1000:=by omega
   refine zb ?_;refine Yh rfl rfl rfl rfl rfl rfl rfl ?_;refine zb ?_;refine zjJ rfl rfl (.inr (.inl ⟨_,_,_,_,rfl,zR rfl zg⟩)) rfl rfl rfl rfl (by show 1<4;decide) rfl ?_;refine zb ?_;refine FW.cond rfl (fun h3=>?_) (fun h3=>?_)
   ·have h3:o.k=1:=by simpa using h3
    rw [if_pos (by simpa using h3)] at hws;have hno:∀ j,j<i→wOf o.key o.arg (nth l j)=false:=by
     rcases hdo with q|q
     ·omega
     ·exact q.2.2
    refine zQ ?_;refine VH rfl rfl rfl rfl rfl rfl rfl ?_;refine zn ?_;refine zlv Vv (zay za hin) (UZ ho.2.2.1 ho.2.2.2.1) (.inr ⟨zct (fun j hj _=>hno j hj),rfl⟩) rfl rfl rfl rfl rfl rfl rfl ?_;refine zM.nil ⟨by kernel_rfl,?_⟩;refine zb ?_;refine ⟨i+1,by omega,by omega,?_⟩;rw [hws,his,show (zN l i++[i]).length=(zN l i).length+1 by simp,List.map_append];exact (FLe.cv [⟨100,some 100,0,⟨0,.hrow,71,4,[[.list 8 (l.map OpV.fv),.own 101 0 0 ((zN l i).length+1),.omap 102 0,.own 103 0 0 n]]⟩⟩,⟨101,some 85,0+1,⟨0,.own,3,1,(zN l i).map yp++[i].map yp⟩⟩,⟨102,some 102,0,⟨0,.mapo,68,0,yH l i++[[zet o.key o.arg,.int .i64 (i:Int)]]⟩⟩,⟨103,some 103,0,⟨0,.own,67,1,List.replicate n [.nilm]⟩⟩,⟨104,some 104,0,⟨0,.mapo,85,0,Zt l n⟩⟩] zf zd)
   ·have h3:o.k≠1:=by simpa using h3
    rw [if_neg (by simpa using h3),List.append_nil] at hws;refine zb ?_;refine ⟨i+1,by omega,by omega,?_⟩;rw [hws,his,show (zN l i++[i]).length=(zN l i).length+1 by simp,List.map_append];exact (FLe.cv [⟨100,some 100,0,⟨0,.hrow,71,4,[[.list 8 (l.map OpV.fv),.own 101 0 0 ((zN l i).length+1),.omap 102 0,.own 103 0 0 n]]⟩⟩,⟨101,some 85,0+1,⟨0,.own,3,1,(zN l i).map yp++[i].map yp⟩⟩,⟨102,some 102,0,⟨0,.mapo,68,0,yH l i⟩⟩,⟨103,some 103,0,⟨0,.own,67,1,List.replicate n [.nilm]⟩⟩,⟨104,some 104,0,⟨0,.mapo,85,0,Zt l n⟩⟩] zf zd)
  ·subst h1;rw [if_neg zc] at hws his;rw [List.append_nil] at hws his;refine zb ?_;refine ⟨i+1,by omega,by omega,?_⟩;rw [hws,his];exact (FLe.cv [⟨100,some 100,0,⟨0,.hrow,71,4,[[.list 8 (l.map OpV.fv),.own 101 0 0 (zN l i).length,.omap 102 0,.own 103 0 0 n]]⟩⟩,⟨101,some 101,0,⟨0,.own,3,1,(zN l i).map yp⟩⟩,⟨102,some 102,0,⟨0,.mapo,68,0,yH l i⟩⟩,⟨103,some 103,0,⟨0,.own,67,1,List.replicate n [.nilm]⟩⟩,⟨104,some 104,0,⟨0,.mapo,85,0,Zt l n⟩⟩] zf zd)
 have hie:i=n:=by simp at h;omega
 rw [hie];clear h hi hie hil;obtain ⟨I,hI⟩:∃ I,zN l n=I:=⟨_,rfl⟩
 obtain ⟨m,hm⟩:∃ m,I.length=m:=⟨_,rfl⟩
 have hml:m≤n:=by rw [← hm,← hI];exact YF l n
 have hIa:I.Pairwise (· < ·):=by rw [← hI];exact za9 l n
 have hIn:∀ j∈I,j<n:=fun j hj=>xw (by rw [hI];exact hj);rw [hI,hm];refine zb ?_;refine Yh rfl rfl rfl rfl rfl rfl rfl ?_;refine zb ?_;rw [zbo];refine FW.loop (fun x:Nat×List (Int×Int)=>⟨[(0,.list 8 (l.map OpV.fv)),(3,.ptr 100 0 0 0),(12,.omap 105 0),(102,.own 101 0 0 m),(103,.int .i64 m),(104,.int .i64 x.1)],[(100,⟨0,.hrow,71,4,[[.list 8 (l.map OpV.fv),.own 101 0 0 m,.omap 102 0,.own 103 0 0 n]]⟩),(101,⟨0,.own,3,1,I.map yp⟩),(102,⟨0,.mapo,68,0,yH l n⟩),(103,⟨0,.hrow,67,1,(List.range n).map fun q=>[VU (I.take x.1) q]⟩),(105,⟨0,.mapo,67,0,(x.2).map zhm⟩)]++(YM 200++Ud 1000 n (Va l (I.take x.1)))⟩) (fun x=>x.1≤m∧(∀ p∈x.2,I64 p.1)∧∀ c,zat x.2 c=((Xs l (I.take x.1) c).getD 0:Nat)∧(x.2.any fun p=>decide (p.1=c))=(Xs l (I.take x.1) c).isSome) (fun x=>m - x.1) (0,[]) ⟨Nat.zero_le _,fun p hp=>(by cases hp),fun c=>⟨rfl,rfl⟩⟩ ?_ ?_
 ·exact (FLe.toH (i:=103) rfl).trans (FLe.convN [⟨100,some 100,0,⟨0,.hrow,71,4,[[.list 8 (l.map OpV.fv),.own 101 0 0 m,.omap 102 0,.own 103 0 0 n]]⟩⟩,⟨101,some 101,0,⟨0,.own,3,1,I.map yp⟩⟩,⟨102,some 102,0,⟨0,.mapo,68,0,yH l n⟩⟩,⟨103,some 103,0,⟨0,.hrow,67,1,(List.range n).map fun q=>[VU ([]) q]⟩⟩,⟨105,some 98,1,⟨0,.mapo,67,0,([]).map zhm⟩⟩] 1000 n (Va l []) rfl (by unfold zh;omega) rfl zc zc (by repeat (first|exact Low.nil|exact Low.fam rfl (by unfold zh;omega)|refine Low.cons rfl ?_)) (fun j _=>⟨rfl,rfl⟩) (.oldK rfl (WZ.cons (.cons (.plain rfl rfl) (.cons (.own (.tail _ (.head _)) rfl rfl rfl) (.cons (.omap (.tail _ (.tail _ (.head _))) rfl) (.cons (.own (.tail _ (.tail _ (.tail _ (.head _)))) rfl rfl rfl) .nil)))) rfl WZ.nil) (.old rfl zg rfl (.old rfl zg rfl (.oldH rfl (US.of fun q hq=>.plain rfl rfl) (.old rfl zg rfl .nil))))) zd)
 rintro ⟨j,A⟩ ⟨hj,hAk,hA⟩;dsimp only at hj hAk hA ⊢;refine zb ?_;refine FW.cond rfl (fun h=>?_) (fun h=>?_)
 ·have hlt:j<m:=by simpa using h
  clear h;have hltI:j<I.length:=by omega
  obtain ⟨i,hi⟩:∃ i,nth I j=i:=⟨_,rfl⟩
  have hin2:i<n:=by rw [← hi];exact hIn _ (zy hltI)
  have htk:I.take (j+1)=I.take j++[i]:=by rw [List.take_succ_eq_append_getElem hltI,← nth_eq hltI,hi]
  obtain ⟨X,hX⟩:∃ X,I.take j=X:=⟨_,rfl⟩
  have hXa:X.Pairwise (· < ·):=by rw [← hX];exact hIa.sublist (List.take_sublist _ _)
  have hXi:∀ k∈X,k<i:=by
   have h2:(X++[i]).Pairwise (· < ·):=by rw [← hX,← htk];exact hIa.sublist (List.take_sublist _ _)
   exact fun k hk=>(List.pairwise_append.1 h2).2.2 k hk i zc
  have hXn:∀ k∈X,k<n:=fun k hk=>by have:=hXi k hk;omega
  rw [hX] at hA htk ⊢;have ho:=hin _ (zy (show i<l.length by omega));have hAp:=hA (nth l i).p;have hA' : ∀ c,zat (zer A (nth l i).p (i:Int)) c=((Xs l (X++[i]) c).getD 0:Nat)∧((zer A (nth l i).p (i:Int)).any fun p=>decide (p.1=c))=(Xs l (X++[i]) c).isSome:=fun c=>by
   rw [zi0,zex,zhl];by_cases hc:(nth l i).p=c
   ·rw [if_pos hc,if_pos hc,decide_eq_true hc];exact ⟨rfl,by simp⟩
   ·rw [if_neg hc,if_neg hc,decide_eq_false hc,Bool.false_or];exact hA c
  have hlk:=zcp (c:=(nth l i).p) A;rw [hAp.1,hAp.2] at hlk;refine zb ?_;rw [hi];skip;refine Yh rfl rfl rfl rfl rfl rfl rfl ?_;refine zb ?_;rw [VE,zoJ];refine XL (e:=3) xz (zdq hAk) (Zw ho.1) hlk rfl rfl zg rfl rfl rfl rfl rfl rfl ?_;cases hlp:Xs l X (nth l i).p with
  | none=>
   refine zb ?_;refine Yi xz (zdq hAk) (Zw ho.1) (zdp (c:=(nth l i).p) (v:=(i:Int)) A) rfl rfl rfl rfl rfl rfl rfl ?_;refine zb ?_;refine ⟨(j+1,zer A (nth l i).p i),⟨by show j+1≤m;omega,?_,?_⟩,by show m - (j+1)<m - j;omega,?_⟩
   ·exact zey (by simpa using ho.1) hAk
   ·dsimp only;rw [htk];exact fun c=>hA' c
   ·dsimp only;rw [htk];have hE:∀ q∈X,e3 l (X++[i]) q=e3 l X q:=fun q hq=>by rw [zgz hXa hXi hq,hlp,if_neg zc]
    refine FLe.convS [⟨100,some 100,0,⟨0,.hrow,71,4,[[.list 8 (l.map OpV.fv),.own 101 0 0 m,.omap 102 0,.own 103 0 0 n]]⟩⟩,⟨101,some 101,0,⟨0,.own,3,1,I.map yp⟩⟩,⟨102,some 102,0,⟨0,.mapo,68,0,yH l n⟩⟩,⟨103,some 103,0,⟨0,.hrow,67,1,(List.range n).map fun q=>[VU (X++[i]) q]⟩⟩,⟨105,some 105,0,⟨0,.mapo,67,0,(zer A (nth l i).p i).map zhm⟩⟩] 1000 n i (some 113) (fun q=>if q=i then 1 else 0) (Va l (X++[i])) rfl (by unfold zh;omega) rfl zc zc zc (by repeat (first|exact Low.nil|exact Low.fam rfl (by unfold zh;omega)|refine Low.cons rfl ?_)) ?_ ?_ zd
    ·intro q hq;by_cases hqi:q=i
     ·subst hqi;rw [if_pos rfl,if_pos rfl];refine .inr ⟨113,rfl,?_,?_⟩
      ·unfold Va;rw [if_pos zc,zkr hXi];rfl
      ·unfold Va;rw [if_pos zc];rfl
     ·rw [if_neg hqi,if_neg hqi];refine .inr ⟨_,rfl,(ye (C:=[(105,_),(103,_),(113,_),(100,_),(101,_),(102,_),(103,_),(105,_)]) rfl zg hq).trans ?_,?_⟩
      ·unfold Va;by_cases hqX:q∈X
       ·rw [if_pos hqX,if_pos (List.mem_append_left _ hqX),hE q hqX]
       ·rw [if_neg hqX,if_neg (by simp [hqX,hqi])]
      ·unfold Va;split <;> rfl
    ·refine (.oldK rfl (WZ.cons (.cons (.plain rfl rfl) (.cons (.own (.tail _ (.head _)) rfl rfl rfl) (.cons (.omap (.tail _ (.tail _ (.head _))) rfl) (.cons (.own (.tail _ (.tail _ (.tail _ (.head _)))) rfl rfl rfl) .nil)))) rfl WZ.nil) (.old rfl zg rfl (.old rfl zg rfl (.oldH rfl (US.of fun q hq=>?_) (.old rfl zg rfl .nil)))));have hmm:=yG (B:=1000) (s:=fun q=>if q=i then some 113 else some (1000+q)) (vo:=fun q=>if q=i then 1 else 0) (f:=Va l (X++[i])) hq;unfold VU;unfold Va at hmm;by_cases hqi:q=i
     ·subst hqi;rw [if_pos rfl,if_pos rfl,if_pos zc] at hmm;rw [if_pos rfl,if_pos zc];exact .omap (List.mem_append_right _ hmm) rfl
     ·rw [if_neg hqi,if_neg hqi] at hmm;rw [if_neg hqi];by_cases hqX:q∈X
      ·rw [if_pos (List.mem_append_left _ hqX)] at hmm;rw [if_pos hqX,if_pos (List.mem_append_left _ hqX)];exact .omap (List.mem_append_right _ hmm) rfl
      ·rw [if_neg hqX,if_neg (by simp [hqX,hqi])];exact .plain rfl rfl
  | some k=>
   obtain ⟨hkX,hkp⟩:=Wd hlp;have hki:k<i:=hXi k hkX;have hkn:k<n:=hXn k hkX;have hek:e3 l X k=[]:=by unfold e3;rw [zbf hXa hlp];rfl
   refine zb ?_;refine zp.le (s':=⟨[(0,.list 8 (l.map OpV.fv)),(3,.ptr 100 0 0 0),(12,.omap 105 0),(14,.int .i64 i),(15,.int .i64 k),(102,.own 101 0 0 m),(103,.int .i64 m),(104,.int .i64 j),(128,.ptr 100 0 0 3)],[(100,⟨0,.hrow,71,4,[[.list 8 (l.map OpV.fv),.own 101 0 0 m,.omap 102 0,.own 103 0 0 n]]⟩),(101,⟨0,.own,3,1,I.map yp⟩),(102,⟨0,.mapo,68,0,yH l n⟩),(103,⟨0,.hrow,67,1,(List.range n).map fun q=>[if q=k then .omap 150 0 else VU (X++[i]) q]⟩),(105,⟨0,.mapo,67,0,(A).map zhm⟩),(150,⟨0,.mapo,67,0,[]⟩)]++(YM 200++Ud 1000 n (fun q=>if q=k then (⟨0,.own,67,1,[]⟩:zt) else if q=i then ⟨0,.mapo,67,0,[]⟩ else Va l X q))⟩) ?_ ?_
   ·refine Yh rfl rfl rfl rfl rfl rfl rfl ?_;refine zb ?_;refine Wl rfl rfl rfl rfl (xG n k _ hkn) rfl rfl ?_;rw [if_pos rfl];refine zb ?_;refine Yi xz (fun row hr=>by cases hr) (Zw (by unfold I64;omega)) (.inr ⟨fun row hr=>(by cases hr),rfl⟩) rfl rfl rfl rfl rfl rfl rfl ?_;refine zb ?_;refine Yi xz (zdq hAk) (Zw ho.1) (zdp (c:=(nth l i).p) (v:=(i:Int)) A) rfl rfl rfl rfl rfl rfl rfl ?_;refine zb ?_;refine ⟨(j+1,zer A (nth l i).p i),⟨by show j+1≤m;omega,zey (by simpa using ho.1) hAk,by dsimp only;rw [htk];exact fun c=>hA' c⟩,by show m - (j+1)<m - j;omega,?_⟩;dsimp only;rw [htk];refine FLe.convS [⟨100,some 100,0,⟨0,.hrow,71,4,[[.list 8 (l.map OpV.fv),.own 101 0 0 m,.omap 102 0,.own 103 0 0 n]]⟩⟩,⟨101,some 101,0,⟨0,.own,3,1,I.map yp⟩⟩,⟨102,some 102,0,⟨0,.mapo,68,0,yH l n⟩⟩,⟨103,some 103,0,⟨0,.hrow,67,1,(List.range n).map fun q=>[VU (X++[i]) q]⟩⟩,⟨105,some 105,0,⟨0,.mapo,67,0,(zer A (nth l i).p i).map zhm⟩⟩] 1000 n k (some 150) (fun _=>0) (Va l (X++[i])) rfl (by unfold zh;omega) rfl zc zc zc (by repeat (first|exact Low.nil|exact Low.fam rfl (by unfold zh;omega)|refine Low.cons rfl ?_)) ?_ ?_ zd
    ·intro q hq;by_cases hqk:q=k
     ·subst hqk;rw [if_pos rfl];refine .inr ⟨150,rfl,?_,?_⟩
      ·unfold Va;rw [if_pos (List.mem_append_left _ hkX),zgz hXa hXi hkX,hlp,if_pos rfl,hek];rfl
      ·unfold Va;rw [if_pos (List.mem_append_left _ hkX)];rfl
     ·rw [if_neg hqk];refine .inr ⟨_,rfl,(ye (C:=[(105,_),(150,_),(100,_),(101,_),(102,_),(103,_),(105,_),(150,_)]) rfl zg hq).trans ?_,?_⟩
      ·rw [if_neg hqk];by_cases hqi:q=i
       ·subst hqi;rw [if_pos rfl];unfold Va;rw [if_pos zc,zkr hXi]
       ·rw [if_neg hqi];unfold Va;by_cases hqX:q∈X
        ·rw [if_pos hqX,if_pos (List.mem_append_left _ hqX),zgz hXa hXi hqX,hlp,if_neg (fun e=>hqk (by injection e with e;exact e.symm))]
        ·rw [if_neg hqX,if_neg (by simp [hqX,hqi])]
      ·unfold Va;split <;> rfl
    ·refine (.oldK rfl (WZ.cons (.cons (.plain rfl rfl) (.cons (.own (.tail _ (.head _)) rfl rfl rfl) (.cons (.omap (.tail _ (.tail _ (.head _))) rfl) (.cons (.own (.tail _ (.tail _ (.tail _ (.head _)))) rfl rfl rfl) .nil)))) rfl WZ.nil) (.old rfl zg rfl (.old rfl zg rfl (.oldH rfl (US.of fun q hq=>?_) (.old rfl zg rfl .nil)))));have hmm:=yG (B:=1000) (s:=fun q=>if q=k then some 150 else some (1000+q)) (vo:=fun _=>0) (f:=Va l (X++[i])) hq;unfold Va at hmm;by_cases hqk:q=k
     ·subst hqk;rw [if_pos rfl,if_pos (List.mem_append_left _ hkX)] at hmm;unfold VU;rw [if_pos rfl,if_pos (List.mem_append_left _ hkX)];exact .omap (List.mem_append_right _ hmm) rfl
     ·rw [if_neg hqk] at hmm;rw [if_neg hqk];unfold VU;by_cases hqX:q∈X++[i]
      ·rw [if_pos hqX] at hmm;rw [if_pos hqX];exact .omap (List.mem_append_right _ hmm) rfl
      ·rw [if_neg hqX];exact .plain rfl rfl
   ·refine FLe.trans (FLe.convS (t':=[(0,.list 8 (l.map OpV.fv)),(3,.ptr 100 0 0 0),(12,.omap 105 0),(14,.int .i64 i),(15,.int .i64 k),(102,.own 101 0 0 m),(103,.int .i64 m),(104,.int .i64 j),(128,.ptr 100 0 0 3)]) [⟨100,some 100,0,⟨0,.hrow,71,4,[[.list 8 (l.map OpV.fv),.own 101 0 0 m,.omap 102 0,.own 103 0 0 n]]⟩⟩,⟨101,some 101,0,⟨0,.own,3,1,I.map yp⟩⟩,⟨102,some 102,0,⟨0,.mapo,68,0,yH l n⟩⟩,⟨103,some 103,0,⟨0,.hrow,67,1,(List.range n).map fun q=>[VU (X++[i]) q]⟩⟩,⟨105,some 105,0,⟨0,.mapo,67,0,(A).map zhm⟩⟩] 1000 n i (some 113) (fun q=>if q=i then 1 else 0) (fun q=>if q=i then (⟨0,.mapo,67,0,[]⟩:zt) else Va l X q) rfl (by unfold zh;omega) rfl zc zc zc (by repeat (first|exact Low.nil|exact Low.fam rfl (by unfold zh;omega)|refine Low.cons rfl ?_)) ?_ ?_ zd) (FLe.convS [⟨100,some 100,0,⟨0,.hrow,71,4,[[.list 8 (l.map OpV.fv),.own 101 0 0 m,.omap 102 0,.own 103 0 0 n]]⟩⟩,⟨101,some 101,0,⟨0,.own,3,1,I.map yp⟩⟩,⟨102,some 102,0,⟨0,.mapo,68,0,yH l n⟩⟩,⟨103,some 103,0,⟨0,.hrow,67,1,(List.range n).map fun q=>[if q=k then .omap 150 0 else VU (X++[i]) q]⟩⟩,⟨105,some 105,0,⟨0,.mapo,67,0,(A).map zhm⟩⟩,⟨150,some (1000+k),0,⟨0,.mapo,67,0,[]⟩⟩] 1000 n k none (fun _=>0) (fun q=>if q=k then (⟨0,.own,67,1,[]⟩:zt) else if q=i then ⟨0,.mapo,67,0,[]⟩ else Va l X q) rfl (by unfold zh;omega) rfl zc XT XT (by repeat (first|exact Low.nil|exact Low.fam rfl (by unfold zh;omega)|refine Low.cons rfl ?_)) ?_ ?_ zd)
    ·intro q hq;by_cases hqi:q=i
     ·subst hqi;rw [if_pos rfl,if_pos rfl,if_pos rfl];exact .inr ⟨113,rfl,rfl,rfl⟩
     ·rw [if_neg hqi,if_neg hqi,if_neg hqi];refine .inr ⟨_,rfl,(ye (C:=[(103,_),(113,_),(100,_),(101,_),(102,_),(103,_),(105,_)]) rfl zg hq).trans (by unfold Va;split <;> rfl),?_⟩;unfold Va;split <;> rfl
    ·refine (.oldK rfl (WZ.cons (.cons (.plain rfl rfl) (.cons (.own (.tail _ (.head _)) rfl rfl rfl) (.cons (.omap (.tail _ (.tail _ (.head _))) rfl) (.cons (.own (.tail _ (.tail _ (.tail _ (.head _)))) rfl rfl rfl) .nil)))) rfl WZ.nil) (.old rfl zg rfl (.old rfl zg rfl (.oldH rfl (US.of fun q hq=>?_) (.old rfl zg rfl .nil)))));have hmm:=yG (B:=1000) (s:=fun q=>if q=i then some 113 else some (1000+q)) (vo:=fun q=>if q=i then 1 else 0) (f:=(fun q=>if q=i then (⟨0,.mapo,67,0,[]⟩:zt) else Va l X q)) hq;unfold VU;unfold Va at hmm;by_cases hqi:q=i
     ·subst hqi;rw [if_pos rfl,if_pos rfl,if_pos rfl] at hmm;rw [if_pos rfl,if_pos zc];exact .omap (List.mem_append_right _ hmm) rfl
     ·rw [if_neg hqi,if_neg hqi,if_neg hqi] at hmm;rw [if_neg hqi];by_cases hqX:q∈X
      ·rw [if_pos hqX] at hmm;rw [if_pos hqX,if_pos (List.mem_append_left _ hqX)];exact .omap (List.mem_append_right _ hmm) rfl
      ·rw [if_neg hqX,if_neg (by simp [hqX,hqi])];exact .plain rfl rfl
    ·intro q hq;by_cases hqk:q=k
     ·rw [if_pos hqk,if_pos hqk];exact .inl ⟨rfl,rfl,rfl⟩
     ·rw [if_neg hqk,if_neg hqk];refine .inr ⟨_,rfl,(ye (C:=[(100,_),(101,_),(102,_),(103,_),(105,_)]) rfl zg hq).trans (by split;(· rfl);(· unfold Va;split <;> rfl)),?_⟩;unfold Va;split
      ·rfl
      ·split <;> rfl
    ·refine (.oldK rfl (WZ.cons (.cons (.plain rfl rfl) (.cons (.own (.tail _ (.head _)) rfl rfl rfl) (.cons (.omap (.tail _ (.tail _ (.head _))) rfl) (.cons (.own (.tail _ (.tail _ (.tail _ (.head _)))) rfl rfl rfl) .nil)))) rfl WZ.nil) (.old rfl zg rfl (.old rfl zg rfl (.oldH rfl (US.of fun q hq=>?_) (.old rfl zg rfl (.old ((ye (C:=[(100,_),(101,_),(102,_),(103,_),(105,_)]) rfl zg hkn).trans (by rw [if_neg za];unfold Va;rw [if_pos hkX,hek])) zg rfl .nil))))));have hmm:=yG (B:=1000) (s:=fun q=>if q=k then none else some (1000+q)) (vo:=fun _=>0) (f:=(fun q=>if q=k then (⟨0,.own,67,1,[]⟩:zt) else if q=i then ⟨0,.mapo,67,0,[]⟩ else Va l X q)) hq;by_cases hqk:q=k
     ·subst hqk;unfold VU;rw [if_pos rfl,if_pos (List.mem_append_left _ hkX)];exact .omap (.tail _ (.tail _ (.tail _ (.tail _ (.tail _ (.head _)))))) rfl
     ·rw [if_neg hqk,if_neg hqk] at hmm;rw [if_neg hqk];unfold VU;by_cases hqX:q∈X++[i]
      ·rw [if_pos hqX];refine .omap (List.mem_append_right _ hmm) ?_;split
       ·rfl
       ·unfold Va;split <;> rfl
      ·rw [if_neg hqX];exact .plain rfl rfl
 ·have hje:j=m:=by simp at h;omega
  subst hje;clear h;rw [show I.take j=I by rw [← hm,List.take_length]] at hA ⊢;clear hA hAk;have hIm:∀ q,q<l.length→zJ l q=true→q∈I:=fun q hq h1=>by
   rw [← hI];exact List.mem_filter.2 ⟨by simpa using (show q<n by omega),h1⟩
  obtain ⟨m,hmj⟩:∃ m,m=j:=⟨_,rfl⟩
  rw [← hmj] at hm hml ⊢;clear hmj hj j;refine zb ?_;refine Yh rfl rfl rfl rfl rfl rfl rfl ?_;refine zb ?_;refine FW.loop (fun j:Nat=>⟨[(0,.list 8 (l.map OpV.fv)),(3,.ptr 100 0 0 0),(145,.own 101 0 0 m),(146,.int .i64 m),(147,.int .i64 j)],[(100,⟨0,.hrow,71,4,[[.list 8 (l.map OpV.fv),.own 101 0 0 m,.omap 102 0,.own 103 0 0 n]]⟩),(101,⟨0,.own,3,1,I.map yp⟩),(102,⟨0,.mapo,68,0,yH l n⟩),(103,⟨0,.hrow,67,1,(List.range n).map fun q=>[VU I q]⟩)]++(YM 200++Ud 1000 n (XZ l I (I.take j)))⟩) (fun j=>j≤m) (fun j=>m - j) 0 (Nat.zero_le _) ?_ ?_
  ·refine FLe.convK [⟨100,some 100,0,⟨0,.hrow,71,4,[[.list 8 (l.map OpV.fv),.own 101 0 0 m,.omap 102 0,.own 103 0 0 n]]⟩⟩,⟨101,some 101,0,⟨0,.own,3,1,I.map yp⟩⟩,⟨102,some 102,0,⟨0,.mapo,68,0,yH l n⟩⟩,⟨103,some 103,0,⟨0,.hrow,67,1,(List.range n).map fun q=>[VU I q]⟩⟩] 1000 n (fun _=>0) (XZ l I []) rfl (by unfold zh;omega) rfl zc zc zc (by repeat (first|exact Low.nil|exact Low.fam rfl (by unfold zh;omega)|refine Low.cons rfl ?_)) (fun q hq=>.inr ⟨_,rfl,(ye (C:=[(100,_),(101,_),(102,_),(103,_),(105,_)]) rfl zg hq).trans ?_,?_⟩) (.oldK rfl (WZ.cons (.cons (.plain rfl rfl) (.cons (.own (.tail _ (.head _)) rfl rfl rfl) (.cons (.omap (.tail _ (.tail _ (.head _))) rfl) (.cons (.own (.tail _ (.tail _ (.tail _ (.head _)))) rfl rfl rfl) .nil)))) rfl WZ.nil) (.old rfl zg rfl (.old rfl zg rfl (.oldH rfl (US.of fun q hq=>?_) .nil)))) zd
   ·unfold Va XZ;split
    ·rw [zoE]
    ·rfl
   ·unfold XZ;split <;> rfl
   ·have hmm:=yG (B:=1000) (s:=fun q=>some (1000+q)) (vo:=fun _=>0) (f:=XZ l I []) hq;unfold XZ at hmm;unfold VU;by_cases hqX:q∈I
    ·rw [if_pos hqX] at hmm ⊢;exact .omap (List.mem_append_right _ hmm) rfl
    ·rw [if_neg hqX];exact .plain rfl rfl
  intro j hj;refine zb ?_;refine FW.cond rfl (fun h=>?_) (fun h=>?_)
  ·have hlt:j<m:=by simpa using h
   clear h;have hltI:j<I.length:=by omega
   obtain ⟨i,hi⟩:∃ i,nth I j=i:=⟨_,rfl⟩
   have hin2:i<n:=by rw [← hi];exact hIn _ (zy hltI)
   have htk:I.take (j+1)=I.take j++[i]:=by rw [List.take_succ_eq_append_getElem hltI,← nth_eq hltI,hi]
   obtain ⟨Y,hY⟩:∃ Y,I.take j=Y:=⟨_,rfl⟩
   have hYi:∀ k∈Y,k<i:=by
    have h2:(Y++[i]).Pairwise (· < ·):=by rw [← hY,← htk];exact hIa.sublist (List.take_sublist _ _)
    exact fun k hk=>(List.pairwise_append.1 h2).2.2 k hk i zc
   have hYn:∀ k∈Y,k<n:=fun k hk=>by have:=hYi k hk;omega
   rw [hY] at htk ⊢;have hfr:=zaV l (.list 1 (I.map yp)) (zor l I Y n) rfl rfl i za za hin;refine zb ?_;rw [hi];skip;refine zlH hfr (.cons rfl (YC.ptr1 rfl rfl (.cons (.plain rfl) rfl (.cons (YC.ownP rfl (by simpa using hm) (fun e he=>by obtain ⟨q,_,rfl⟩:=List.mem_map.1 he;rfl) (fun g hg=>by obtain ⟨e,he,hg⟩:=List.mem_flatten.1 hg;obtain ⟨q,_,rfl⟩:=List.mem_map.1 he;rw [List.mem_singleton.1 hg];rfl)) rfl (.cons ?_ rfl (.cons ?_ rfl .nil))))) (.cons rfl (.plain rfl) .nil)) rfl rfl ?_
   ·rw [hn];exact YC.omapP rfl
   ·refine YC.ownR rfl fun q hq=>?_;unfold VU zpb;by_cases hqX:q∈I
    ·rw [if_pos hqX,if_pos hqX];exact ⟨YC.omapP ((ye (C:=[(100,_),(101,_),(102,_),(103,_)]) rfl zg hq).trans (by unfold XZ;rw [if_pos hqX])),rfl⟩
    ·rw [if_neg hqX,if_neg hqX];exact ⟨.plain rfl,rfl⟩
   unfold ziG;cases hfc:yU l i with
   | none=>
    refine zb ?_;refine ⟨j+1,by omega,by omega,?_⟩;rw [htk];refine FLe.convK [⟨100,some 100,0,⟨0,.hrow,71,4,[[.list 8 (l.map OpV.fv),.own 101 0 0 m,.omap 102 0,.own 103 0 0 n]]⟩⟩,⟨101,some 101,0,⟨0,.own,3,1,I.map yp⟩⟩,⟨102,some 102,0,⟨0,.mapo,68,0,yH l n⟩⟩,⟨103,some 103,0,⟨0,.hrow,67,1,(List.range n).map fun q=>[VU I q]⟩⟩] 1000 n (fun _=>0) (XZ l I (Y++[i])) rfl (by unfold zh;omega) rfl zc zc zc (by repeat (first|exact Low.nil|exact Low.fam rfl (by unfold zh;omega)|refine Low.cons rfl ?_)) (fun q hq=>.inr ⟨_,rfl,(ye (C:=[(100,_),(101,_),(102,_),(103,_)]) rfl zg hq).trans ?_,?_⟩) (.oldK rfl (WZ.cons (.cons (.plain rfl rfl) (.cons (.own (.tail _ (.head _)) rfl rfl rfl) (.cons (.omap (.tail _ (.tail _ (.head _))) rfl) (.cons (.own (.tail _ (.tail _ (.tail _ (.head _)))) rfl rfl rfl) .nil)))) rfl WZ.nil) (.old rfl zg rfl (.old rfl zg rfl (.oldH rfl (US.of fun q hq=>?_) .nil)))) zd
    ·unfold XZ;rw [zaI,if_neg (show ¬ (yU l i=some q∧yi l I q≠some i) from fun e=>by have:=e.1;rw [hfc] at this;cases this),List.append_nil];split <;> rfl
    ·unfold XZ;split <;> rfl
    ·have hmm:=yG (B:=1000) (s:=fun q=>some (1000+q)) (vo:=fun _=>0) (f:=XZ l I (Y++[i])) hq;unfold XZ at hmm;unfold VU;by_cases hqX:q∈I
     ·rw [if_pos hqX] at hmm ⊢;exact .omap (List.mem_append_right _ hmm) rfl
     ·rw [if_neg hqX];exact .plain rfl rfl
   | some w=>
    have hfw:w<l.length∧zJ l w=true:=by
     unfold yU at hfc;split at hfc
     ·cases hfc
     ·exact ⟨(ZD hfc).1,(ZD hfc).2.2⟩
    have hwI:w∈I:=hIm w hfw.1 hfw.2;have hwn:w<n:=by omega
    refine zb ?_;refine zp.le (s':=⟨[(0,.list 8 (l.map OpV.fv)),(3,.ptr 100 0 0 0),(18,.int .i64 i),(19,.int .i64 w),(145,.own 101 0 0 m),(146,.int .i64 m),(147,.int .i64 j),(158,.bool true),(161,.ptr 100 0 0 3)],[(100,⟨0,.hrow,71,4,[[.list 8 (l.map OpV.fv),.own 101 0 0 m,.omap 102 0,.own 103 0 0 n]]⟩),(101,⟨0,.own,3,1,I.map yp⟩),(102,⟨0,.mapo,68,0,yH l n⟩),(103,⟨0,.hrow,67,1,(List.range n).map fun q=>[if q=w then .omap 150 0 else VU I q]⟩),(150,⟨0,.mapo,67,0,e4 l I Y w⟩)]++(YM 200++Ud 1000 n (fun q=>if q=w then (⟨0,.own,67,1,[]⟩:zt) else XZ l I Y q))⟩) ?_ ?_
    ·refine Yh rfl rfl rfl rfl rfl rfl ⟨_,_,rfl,rfl,rfl⟩ ?_;refine zb ?_;refine Wl rfl rfl rfl rfl (xG n w _ hwn) rfl ⟨_,_,rfl,rfl,rfl⟩ ?_;rw [if_pos rfl];refine zb ?_;refine zfZ (e:=3) xz (znr hIn hYn za) (Zw (by unfold I64;omega)) (znM l hYi) rfl rfl zg rfl rfl rfl rfl rfl ⟨_,_,rfl,rfl,rfl⟩ ?_;refine zb ?_;refine FW.cond rfl (fun h=>?_) (fun h=>?_)
     ·have hnx:yi l I w≠some i:=fun e=>by rw [e] at h;simp at h
      refine zb ?_;refine Yh rfl rfl rfl rfl rfl rfl rfl ?_;refine zb ?_;refine Wl rfl rfl rfl rfl (xG n w _ hwn) rfl rfl ?_;rw [if_pos rfl];refine zb ?_;refine Yi xz (znr hIn hYn za) (Zw (by unfold I64;omega)) (.inr ⟨zks hnx hYi,rfl⟩) rfl rfl rfl rfl rfl rfl rfl ?_;refine zb ?_;refine ⟨j+1,by omega,by omega,?_⟩;rw [htk];refine FLe.convS [⟨100,some 100,0,⟨0,.hrow,71,4,[[.list 8 (l.map OpV.fv),.own 101 0 0 m,.omap 102 0,.own 103 0 0 n]]⟩⟩,⟨101,some 101,0,⟨0,.own,3,1,I.map yp⟩⟩,⟨102,some 102,0,⟨0,.mapo,68,0,yH l n⟩⟩,⟨103,some 103,0,⟨0,.hrow,67,1,(List.range n).map fun q=>[VU I q]⟩⟩] 1000 n w (some 150) (fun _=>0) (XZ l I (Y++[i])) rfl (by unfold zh;omega) rfl zc zc zc (by repeat (first|exact Low.nil|exact Low.fam rfl (by unfold zh;omega)|refine Low.cons rfl ?_)) ?_ ?_ zd
      ·intro q hq;by_cases hqk:q=w
       ·subst hqk;rw [if_pos rfl];refine .inr ⟨150,rfl,?_,?_⟩
        ·unfold XZ;rw [if_pos hwI,zaI,if_pos (show yU l i=some q∧yi l I q≠some i from ⟨hfc,hnx⟩)];rfl
        ·unfold XZ;rw [if_pos hwI];rfl
       ·rw [if_neg hqk];refine .inr ⟨_,rfl,(ye (C:=[(150,_),(100,_),(101,_),(102,_),(103,_),(150,_)]) rfl zg hq).trans ?_,?_⟩
        ·rw [if_neg hqk];unfold XZ;rw [zaI,if_neg (show ¬ (yU l i=some q∧yi l I q≠some i) from fun e=>hqk (by have:=e.1;rw [hfc] at this;injection this with this;exact this.symm)),List.append_nil];split <;> rfl
        ·unfold XZ;split <;> rfl
      ·refine (.oldK rfl (WZ.cons (.cons (.plain rfl rfl) (.cons (.own (.tail _ (.head _)) rfl rfl rfl) (.cons (.omap (.tail _ (.tail _ (.head _))) rfl) (.cons (.own (.tail _ (.tail _ (.tail _ (.head _)))) rfl rfl rfl) .nil)))) rfl WZ.nil) (.old rfl zg rfl (.old rfl zg rfl (.oldH rfl (US.of fun q hq=>?_) .nil))));have hmm:=yG (B:=1000) (s:=fun q=>if q=w then some 150 else some (1000+q)) (vo:=fun _=>0) (f:=XZ l I (Y++[i])) hq;unfold XZ at hmm;unfold VU;by_cases hqX:q∈I
       ·by_cases hqk:q=w
        ·rw [if_pos hqk,if_pos hqX] at hmm;rw [if_pos hqk,if_pos hqX];exact .omap (List.mem_append_right _ hmm) rfl
        ·rw [if_neg hqk,if_pos hqX] at hmm;rw [if_neg hqk,if_pos hqX];exact .omap (List.mem_append_right _ hmm) rfl
       ·rw [if_neg (fun e=>hqX (by rw [e];exact hwI)),if_neg hqX];exact .plain rfl rfl
     ·have hnx:yi l I w=some i:=by
       by_cases e:yi l I w=some i
       ·exact e
       ·rw [if_neg e] at h;simp at h
      refine zb ?_;refine ⟨j+1,by omega,by omega,?_⟩;rw [htk];refine FLe.convS [⟨100,some 100,0,⟨0,.hrow,71,4,[[.list 8 (l.map OpV.fv),.own 101 0 0 m,.omap 102 0,.own 103 0 0 n]]⟩⟩,⟨101,some 101,0,⟨0,.own,3,1,I.map yp⟩⟩,⟨102,some 102,0,⟨0,.mapo,68,0,yH l n⟩⟩,⟨103,some 103,0,⟨0,.hrow,67,1,(List.range n).map fun q=>[VU I q]⟩⟩] 1000 n w (some 150) (fun _=>0) (XZ l I (Y++[i])) rfl (by unfold zh;omega) rfl zc zc zc (by repeat (first|exact Low.nil|exact Low.fam rfl (by unfold zh;omega)|refine Low.cons rfl ?_)) ?_ ?_ zd
      ·intro q hq;by_cases hqk:q=w
       ·subst hqk;rw [if_pos rfl];refine .inr ⟨150,rfl,?_,?_⟩
        ·unfold XZ;rw [if_pos hwI,zaI,if_neg (show ¬ (yU l i=some q∧yi l I q≠some i) from fun e=>e.2 hnx),List.append_nil];rfl
        ·unfold XZ;rw [if_pos hwI];rfl
       ·rw [if_neg hqk];refine .inr ⟨_,rfl,(ye (C:=[(100,_),(101,_),(102,_),(103,_),(150,_)]) rfl zg hq).trans ?_,?_⟩
        ·rw [if_neg hqk];unfold XZ;rw [zaI,if_neg (show ¬ (yU l i=some q∧yi l I q≠some i) from fun e=>hqk (by have:=e.1;rw [hfc] at this;injection this with this;exact this.symm)),List.append_nil];split <;> rfl
        ·unfold XZ;split <;> rfl
      ·refine (.oldK rfl (WZ.cons (.cons (.plain rfl rfl) (.cons (.own (.tail _ (.head _)) rfl rfl rfl) (.cons (.omap (.tail _ (.tail _ (.head _))) rfl) (.cons (.own (.tail _ (.tail _ (.tail _ (.head _)))) rfl rfl rfl) .nil)))) rfl WZ.nil) (.old rfl zg rfl (.old rfl zg rfl (.oldH rfl (US.of fun q hq=>?_) .nil))));have hmm:=yG (B:=1000) (s:=fun q=>if q=w then some 150 else some (1000+q)) (vo:=fun _=>0) (f:=XZ l I (Y++[i])) hq;unfold XZ at hmm;unfold VU;by_cases hqX:q∈I
       ·by_cases hqk:q=w
        ·rw [if_pos hqk,if_pos hqX] at hmm;rw [if_pos hqk,if_pos hqX];exact .omap (List.mem_append_right _ hmm) rfl
        ·rw [if_neg hqk,if_pos hqX] at hmm;rw [if_neg hqk,if_pos hqX];exact .omap (List.mem_append_right _ hmm) rfl
       ·rw [if_neg (fun e=>hqX (by rw [e];exact hwI)),if_neg hqX];exact .plain rfl rfl
    ·refine FLe.convS [⟨100,some 100,0,⟨0,.hrow,71,4,[[.list 8 (l.map OpV.fv),.own 101 0 0 m,.omap 102 0,.own 103 0 0 n]]⟩⟩,⟨101,some 101,0,⟨0,.own,3,1,I.map yp⟩⟩,⟨102,some 102,0,⟨0,.mapo,68,0,yH l n⟩⟩,⟨103,some 103,0,⟨0,.hrow,67,1,(List.range n).map fun q=>[if q=w then .omap 150 0 else VU I q]⟩⟩,⟨150,some (1000+w),0,⟨0,.mapo,67,0,e4 l I Y w⟩⟩] 1000 n w none (fun _=>0) (fun q=>if q=w then (⟨0,.own,67,1,[]⟩:zt) else XZ l I Y q) rfl (by unfold zh;omega) rfl zc XT XT (by repeat (first|exact Low.nil|exact Low.fam rfl (by unfold zh;omega)|refine Low.cons rfl ?_)) ?_ ?_ zd
     ·intro q hq;by_cases hqk:q=w
      ·rw [if_pos hqk,if_pos hqk];exact .inl ⟨rfl,rfl,rfl⟩
      ·rw [if_neg hqk,if_neg hqk];refine .inr ⟨_,rfl,(ye (C:=[(100,_),(101,_),(102,_),(103,_)]) rfl zg hq).trans (by unfold XZ;split <;> rfl),?_⟩;unfold XZ;split <;> rfl
     ·refine (.oldK rfl (WZ.cons (.cons (.plain rfl rfl) (.cons (.own (.tail _ (.head _)) rfl rfl rfl) (.cons (.omap (.tail _ (.tail _ (.head _))) rfl) (.cons (.own (.tail _ (.tail _ (.tail _ (.head _)))) rfl rfl rfl) .nil)))) rfl WZ.nil) (.old rfl zg rfl (.old rfl zg rfl (.oldH rfl (US.of fun q hq=>?_) (.old ((ye (C:=[(100,_),(101,_),(102,_),(103,_)]) rfl zg hwn).trans (by unfold XZ;rw [if_pos hwI])) zg rfl .nil)))));have hmm:=yG (B:=1000) (s:=fun q=>if q=w then none else some (1000+q)) (vo:=fun _=>0) (f:=(fun q=>if q=w then (⟨0,.own,67,1,[]⟩:zt) else XZ l I Y q)) hq;by_cases hqk:q=w
      ·subst hqk;unfold VU;rw [if_pos rfl,if_pos hwI];exact .omap (.tail _ (.tail _ (.tail _ (.tail _ (.head _))))) rfl
      ·rw [if_neg hqk,if_neg hqk] at hmm;rw [if_neg hqk];unfold VU;by_cases hqX:q∈I
       ·rw [if_pos hqX];refine .omap (List.mem_append_right _ hmm) ?_;unfold XZ;split <;> rfl
       ·rw [if_neg hqX];exact .plain rfl rfl
  ·have hje:j=m:=by simp at h;omega
   subst hje;clear h;rw [show I.take j=I by rw [← hm,List.take_length]];refine zb ?_;have hRe:R=.eptr 4 [[.list 8 (l.map OpV.fv),.list 1 (I.map yp),.smap (yH l n),zor l I I n]] 0 0:=by
    rw [← hR];unfold zjt;rw [hn,hI]
   refine FW.le (s':=⟨[(2,R)],[]⟩) (FW.ret ⟨.inl rfl,.sh (.cons (.tmp 2 rfl (by rw [hRe];rfl)) .nil) rfl (by rw [hRe];rfl)⟩) ?_;refine FLe.freeze (Low.gh (by repeat (first|exact Low.nil|exact Low.fam rfl (by unfold zh;omega)|refine Low.cons rfl ?_))) (.cons rfl ?_ (by rw [hRe];rfl) .nil);rw [hRe];refine YC.ptr1 rfl rfl (.cons (.plain rfl) rfl (.cons (YC.ownP rfl (by simpa using hm) (fun e he=>by obtain ⟨q,_,rfl⟩:=List.mem_map.1 he;rfl) (fun g hg=>by obtain ⟨e,he,hg⟩:=List.mem_flatten.1 hg;obtain ⟨q,_,rfl⟩:=List.mem_map.1 he;rw [List.mem_singleton.1 hg];rfl)) rfl (.cons (YC.omapP rfl) rfl (.cons ?_ rfl .nil))));refine YC.ownR rfl fun q hq=>?_;unfold VU zpb;by_cases hqX:q∈I
   ·rw [if_pos hqX,if_pos hqX];exact ⟨YC.omapP ((ye (C:=[(100,_),(101,_),(102,_),(103,_)]) rfl zg hq).trans (by unfold XZ;rw [if_pos hqX])),rfl⟩
   ·rw [if_neg hqX,if_neg hqX];exact ⟨.plain rfl,rfl⟩
end Go.Proofs.Ytmnmakhpjgjdaaa
