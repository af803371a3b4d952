/-
  Some texts as one: KeyTwo, FmQt, FmFam, FmSucc.
-/
import Derived.Test.YtmnmakhpjgjdaaaZFmM
import Derived.Test.YtmnmakhpjgjdaaaZD
import Derived.DeepKeys4
import Derived.Maps.Keyed
import Derived.Test.YtmnmakhpjgjdaaaZFmDw
import Derived.Test.YtmnmakhpjgjdaaaZC
namespace Go.Proofs.Ytmnmakhpjgjdaaa
set_option linter.unusedVariables false
set_option maxHeartbeats 16000000
open Go.RowKit
theorem ziB {P:Program} {k i:TypeId} {fs:Array Field} (hu:P.underlying k=some (.struct fs)) (hf:fs.toList.map (fun f=>(f.type,f.offset))=[(i,0),(i,1)]) (hn:fs.all (·.name != "_")=true)
  (hi:P.underlying i=some (.int .i64)) (c1:P.cellsOf i=1) (c2:P.cellsOf k=2) (hk:P.keyType k=true) (n:Nat) (ht:P.types.size=n+1) {a b:Int} (ha:(Lit.int .i64 a).wf=true) (hb:(Lit.int .i64 b).wf=true) :
  ∃ l,keyOf P k (.agg #[.int .i64 a,.int .i64 b])=some l:=by
 have hfs:∃ f g,fs.toList=[f,g]∧f.type=i∧f.offset=0∧g.type=i∧g.offset=1:=by
  generalize fs.toList=l at hf
  rcases l with _|⟨f,_|⟨g,_|⟨h,t⟩⟩⟩ <;> simp at hf
  exact ⟨f,g,rfl,hf.1.1,hf.1.2,hf.2.1,hf.2.2⟩
 obtain ⟨f,g,hl,f1,f2,g1,g2⟩:=hfs
 have one:∀ x,(Lit.int .i64 x).wf=true→P.keyLits (n+1) i [.int .i64 x]=some [.int .i64 x]:=fun x hx=>by
  unfold Program.keyLits
  rw [hi]
  simp [hx]
 have two:P.keyLits (P.types.size+1) k [.int .i64 a,.int .i64 b]=some [.int .i64 a,.int .i64 b]:=by
  unfold Program.keyLits
  rw [hu]
  have hall:(fs.toList.all fun x=>x.name != "_")=true:=by
   rw [Array.all_toList];exact hn
  simp only
  rw [if_pos ⟨by rw [c2];rfl,by simpa using hn⟩,hl,ht]
  simp [f1,f2,g1,g2,c1,one a ha,one b hb]
 unfold keyOf
 rw [hu]
 refine ⟨.string (keyBytes [.int .i64 a,.int .i64 b]),?_⟩
 have hfm:(Value.agg #[.int .i64 a,.int .i64 b]).formed P k=true:=by simp [Value.formed,hu,c2]
 simp only [hk,hfm,Bool.and_self,if_true]
 rw [show (Value.agg #[.int .i64 a,.int .i64 b]).cells.toList=[.int .i64 a,.int .i64 b] from rfl,two]
 rfl
theorem zlA:laidOutB Try.prog=true:=by kernel_rfl
def zkV (P:Program) (k:TypeId):Array Field:=match P.underlying k with|some (.struct fs)=>fs|_=>#[]
def zc6 (a b:Int):FV:=.agg [.int .i64 a,.int .i64 b]
theorem zdX {a:Int} (h:I64 a):(Lit.int .i64 a).wf=true:=by
 have h1:IntKind.i64.min = -9223372036854775808:=by kernel_rfl
 have h2:IntKind.i64.max=9223372036854775807:=by kernel_rfl
 unfold I64 at h
 simp [Lit.wf,h1,h2,h]
/-! the same look,reckoned on numbers -/
def zar (k:Nat):Nat→List (Nat×zm)
 | 0 => []
 | m+1 => (k, {}) :: zar (k+1) m
def Yf (N:Nat):List (Nat×zm):=zar 0 N
def Vl (B n:Nat) (f:Nat→zm):List (Nat×zm):=(List.range n).map fun v=>(B+v,f v)
theorem ZC {α:Type} {d:α}:∀ {l m:List (Nat×α)} {k:Nat},look d (l++m) k=if l.any (fun p=>Nat.beq p.1 k) then look d l k else look d m k
 | [], m, k => by simp
 | p::l,m,k=>by
  obtain ⟨i,x⟩:=p
  rw [List.cons_append,zx,zx,ZC,List.any_cons]
  by_cases h:i=k
  ·subst h;simp
  ·have:Nat.beq i k=false:=by
    cases hb:Nat.beq i k with
    | true => exact absurd (Nat.eq_of_beq_eq_true hb) h
    | false => rfl
   simp only [if_neg h,this,Bool.false_or]
theorem zbR {p:Nat×zm}:∀ {m k:Nat},p∈zar k m→p.1<k+m
 | 0, _, h => by cases h
 | m+1, k, h => by
  rcases List.mem_cons.1 h with rfl|h
  ·show k<k+(m+1);omega
  ·have:=zbR h;omega
theorem zdY {k:Nat} {l:List (Nat×zm)}:∀ {m q:Nat},look {} (zar q m++l) k=if q≤k∧k<q+m then {} else look {} l k
 | 0, q => by rw [if_neg za]; rfl
 | m+1,q=>by
  show look ({}:zm) ((q,{})::(zar (q+1) m++l)) k=_
  rw [zx,zdY]
  by_cases h:q=k
  ·subst h;simp
  ·rw [if_neg h]
   by_cases h2:q+1≤k∧k<q+1+m
   ·rw [if_pos h2,if_pos za]
   ·rw [if_neg h2,if_neg za]
theorem zfW {N k:Nat} {l:List (Nat×zm)}:look {} (Yf N++l) k=if k<N then {} else look {} l k:=by
 unfold Yf
 rw [zdY]
 simp
theorem zcE {B n k:Nat} {f:Nat→zm}:look {} (Vl B n f) k=if B≤k∧k<B+n then f (k - B) else {}:=by
 have key:∀ (L:List Nat),L.Nodup→look ({}:zm) (L.map fun v=>(B+v,f v)) k=if ∃ v∈L,B+v=k then f (k - B) else {}:=by
  intro L
  induction L with
  | nil => intro _; simp [look]
  | cons x L ih=>
   intro hn
   rw [List.nodup_cons] at hn
   rw [List.map_cons,zx,ih hn.2]
   by_cases h:B+x=k
   ·rw [if_pos h,if_pos ⟨x,by simp,h⟩,show k - B=x by omega]
   ·rw [if_neg h]
    by_cases h2:∃ v∈L,B+v=k
    ·rw [if_pos h2,if_pos (let ⟨v,h3,h4⟩:=h2;⟨v,by simp [h3],h4⟩)]
    ·rw [if_neg h2,if_neg]
     rintro ⟨v,hv,e⟩
     rcases List.mem_cons.1 hv with rfl|hv
     ·exact h e
     ·exact h2 ⟨v,hv,e⟩
 unfold Vl
 rw [key _ List.nodup_range]
 by_cases h:B≤k∧k<B+n
 ·rw [if_pos h,if_pos ⟨k - B,List.mem_range.2 za,by omega⟩]
 ·rw [if_neg h,if_neg]
  rintro ⟨v,hv,e⟩
  have:=List.mem_range.1 hv
  omega
def zfJ (B n:Nat) (s:Nat→Option Nat) (vo:Nat→Nat) (f:Nat→zm):List Ent:=(List.range n).map fun j=>⟨B+j,s j,vo j,f j⟩
theorem yD {B n:Nat} {s:Nat→Option Nat} {vo:Nat→Nat} {f:Nat→zm} {j:Nat} (h:j<n):(⟨B+j,s j,vo j,f j⟩:Ent)∈zfJ B n s vo f:=List.mem_map.2 ⟨j,List.mem_range.2 h,rfl⟩
theorem zkn (B n:Nat) (s:Nat→Option Nat) (vo:Nat→Nat) (f:Nat→zm):((zfJ B n s vo f).map fun e=>(e.new,e.b))=Vl B n f:=by
 unfold zfJ Vl
 rw [List.map_map]
 rfl
def zj8 (ob:List (Nat×zm)) (s:Option Nat) (vo:Nat) (b:zm):Prop:=(s=none∧b.life=.own∧b.es=[])∨∃ i,s=some i∧look {} ob i=⟨vo,b.life,b.E,b.sz,b.es⟩∧b.life.plain=true
theorem yN.fam {L:List Nat} {ob:List (Nat×zm)} {M0:List Ent} {B:Nat} {s:Nat→Option Nat} {vo:Nat→Nat} {f:Nat→zm} (h:∀ j∈L,zj8 ob (s j) (vo j) (f j)):yN ob M0 (L.map fun j=>(⟨B+j,s j,vo j,f j⟩:Ent)):=by
 induction L with
 | nil => exact .nil
 | cons j L ih =>
  have hj:=h j zd
  have ih':=ih fun k hk=>h k (by simp [hk])
  rw [List.map_cons]
  generalize s j=sj at hj
  generalize f j=b at hj
  obtain ⟨v,l,E,sz,es⟩:=b
  rcases hj with ⟨rfl,h1,h2⟩|⟨i,rfl,h1,h2⟩
  ·dsimp only at h1 h2;subst h1;subst h2;exact .new ih'
  ·exact .old h1 h2 rfl ih'
theorem yN.append {ob:List (Nat×zm)} {M0 M1 M2:List Ent} (h1:yN ob M0 M1) (h2:yN ob M0 M2):yN ob M0 (M1++M2):=by
 induction h1 with
 | nil => exact h2
 | old h hl e _ ih => exact .old h hl e ih
 | new _ ih => exact .new ih
 | oldH h e _ ih => exact .oldH h e ih
 | oldK h e _ ih => exact .oldK h e ih
 | oldM h e _ ih => exact .oldM h e ih
theorem zcd.all {ob:List (Nat×zm)}:∀ {M:List Ent},(∀ q∈M,q.new<zg)→zcd ob M
 | [], _ => .nil
 | q ::M,h=>.low (by
     have:=h q zd
     cases hb:Nat.ble zg q.new with
     | false => rfl
     | true => have := Nat.le_of_ble_eq_true hb; omega) (zcd.all fun p hp => h p (by simp [hp]))
theorem zkr {ob:List (Nat×zm)} (h:∀ p∈ob,p.1<zg):zkq ob=true:=List.all_eq_true.2 fun p hp=>by
 have:=h p hp
 cases hb:Nat.ble zg p.1 with
 | false => rfl
 | true => have := Nat.le_of_ble_eq_true hb; omega
theorem FLe.ext {t:List (Nat×FV)} {ob ob' : List (Nat×zm)} (h:∀ k,look {} ob' k=look {} ob k):FLe ⟨t,ob⟩ ⟨t,ob'⟩:=fun _ _ _ _ _ β hF=>⟨β,hF.ext (fun _=>rfl) h⟩
theorem FLe.pad {t:List (Nat×FV)} {C:List (Nat×zm)} {N B n:Nat} {f:Nat→zm} (h:N≤B):FLe ⟨t,C++Vl B n f⟩ ⟨t,C++(Yf N++Vl B n f)⟩:=by
 refine FLe.ext fun k=>?_
 rw [ZC,ZC (l:=C) (m:=Vl B n f),zfW]
 split
 ·rfl
 ·split
  ·rw [zcE,if_neg za]
  ·rfl
theorem FLe.convF {t t' : List (Nat×FV)} {ob:List (Nat×zm)} (C:List Ent) (N B n:Nat) (s:Nat→Option Nat) (vo:Nat→Nat) (f:Nat→zm) (hNB:N≤B) (hBn:B+n≤zg) (hCl:C.all (fun q=>Nat.blt q.new B)=true) (hCn:(C.map Ent.new).Nodup)
  (hsn:(C.filterMap Ent.src++(List.range n).filterMap s).Nodup) (hlow:∀ p∈ob,p.1<zg) (hf:∀ j,j<n→zj8 ob (s j) (vo j) (f j)) (hC:yN ob (C++zfJ B n s vo f) C) (ht:SlC t (C++zfJ B n s vo f) t') :
  FLe ⟨t,ob⟩ ⟨t',(C.map fun e=>(e.new,e.b))++(Yf N++Vl B n f)⟩:=by
 have hlt:∀ q∈C,q.new<B:=fun q hq=>Nat.le_of_ble_eq_true (List.all_eq_true.1 hCl q hq)
 refine FLe.trans ?_ (FLe.pad hNB)
 rw [← zkn B n s vo f,← List.map_append]
 refine FLe.conv (C++zfJ B n s vo f) ?_ ?_ (zij (zkr hlow) _) (zcd.all fun q hq=>?_) (hC.append (yN.fam fun j hj=>hf j (List.mem_range.1 hj))) ht
 ·rw [List.map_append]
  refine List.nodup_append.2 ⟨hCn,?_,fun a ha b hb=>?_⟩
  ·unfold zfJ
   rw [List.map_map]
   exact List.Pairwise.map _ (fun a b (hab:a≠b)=>by show B+a≠B+b;omega) List.nodup_range
  ·obtain ⟨q,hq,rfl⟩:=List.mem_map.1 ha
   obtain ⟨p,hp,rfl⟩:=List.mem_map.1 hb
   obtain ⟨j,hj,rfl⟩:=List.mem_map.1 hp
   have:=hlt q hq
   dsimp only
   omega
 ·rw [List.filterMap_append]
  unfold zfJ
  rw [List.filterMap_map]
  exact hsn
 ·rcases List.mem_append.1 hq with hq|hq
  ·have:=hlt q hq;omega
  ·obtain ⟨j,hj,rfl⟩:=List.mem_map.1 hq
   have:=List.mem_range.1 hj
   show B+j<zg
   omega
theorem VZ.of {M:List Ent}:∀ {n:Nat} {c c' : Nat→FV},(∀ j,j<n→VX M (c j) (c' j))→VZ M ((List.range n).map fun j=>[c j]) ((List.range n).map fun j=>[c' j]):=by
 intro n c c' h
 have key:∀ L:List Nat,(∀ j∈L,VX M (c j) (c' j))→VZ M (L.map fun j=>[c j]) (L.map fun j=>[c' j]):=by
  intro L
  induction L with
  | nil => intro _; exact .nil
  | cons x L ih => intro h; exact .cons (h x zd) (ih fun j hj => h j (by simp [hj]))
 exact key _ fun j hj=>h j (List.mem_range.1 hj)
theorem zau {α:Type} (n v:Nat) (f:Nat→α) (x:α):((List.range n).map f).set v x=(List.range n).map fun j=>if j=v then x else f j:=by
 apply List.ext_getElem
 ·simp
 ·intro i h1 h2
  rw [List.getElem_set,List.getElem_map,List.getElem_map,List.getElem_range]
  by_cases h:v=i
  ·subst h;simp
  ·rw [if_neg h,if_neg (fun e=>h e.symm)]
theorem zeb {w:World} {base:Nat} {I I' : Nat→Prop} {βid:Option Nat} {ob:zm} {u:Value} {o n:Nat} (hg:XI w βid ob u o n) (hr:zlq w base I βid ob) (hb:∀ b,βid=some b→I' b) (hI:∀ b,I b→I' b):Rd w I' u (.list ob.sz ((ob.es.drop o).take n)):=by
 obtain ⟨A,cc,rfl,e2,e3,e4,e5⟩:=hg.ex
 have hw:=hr.wide
 have hone:=hr.one
 have hwd:∀ e∈ob.es.drop o,e.length=ob.sz:=fun e he=>hw e (List.mem_of_mem_drop he)
 have hlen:((ob.es.drop o).take n).length=n:=by simp;omega
 have hfl:((ob.es.drop o).take n).flatten=(ob.es.flatten.drop (o * ob.sz)).take (n * ob.sz):=by rw [Zb _ hwd,xx _ hw]
 have hone' : ∀ f∈((ob.es.drop o).take n).flatten,f.one=true:=fun f hf=>by rw [hfl] at hf;exact hone f (List.mem_of_mem_drop (List.mem_of_mem_take hf))
 cases hbi:βid with
 | none =>
  obtain ⟨rfl,rfl⟩:=e4 hbi
  obtain rfl:n=0:=by omega
  exact .list none 0 0 _ _ [] zd (Nat.le_refl _) zd zd zd zd zd
 | some b=>
  obtain ⟨o',rfl,k2,k3⟩:=e5 b hbi
  obtain ⟨v',us,r1,r2,r3⟩:=hr.row
  have hR:RdL w I' ((us.drop (o * ob.sz)).take (n * ob.sz)) ((ob.es.drop o).take n).flatten:=by
   rw [hfl]
   exact ((r3.mono fun b hb=>⟨hI b hb,rfl⟩).drop _).take _
  refine .list _ n cc ob.sz _ _ hlen e2 (fun e he=>hwd e (List.mem_of_mem_take he)) hone' (fun h0=>⟨b,o',rfl,hb b hbi,fun j u hu=>?_⟩) hR.1 hR.2
  have:=k2 (.inl za)
  subst this
  rw [List.getElem?_take] at hu
  split at hu
  ·rw [List.getElem?_drop] at hu
   have hcell:=r1.cells (g:=b) (by rw [r2];exact hbi) _ u hu
   rwa [yP,Nat.zero_add] at hcell
  ·cases hu
theorem FLe.deep {t:List (Nat×FV)} {ob:List (Nat×zm)} (id B n:Nat) {w E2 E sz:Nat} (vs:Nat→Nat) (es:Nat→List (List FV)) (h:look {} ob id=⟨w,.hrow,E2,1,(List.range n).map fun j=>[.own (B+j) (vs j) 0 (es j).length]⟩)
  (hf:∀ j,j<n→look {} ob (B+j)=⟨vs j,.own,E,sz,es j⟩) (hid:id<B):FLe ⟨t,ob⟩ ⟨t,(id,⟨w,.own,E2,1,(List.range n).map fun j=>[.list sz (es j)]⟩)::(Vl B n (fun j=>⟨vs j,.dead,E,sz,es j⟩)++ob)⟩:=by
 intro N w0 J a wd β hF
 refine ⟨β,?_⟩
 have ho:(⟨t,ob⟩:FSt).ob id=⟨w,.hrow,E2,1,(List.range n).map fun j=>[.own (B+j) (vs j) 0 (es j).length]⟩:=h
 have hlive:((⟨t,ob⟩:FSt).ob id).life≠.dead:=by rw [ho];exact (by decide:ya.hrow≠.dead)
 obtain ⟨s',hs'⟩:∃ s' : FSt,s'=⟨t,(id,⟨w,.own,E2,1,(List.range n).map fun j=>[.list sz (es j)]⟩)::(Vl B n (fun j=>⟨vs j,.dead,E,sz,es j⟩)++ob)⟩:=⟨_,rfl⟩
 rw [← hs']
 have hob:∀ k,s'.ob k=if id=k then ⟨w,.own,E2,1,(List.range n).map fun j=>[.list sz (es j)]⟩ else if B≤k∧k<B+n then ⟨vs (k - B),.dead,E,sz,es (k - B)⟩ else (⟨t,ob⟩:FSt).ob k:=fun k=>by
  rw [hs']
  show look ({}:zm) _ k=_
  rw [zx]
  split
  ·rfl
  ·rw [ZC]
   have hany:(Vl B n (fun j=>(⟨vs j,.dead,E,sz,es j⟩:zm))).any (fun p=>Nat.beq p.1 k)=decide (B≤k∧k<B+n):=by
    rw [Bool.eq_iff_iff,List.any_eq_true,decide_eq_true_eq]
    constructor
    ·rintro ⟨p,hp,e⟩
     obtain ⟨j,hj,rfl⟩:=List.mem_map.1 hp
     have h1:=Nat.eq_of_beq_eq_true e
     have h2:=List.mem_range.1 hj
     dsimp only at h1
     omega
    ·intro hk
     exact ⟨(k,_),List.mem_map.2 ⟨k - B,List.mem_range.2 za,by rw [show B+(k - B)=k by omega]⟩,Nat.beq_refl k⟩
   rw [hany,zcE]
   by_cases hk:B≤k∧k<B+n
   ·rw [decide_eq_true hk,if_pos rfl,if_pos hk,if_pos hk]
   ·rw [decide_eq_false hk,if_neg zc,if_neg hk];rfl
 have hsub:∀ k,(s'.ob k).life≠.dead→((⟨t,ob⟩:FSt).ob k).life≠.dead:=fun k hl=>by
  rw [hob] at hl
  split at hl
  ·rename_i e;subst e;exact hlive
  ·split at hl
   ·exact absurd rfl hl
   ·exact hl
 have hmine:∀ k,(s'.ob k).life.mine=true→((⟨t,ob⟩:FSt).ob k).life.mine=true:=fun k hl=>by
  rw [hob] at hl
  split at hl
  ·rename_i e;subst e;rw [ho];rfl
  ·split at hl
   ·cases hl
   ·exact hl
 have hI:∀ b,Imm J wd β ⟨t,ob⟩ b→Imm J wd β s' b:=fun b hb=>⟨hb.1,hb.2.1,fun k hl=>hb.2.2 k (hmine k hl)⟩
 have hver:∀ k,(s'.ob k).ver=((⟨t,ob⟩:FSt).ob k).ver:=fun k=>by
  rw [hob]
  split
  ·rename_i e;subst e;rw [ho]
  ·split
   ·rename_i hk
    have:=hf (k - B) za
    rw [show B+(k - B)=k by omega] at this
    have e:(⟨t,ob⟩:FSt).ob k=look ({}:zm) ob k:=rfl
    rw [e,this]
   ·rfl
 refine hF.step (C:=fun k=>k=id∨(B≤k∧k<B+n)) hF.size hF.defers hF.bel (fun b hb=>⟨hI b hb,rfl⟩) (fun k=>.inl ⟨rfl,by rw [hs'];rfl⟩) (fun k hC=>?_) (fun k _=>Nat.le_of_eq (hver k).symm) (fun k hC hl _=>?_) (fun k hC hl T=>?_) (fun k k' b hl hl' e e'=>hF.inj k k' b (hsub k hl) (hsub k' hl') e e') (fun b _ hn=>⟨rfl,fun k hl=>hn k (hsub k hl)⟩)
 ·refine ⟨?_,rfl,fun _ _ _=>rfl⟩
  rw [hob,if_neg (fun e=>hC (.inl e.symm)),if_neg (fun e=>hC (.inr e))]
 ·rcases hC with rfl|hC
  ·refine ⟨hlive,rfl,by rw [hob,if_pos rfl,ho],by rw [hob,if_pos rfl,ho];rfl,fun v o m hv=>?_⟩
   rw [ho] at hv
   obtain ⟨A,c,k1,k2,k3,k4,k5⟩:=hv.ex
   rw [hob,if_pos rfl]
   exact ⟨rfl,A,c,k1,k2,by simpa using k3,k4,k5⟩
  ·exfalso
   rw [hob,if_neg za,if_pos hC] at hl
   exact hl rfl
 ·rcases hC with rfl|hC
  ·rw [hob,if_pos rfl]
   have hH:=(hF.obj k hlive).rowH (by rw [ho];rfl) (by rw [ho];rfl)
   rw [ho] at hH
   obtain ⟨v,us,r1,r2,r3,r4⟩:=hH.row
   dsimp only at r1 r3 r4
   have hfl:∀ (g:Nat→FV),((List.range n).map fun j=>[g j]).flatten=(List.range n).map g:=fun g=>by
    generalize List.range n=L
    induction L with
    | nil => rfl
    | cons x L ih => simp [ih]
   rw [hfl] at r3 r4
   refine .ofRow ⟨fun e he=>?_,fun f hf'=>?_,v,us,?_,r2,?_,fun j u f hu hff=>?_⟩ (.own rfl) rfl
   ·obtain ⟨j,_,rfl⟩:=List.mem_map.1 he;rfl
   ·dsimp only at hf'
    rw [hfl] at hf'
    obtain ⟨j,_,rfl⟩:=List.mem_map.1 hf';rfl
   ·dsimp only
    rw [List.length_map] at r1 ⊢
    exact r1
   ·dsimp only
    rw [hfl,List.length_map] at *
    exact r3
   ·dsimp only at hff
    rw [hfl] at hff
    have hjn:j<n:=by have:=(List.getElem?_eq_some_iff.1 hff).1;simpa using this
    rw [List.getElem?_map,List.getElem?_range hjn] at hff
    injection hff with hff
    subst hff
    have hv:=r4 j u _ hu (by rw [List.getElem?_map,List.getElem?_range hjn];rfl)
    have hoj:(⟨t,ob⟩:FSt).ob (B+j)=⟨vs j,.own,E,sz,es j⟩:=hf j hjn
    have hlj:((⟨t,ob⟩:FSt).ob (B+j)).life≠.dead:=by rw [hoj];exact (by decide:ya.own≠.dead)
    have hov:=hv hlj (by rw [hoj])
    have hO:=hF.obj (B+j) hlj
    have hrr:=hO.rowR (by rw [hoj];rfl)
    have:=zeb (I':=Imm J wd β s') hov hrr (fun b hb=>?_) hI
    ·rw [hoj] at this
     dsimp only at this
     rwa [List.drop_zero,List.take_length] at this
    ·have hlt:=hO.lt hb
     refine ⟨hlt.2,hF.fresh b hlt.1 (.inr ⟨_,hlj,hb⟩),fun k' hl' e=>?_⟩
     have:=hF.inj (B+j) k' b hlj (hsub k' (ya.mine_ne hl')) hb e
     subst this
     rw [hob,if_neg za,if_pos ⟨by omega,by omega⟩] at hl'
     cases hl'
  ·exfalso
   rw [hob,if_neg za,if_pos hC] at hl
   exact hl rfl
theorem zml {C:List (Nat×zm)} {N B n:Nat} {f:Nat→zm} (h1:∀ p∈C,p.1<zg) (h2:N≤zg) (h3:B+n≤zg):∀ p∈C++(Yf N++Vl B n f),p.1<zg:=by
 intro p hp
 rcases List.mem_append.1 hp with hp|hp
 ·exact h1 p hp
 ·rcases List.mem_append.1 hp with hp|hp
  ·have:=zbR hp;omega
  ·obtain ⟨j,hj,rfl⟩:=List.mem_map.1 hp
   have:=List.mem_range.1 hj
   show B+j<zg
   omega
theorem zZ {C:List (Nat×zm)} {N B n j:Nat} {f:Nat→zm} (hC:C.all (fun p=>Nat.blt p.1 B)=true) (hN:N≤B) (hj:j<n):look {} (C++(Yf N++Vl B n f)) (B+j)=f j:=by
 rw [ZC,zfW,zcE,if_neg,if_neg za,if_pos ⟨by omega,by omega⟩,Nat.add_sub_cancel_left]
 intro h
 obtain ⟨p,hp,e⟩:=List.any_eq_true.1 h
 have h1:=Nat.le_of_ble_eq_true (List.all_eq_true.1 hC p hp)
 have h2:=Nat.eq_of_beq_eq_true e
 omega
theorem zd7 {α:Type} (n:Nat) (x:α):List.replicate n x=(List.range n).map fun _=>x:=by
 apply List.ext_getElem
 ·simp
 ·intro i h1 h2;simp
theorem xp {α:Type} (n v:Nat) (f:Nat→α) (h:v<n):((List.range n).map f)[v]? = some (f v):=by
 rw [List.getElem?_map,List.getElem?_range h];rfl
def Low (ob:List (Nat×zm)):Prop:=∀ p∈ob,p.1<zg
theorem Low.nil:Low []:=fun p hp=>by cases hp
theorem Low.cons {i:Nat} {b:zm} {l:List (Nat×zm)} (h:Nat.blt i zg=true) (hl:Low l):Low ((i,b)::l):=fun p hp=>by
 rcases List.mem_cons.1 hp with rfl|hp
 ·exact Nat.le_of_ble_eq_true h
 ·exact hl p hp
theorem Low.fam {N B n:Nat} {f:Nat→zm} (h1:Nat.ble N zg=true) (h2:B+n≤zg):Low (Yf N++Vl B n f):=by
 have:=zml (C:=[]) (N:=N) (f:=f) zd (Nat.le_of_ble_eq_true h1) h2
 exact fun p hp=>this p hp
theorem zdv (n a B:Nat) (x:Option Nat) (l:List Nat) (h1:(l++x.toList).Nodup) (h2:∀ i∈l++x.toList,i<B∨i=B+a):(l++(List.range n).filterMap fun j=>if j=a then x else some (B+j)).Nodup:=by
 have hx:∀ i,x=some i→i∉l:=fun i hi hl=>by
  rw [hi] at h1
  exact (List.nodup_append.1 h1).2.2 i hl i zd rfl
 refine List.nodup_append.2 ⟨(List.nodup_append.1 h1).1,?_,fun i hi k hk e=>?_⟩
 ·refine List.Pairwise.filterMap _ (R:=(·≠·)) (fun j j' hjj i hi i' hi' e=>?_) List.nodup_range
  subst e
  by_cases h:j=a
  ·by_cases h' : j'=a
   ·exact hjj (h.trans h'.symm)
   ·rw [if_pos h] at hi
    rw [if_neg h'] at hi'
    have hi2:i=B+j':=by simpa using hi'.symm
    have:=h2 i (by simp;right;simpa using hi)
    omega
  ·by_cases h' : j'=a
   ·rw [if_neg h] at hi
    rw [if_pos h'] at hi'
    have hi2:i=B+j:=by simpa using hi.symm
    have:=h2 i (by simp;right;simpa using hi')
    omega
   ·rw [if_neg h] at hi
    rw [if_neg h'] at hi'
    have h3:i=B+j:=by simpa using hi.symm
    have h4:i=B+j':=by simpa using hi'.symm
    omega
 ·subst e
  obtain ⟨j,_,hj⟩:=List.mem_filterMap.1 hk
  split at hj
  ·exact hx i hj hi
  ·have h3:i=B+j:=by simpa using hj.symm
   have:=h2 i (by simp [hi])
   rename_i hne
   omega
theorem FLe.convS {t t' : List (Nat×FV)} {ob:List (Nat×zm)} (C:List Ent) (B n a:Nat) (x:Option Nat) (vo:Nat→Nat) (f:Nat→zm) (hB:Nat.ble 200 B=true) (hBn:B+n≤zg) (hCl:C.all (fun q=>Nat.blt q.new B)=true) (hCn:(C.map Ent.new).Nodup)
  (hs1:(C.filterMap Ent.src++x.toList).Nodup) (hs2:∀ i∈C.filterMap Ent.src++x.toList,i<B∨i=B+a) (hlow:Low ob) (hf:∀ j,j<n→zj8 ob (if j=a then x else some (B+j)) (vo j) (f j)) (hC:yN ob (C++zfJ B n (fun j=>if j=a then x else some (B+j)) vo f) C) (ht:SlC t (C++zfJ B n (fun j=>if j=a then x else some (B+j)) vo f) t') :
  FLe ⟨t,ob⟩ ⟨t',(C.map fun e=>(e.new,e.b))++(Yf 200++Vl B n f)⟩:=
 FLe.convF C 200 B n _ vo f (Nat.le_of_ble_eq_true hB) hBn hCl hCn (zdv n a B x _ hs1 hs2) hlow hf hC ht
theorem FLe.convK {t t' : List (Nat×FV)} {ob:List (Nat×zm)} (C:List Ent) (B n:Nat) (vo:Nat→Nat) (f:Nat→zm) (hB:Nat.ble 200 B=true) (hBn:B+n≤zg) (hCl:C.all (fun q=>Nat.blt q.new B)=true) (hCn:(C.map Ent.new).Nodup)
  (hs1:(C.filterMap Ent.src).Nodup) (hs2:∀ i∈C.filterMap Ent.src,i<B) (hlow:Low ob) (hf:∀ j,j<n→zj8 ob (some (B+j)) (vo j) (f j)) (hC:yN ob (C++zfJ B n (fun j=>some (B+j)) vo f) C) (ht:SlC t (C++zfJ B n (fun j=>some (B+j)) vo f) t') :
  FLe ⟨t,ob⟩ ⟨t',(C.map fun e=>(e.new,e.b))++(Yf 200++Vl B n f)⟩:=
 FLe.convF C 200 B n _ vo f (Nat.le_of_ble_eq_true hB) hBn hCl hCn (by
  refine List.nodup_append.2 ⟨hs1,?_,fun i hi k hk e=>?_⟩
  ·refine List.Pairwise.filterMap _ (R:=(·≠·)) (fun j j' hjj i hi i' hi' e=>?_) List.nodup_range
   injection hi with hi;injection hi' with hi';omega
  ·obtain ⟨j,_,hj⟩:=List.mem_filterMap.1 hk
   injection hj with hj
   have:=hs2 i hi
   omega) hlow hf hC ht
theorem FLe.convN {t t' : List (Nat×FV)} {ob:List (Nat×zm)} (C:List Ent) (B n:Nat) (f:Nat→zm) (hB:Nat.ble 200 B=true) (hBn:B+n≤zg) (hCl:C.all (fun q=>Nat.blt q.new B)=true) (hCn:(C.map Ent.new).Nodup)
  (hs1:(C.filterMap Ent.src).Nodup) (hlow:Low ob) (hf:∀ j,j<n→(f j).life=.own∧(f j).es=[]) (hC:yN ob (C++zfJ B n (fun _=>none) (fun _=>0) f) C) (ht:SlC t (C++zfJ B n (fun _=>none) (fun _=>0) f) t') :
  FLe ⟨t,ob⟩ ⟨t',(C.map fun e=>(e.new,e.b))++(Yf 200++Vl B n f)⟩:=
 FLe.convF C 200 B n _ _ f (Nat.le_of_ble_eq_true hB) hBn hCl hCn (by
  have:(List.range n).filterMap (fun _=>(none:Option Nat))=[]:=by induction List.range n <;> simp_all
  rw [this,List.append_nil];exact hs1) hlow (fun j hj=>.inl ⟨rfl,hf j hj⟩) hC ht
def edf (e:Nat×Nat):List FV:=[.int .i64 (e.1:Int),.int .i64 (e.2:Int)]
def Yi (E:List (Nat×Nat)) (v k:Nat):List Int:=((E.take k).filter fun e=>decide (e.1=v)).map fun e=>(e.2:Int)
def zkU (z:List Int):List Int:=Lib.compact (z.mergeSort fun x y=>decide (x≤y))
def zj (E:List (Nat×Nat)) (v:Nat):List Int:=zkU (Yi E v E.length)
theorem zhC (E:List (Nat×Nat)) (v k:Nat) (h:k<E.length):Yi E v (k+1)=Yi E v k++(if (nth E k).1=v then [((nth E k).2:Int)] else []):=by
 unfold Yi
 rw [List.take_succ_eq_append_getElem h,List.filter_append,List.map_append,nth_eq h]
 congr 1
 by_cases hv:E[k].1=v <;> simp [hv]
theorem zaK (E:List (Nat×Nat)) (v k:Nat):(Yi E v k).length≤E.length:=by
 unfold Yi
 rw [List.length_map]
 exact Nat.le_trans (List.length_filter_le _ _) (by rw [List.length_take];omega)
theorem zjS (z:List Int):(zkU z).length≤z.length:=by
 unfold zkU Lib.compact Lib.compactUpTo
 rw [List.length_map]
 refine Nat.le_trans (List.length_filter_le _ _) ?_
 rw [List.length_range,List.length_mergeSort];exact Nat.le_refl _
def zhS (E:List (Nat×Nat)) (k j:Nat):zm:=⟨0,.own,3,1,(Yi E j k).map zp⟩
def zk5 (E:List (Nat×Nat)) (k j:Nat):FV:=.own (1000+j) 0 0 (Yi E j k).length
def zkO (E:List (Nat×Nat)) (i j:Nat):List Int:=if j<i then zj E j else Yi E j E.length
def zhT (E:List (Nat×Nat)) (i j:Nat):zm:=⟨0,.own,3,1,(zkO E i j).map zp⟩
def zkg (E:List (Nat×Nat)) (i j:Nat):FV:=.own (1000+j) 0 0 (zkO E i j).length
theorem zes (E:List (Nat×Nat)) (j:Nat):zkO E 0 j=Yi E j E.length:=if_neg za
theorem xG (n:Nat) (E:List (Nat×Nat)) (hn:n≤1000) (hE:E.length≤1000000) (hin:∀ e∈E,e.1<n∧e.2<n):zU Try.prog 59 [.int .i64 n,.list 2 (E.map edf)] .sh (.list 1 ((List.range n).map fun v=>[.list 1 ((zj E v).map zp)])):=by
 refine zU.of_body (c:=(xT Try.prog zE zt 51)) ⟨Try.func59,rfl,Try.ntmps59,by kernel_rfl⟩ zL zw rfl ?_
 change FW _ _ _ ⟨[(0,.int .i64 n),(1,.list 2 (E.map edf))],[]⟩
 refine zb ?_
 rw [zd7]
 refine FW.loop (fun k:Nat=>⟨[(5,.own 100 0 0 n),(11,.list 2 (E.map edf)),(12,.int .i64 E.length),(13,.int .i64 k)],[(100,⟨0,.hrow,22,1,(List.range n).map fun j=>[zk5 E k j]⟩)]++(Yf 200++Vl 1000 n (zhS E k))⟩) (fun k=>k≤E.length) (fun k=>E.length - k) 0 (Nat.zero_le _) ?_ ?_
 ·exact (FLe.toH (i:=10) rfl).trans (FLe.convN [⟨100,some 10,0+1,⟨0,.hrow,22,1,(List.range n).map fun j=>[zk5 E 0 j]⟩⟩] 1000 n (zhS E 0) rfl (by unfold zg;omega) rfl zd zd (by repeat (first|exact Low.nil|exact Low.fam rfl (by unfold zg;omega)|refine Low.cons rfl ?_))
   (fun j _=>⟨rfl,rfl⟩) (.oldH rfl (VZ.of fun j hj=>.nil (List.mem_append_right _ (yD hj)) rfl) .nil) (by repeat (first|exact .nil|refine .cons (.plain rfl rfl rfl) ?_|refine .cons (.own rfl (.head _) rfl rfl) ?_)))
 intro k hk
 refine zb ?_
 refine FW.cond rfl (fun h=>?_) (fun h=>?_)
 ·have hlt:k<E.length:=by simpa using h
  clear h
  obtain ⟨⟨a,b⟩,he⟩:∃ e,nth E k=e:=⟨_,rfl⟩
  obtain ⟨ha,hb⟩:=hin (nth E k) (zu hlt)
  have hrs:=fun v=>zhC E v k hlt
  rw [he] at ha hb
  simp only [he] at hrs
  have hrl:=zaK E a k
  refine zb ?_
  refine FW.le (s':=⟨[(7,.ptr 7 1 0 0),(5,.own 100 0 0 n),(11,.list 2 (E.map edf)),(12,.int .i64 E.length),(13,.int .i64 k)],[(100,⟨0,.hrow,22,1,(List.range n).map fun j=>[if j=a then .own 150 0 0 (Yi E a k).length else zk5 E k j]⟩),(150,zhS E k a),(7,⟨1,.own,75,2,[edf (a,b)]⟩)]++(Yf 200++Vl 1000 n fun j=>if j=a then ⟨0,.own,3,1,[]⟩ else zhS E k j)⟩) ?_ ?_
  ·refine FW.draw ?_
   refine YZ rfl rfl rfl ?_;refine Yg rfl rfl rfl rfl rfl rfl rfl zc yY rfl rfl ?_;refine ZR rfl rfl rfl rfl rfl yY rfl rfl rfl rfl rfl ?_;refine YZ rfl rfl rfl ?_;refine Yg rfl rfl rfl rfl rfl rfl rfl zc yY rfl rfl ?_;refine ZR rfl rfl rfl rfl rfl yY rfl rfl rfl rfl rfl ?_
   refine zaw rfl rfl rfl rfl rfl rfl zc rfl za rfl rfl ?_
   refine zf3 rfl rfl rfl rfl (xp n a _ ha) rfl rfl ?_
   rw [if_pos rfl]
   refine Yg rfl rfl rfl rfl rfl rfl rfl zc yY rfl rfl ?_;refine ZR rfl rfl rfl rfl rfl yY rfl rfl rfl rfl rfl ?_;refine Vv rfl rfl rfl rfl rfl rfl rfl rfl ?_
   refine zff rfl rfl (by first|exact (List.length_map _).symm|(simp;omega)) rfl rfl rfl zc (by exact Zq.own rfl rfl zc (by first|exact List.length_map _|exact (List.length_map _).symm|exact List.length_replicate|rfl|(simp;done)|omega|(simp;omega))) zC zC rfl rfl rfl ?_
   refine zaw rfl rfl rfl rfl rfl rfl zc rfl yQ rfl rfl ?_;refine zbU rfl rfl rfl rfl rfl rfl zc yQ rfl ?_
   refine zH.nil ⟨by kernel_rfl,?_⟩
   refine FW.region ?_
   refine VT rfl rfl za rfl rfl ?_;refine zB rfl rfl rfl ?_
   refine zn.nil ?_
   have h1:∀ j,Yi E j (k+1)=Yi E j k++if a=j then [(b:Int)] else []:=hrs
   rw [zau]
   refine ⟨k+1,by omega,by omega,?_⟩
   refine FLe.convS [⟨100,some 100,0,⟨0,.hrow,22,1,(List.range n).map fun j=>[zk5 E (k+1) j]⟩⟩] 1000 n a (some 28) (fun j=>if j=a then 1 else 0) (zhS E (k+1)) rfl (by unfold zg;omega) rfl zd zd zd (by repeat (first|exact Low.nil|exact Low.fam rfl (by unfold zg;omega)|refine Low.cons rfl ?_)) ?_ ?_ ?_
   ·intro j hj
    by_cases hja:j=a
    ·subst hja
     rw [if_pos rfl,if_pos rfl]
     refine .inr ⟨28,rfl,?_,rfl⟩
     unfold zhS
     rw [h1,if_pos rfl,List.map_append]
     rfl
    ·rw [if_neg hja,if_neg hja]
     refine .inr ⟨_,rfl,(zZ (C:=[(100,_),(28,_),(150,_),(27,_),(100,_),(150,_),(7,_)]) rfl zc hj).trans ?_,rfl⟩
     rw [if_neg hja]
     unfold zhS
     rw [h1,if_neg (fun e=>hja e.symm),List.append_nil]
   ·refine .oldH rfl ?_ .nil
    rw [show ((List.range n).map fun j=>if j=(a,b).1 then [FV.own 28 (0+1) 0 (List.map zp (Yi E a k)++[[FV.int IntKind.i64 ((a,b).2:Int)]]).length] else [if j=a then FV.own 150 0 0 (Yi E a k).length else zk5 E k j])=(List.range n).map fun j=>[if j=a then FV.own 28 1 0 ((Yi E a k).length+1) else zk5 E k j] from List.map_congr_left fun j _=>by
     by_cases hja:j=a
     ·rw [if_pos hja,if_pos hja,List.length_append,List.length_map];rfl
     ·rw [if_neg hja,if_neg hja,if_neg hja]]
    refine VZ.of fun j hj=>?_
    have hm:=yD (B:=1000) (s:=fun j=>if j=a then some 28 else some (1000+j)) (vo:=fun j=>if j=a then 1 else 0) (f:=zhS E (k+1)) hj
    unfold zk5
    by_cases hja:j=a
    ·subst hja
     simp only [if_pos] at hm
     rw [if_pos rfl,h1,if_pos rfl]
     exact .own (List.mem_append_right _ hm) rfl rfl zd
    ·simp only [if_neg hja] at hm
     rw [if_neg hja,h1,if_neg (fun e=>hja e.symm),List.append_nil]
     exact .own (List.mem_append_right _ hm) rfl rfl rfl
   ·exact (by repeat (first|exact .nil|refine .cons (.plain rfl rfl rfl) ?_|refine .cons (.own rfl (.head _) rfl rfl) ?_))
  ·refine FLe.convS [⟨100,some 100,0,⟨0,.hrow,22,1,(List.range n).map fun j=>[if j=a then .own 150 0 0 (Yi E a k).length else zk5 E k j]⟩⟩,⟨150,some (1000+a),0,zhS E k a⟩,⟨7,some 7,1,⟨1,.own,75,2,[edf (a,b)]⟩⟩] 1000 n a none (fun _=>0) (fun j=>if j=a then ⟨0,.own,3,1,[]⟩ else zhS E k j) rfl (by unfold zg;omega) rfl zd (by simp <;> omega) (by simp <;> omega) (by repeat (first|exact Low.nil|exact Low.fam rfl (by unfold zg;omega)|refine Low.cons rfl ?_)) ?_ ?_ ?_
   ·intro j hj
    by_cases hja:j=a
    ·rw [if_pos hja,if_pos hja];exact .inl ⟨rfl,rfl,rfl⟩
    ·rw [if_neg hja,if_neg hja]
     exact .inr ⟨_,rfl,zZ (C:=[(7,_),(7,_),(100,_)]) rfl zc hj,rfl⟩
   ·refine .oldH rfl (VZ.of fun j hj=>?_) (.old (zZ (C:=[(7,_),(7,_),(100,_)]) rfl zc ha) rfl rfl (.old rfl rfl (by rw [he]) .nil))
    by_cases hja:j=a
    ·subst hja
     rw [if_pos rfl]
     exact .own (List.mem_cons_of_mem _ (List.mem_cons_self ..)) rfl rfl rfl
    ·rw [if_neg hja]
     have hm:=yD (B:=1000) (s:=fun j=>if j=a then none else some (1000+j)) (vo:=fun _=>0) (f:=fun j=>if j=a then ⟨0,.own,3,1,[]⟩ else zhS E k j) hj
     simp only [if_neg hja] at hm
     exact .own (List.mem_append_right _ hm) rfl rfl rfl
   ·exact (by repeat (first|exact .nil|refine .cons (.plain rfl rfl rfl) ?_|refine .cons (.own rfl (.head _) rfl rfl) ?_|refine .cons (.ptr rfl (.tail _ (.tail _ (.head _))) rfl) ?_))
 ·obtain rfl:k=E.length:=by simp at h;omega
  clear h hk
  refine zb ?_
  refine FW.loop (fun i:Nat=>⟨[(5,.own 100 0 0 n),(32,.int .i64 n),(33,.int .i64 i)],[(100,⟨0,.hrow,22,1,(List.range n).map fun j=>[zkg E i j]⟩)]++(Yf 200++Vl 1000 n (zhT E i))⟩) (fun i=>i≤n) (fun i=>n - i) 0 (Nat.zero_le _) ?_ ?_
  ·refine FLe.convK [⟨100,some 100,0,⟨0,.hrow,22,1,(List.range n).map fun j=>[zkg E 0 j]⟩⟩] 1000 n (fun _=>0) (zhT E 0) rfl (by unfold zg;omega) rfl zd zd zd (by repeat (first|exact Low.nil|exact Low.fam rfl (by unfold zg;omega)|refine Low.cons rfl ?_)) (fun j hj=>.inr ⟨_,rfl,(zZ (C:=[(100,_)]) rfl zc hj).trans ?_,rfl⟩) (.oldH rfl (VZ.of fun j hj=>?_) .nil) (by repeat (first|exact .nil|refine .cons (.plain rfl rfl rfl) ?_|refine .cons (.own rfl (.head _) rfl rfl) ?_))
   ·unfold zhT zhS;rw [zes]
   ·have hm:=yD (B:=1000) (s:=fun j=>some (1000+j)) (vo:=fun _=>0) (f:=zhT E 0) hj
    exact .own (List.mem_append_right _ hm) rfl rfl (by rw [zes])
  intro i hi
  refine zb ?_
  refine FW.cond rfl (fun h=>?_) (fun h=>?_)
  ·have hlt:i<n:=by simpa using h
   clear h
   have hri:zkO E i i=Yi E i E.length:=if_neg za
   have hrl:=zaK E i E.length
   have hr1:∀ j,zkO E (i+1) j=if j=i then zj E i else zkO E i j:=fun j=>by
    unfold zkO
    by_cases h1:j=i
    ·subst h1;rw [if_pos rfl,if_pos za]
    ·rw [if_neg h1]
     by_cases h2:j<i
     ·rw [if_pos h2,if_pos za]
     ·rw [if_neg h2,if_neg za]
   obtain ⟨z,hz⟩:∃ z,Yi E i E.length=z:=⟨_,rfl⟩
   have hsl:(z.mergeSort fun x y=>decide (x≤y)).length=z.length:=List.length_mergeSort _
   have hsz:zj E i=Lib.compact (z.mergeSort fun x y=>decide (x≤y)):=by rw [← hz];rfl
   rw [hz] at hri hrl
   refine FW.le (s':=⟨[(5,.own 100 0 0 n),(32,.int .i64 n),(33,.int .i64 i)],[(100,⟨0,.hrow,22,1,(List.range n).map fun j=>[if j=i then .own 150 0 0 z.length else zkg E i j]⟩),(150,⟨0,.own,3,1,z.map zp⟩)]++(Yf 200++Vl 1000 n fun j=>if j=i then ⟨0,.own,3,1,[]⟩ else zhT E i j)⟩) ?_ ?_
   ·refine yc ?_
    refine zB rfl rfl rfl ?_;refine zT rfl rfl rfl ?_
    refine yc ?_
    refine zB rfl rfl rfl ?_;refine zB rfl rfl rfl ?_;refine xE rfl rfl rfl rfl rfl rfl zc rfl za rfl rfl ?_
    refine XE rfl rfl rfl rfl (xp n i _ hlt) rfl rfl ?_
    rw [if_pos rfl]
    refine xq (zhF 0 z za) [(5000,150)] rfl (zq.cons rfl rfl rfl zq.nil) rfl rfl rfl rfl rfl rfl ?_
    rintro _ _ ⟨rfl,h1⟩
    refine yM.one [(150,⟨0,.own,3,1,(z.mergeSort fun x y=>decide (x≤y)).map zp⟩)] (.tup []) rfl (congrArg (fun b=>[(150,zm.ren (gOf [(5000,150)]) b)]) h1) ?_
    refine yc ?_
    refine zB rfl rfl rfl ?_;refine zB rfl rfl rfl ?_;refine zB rfl rfl rfl ?_;refine zB rfl rfl rfl ?_;refine xE rfl rfl rfl rfl rfl rfl zc rfl za rfl rfl ?_
    refine XE rfl rfl rfl rfl (xp n i _ hlt) rfl rfl ?_
    rw [if_pos rfl]
    refine xq (zcp 0 (z.mergeSort fun x y=>decide (x≤y)) (by rw [hsl];omega)) [(5000,150)] ?_ (zq.cons rfl rfl rfl zq.nil) rfl rfl rfl rfl rfl rfl ?_
    ·rw [hsl];rfl
    rintro _ _ ⟨rfl,h1⟩
    refine yM.one [(150,⟨1,.own,3,1,(zj E i).map zp⟩)] (.own 150 1 0 (zj E i).length) (by rw [hsz];rfl) (by rw [hsz];exact congrArg (fun b=>[(150,zm.ren (gOf [(5000,150)]) b)]) h1) ?_
    refine xE rfl rfl rfl rfl rfl rfl zc rfl yQ rfl rfl ?_;refine zhx rfl rfl rfl rfl rfl rfl zc yQ rfl ?_
    refine yc ?_
    refine VT rfl rfl za rfl rfl ?_;refine zB rfl rfl rfl ?_
    refine yc ?_
    rw [zau]
    refine ⟨i+1,by omega,by omega,?_⟩
    refine FLe.convS [⟨100,some 100,0,⟨0,.hrow,22,1,(List.range n).map fun j=>[zkg E (i+1) j]⟩⟩] 1000 n i (some 150) (fun j=>if j=i then 1 else 0) (zhT E (i+1)) rfl (by unfold zg;omega) rfl zd zd zd (by repeat (first|exact Low.nil|exact Low.fam rfl (by unfold zg;omega)|refine Low.cons rfl ?_)) ?_ ?_ ?_
    ·intro j hj
     by_cases hja:j=i
     ·subst hja
      rw [if_pos rfl,if_pos rfl]
      refine .inr ⟨150,rfl,?_,rfl⟩
      unfold zhT
      rw [hr1,if_pos rfl]
      rfl
     ·rw [if_neg hja,if_neg hja]
      refine .inr ⟨_,rfl,(zZ (C:=[(100,_),(150,_),(150,_),(100,_),(150,_)]) rfl zc hj).trans ?_,rfl⟩
      rw [if_neg hja]
      unfold zhT
      rw [hr1,if_neg hja]
    ·refine .oldH rfl ?_ .nil
     rw [show ((List.range n).map fun j=>if j=i then [FV.own 150 1 0 (zj E i).length] else [if j=i then FV.own 150 0 0 z.length else zkg E i j])=(List.range n).map fun j=>[if j=i then FV.own 150 1 0 (zj E i).length else zkg E i j] from List.map_congr_left fun j _=>by
      by_cases hja:j=i
      ·rw [if_pos hja,if_pos hja]
      ·rw [if_neg hja,if_neg hja,if_neg hja]]
     refine VZ.of fun j hj=>?_
     have hm:=yD (B:=1000) (s:=fun j=>if j=i then some 150 else some (1000+j)) (vo:=fun j=>if j=i then 1 else 0) (f:=zhT E (i+1)) hj
     unfold zkg
     by_cases hja:j=i
     ·subst hja
      simp only [if_pos] at hm
      rw [if_pos rfl,hr1,if_pos rfl]
      exact .own (List.mem_append_right _ hm) rfl rfl rfl
     ·simp only [if_neg hja] at hm
      rw [if_neg hja,hr1,if_neg hja]
      exact .own (List.mem_append_right _ hm) rfl rfl rfl
    ·exact (by repeat (first|exact .nil|refine .cons (.plain rfl rfl rfl) ?_|refine .cons (.own rfl (.head _) rfl rfl) ?_))
   ·refine FLe.convS [⟨100,some 100,0,⟨0,.hrow,22,1,(List.range n).map fun j=>[if j=i then .own 150 0 0 z.length else zkg E i j]⟩⟩,⟨150,some (1000+i),0,⟨0,.own,3,1,z.map zp⟩⟩] 1000 n i none (fun _=>0) (fun j=>if j=i then ⟨0,.own,3,1,[]⟩ else zhT E i j) rfl (by unfold zg;omega) rfl zd (by simp <;> omega) (by simp <;> omega) (by repeat (first|exact Low.nil|exact Low.fam rfl (by unfold zg;omega)|refine Low.cons rfl ?_)) ?_ ?_ ?_
    ·intro j hj
     by_cases hja:j=i
     ·rw [if_pos hja,if_pos hja];exact .inl ⟨rfl,rfl,rfl⟩
     ·rw [if_neg hja,if_neg hja]
      exact .inr ⟨_,rfl,zZ (C:=[(100,_)]) rfl zc hj,rfl⟩
    ·refine .oldH rfl (VZ.of fun j hj=>?_) (.old ((zZ (C:=[(100,_)]) rfl zc hlt).trans (by unfold zhT;rw [hri])) rfl rfl .nil)
     by_cases hja:j=i
     ·subst hja
      rw [if_pos rfl]
      exact .own (List.mem_cons_of_mem _ (List.mem_cons_self ..)) rfl rfl (by rw [hri])
     ·rw [if_neg hja]
      have hm:=yD (B:=1000) (s:=fun j=>if j=i then none else some (1000+j)) (vo:=fun _=>0) (f:=fun j=>if j=i then ⟨0,.own,3,1,[]⟩ else zhT E i j) hj
      simp only [if_neg hja] at hm
      exact .own (List.mem_append_right _ hm) rfl rfl rfl
    ·exact (by repeat (first|exact .nil|refine .cons (.plain rfl rfl rfl) ?_|refine .cons (.own rfl (.head _) rfl rfl) ?_))
  ·obtain rfl:i=n:=by simp at h;omega
   clear h hi
   refine yc ?_
   refine zB rfl rfl rfl ?_;refine zT rfl rfl rfl ?_
   refine zn.le ?_ ((FLe.deep 100 1000 i (w:=0) (E2:=22) (E:=3) (sz:=1) (fun _=>0) (fun j=>(zkO E i j).map zp) ?_ (fun j hj=>zZ (C:=[(100,_)]) rfl zc hj) zc).trans (FLe.share 4 rfl rfl zd))
   ·refine yc ?_
    refine FW.ret ⟨.inl rfl,.sh (.cons (.tmp 4 rfl rfl) .nil) ?_ rfl⟩
    show FV.list 1 _=FV.list 1 _
    refine congrArg (FV.list 1) (List.map_congr_left fun j hj=>?_)
    rw [show zkO E i j=zj E j from if_pos (List.mem_range.1 hj)]
   ·refine Eq.trans (b:=(⟨0,.hrow,22,1,(List.range i).map fun j=>[zkg E i j]⟩:zm)) rfl ?_
    refine congrArg (fun l=>(⟨0,.hrow,22,1,l⟩:zm)) (List.map_congr_left fun j _=>?_)
    rw [List.length_map];rfl
end Go.Proofs.Ytmnmakhpjgjdaaa
