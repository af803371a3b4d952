/-
  Some texts as one: FmRgM, FmCau5, FmChan, FmMapH, CauWalk.
-/
import Derived.Test.YtmnmakhpjgjdaaaZQ
import Derived.Test.YtmnmakhpjgjdaaaZB
import Derived.Maps.RangeRun
import Derived.Test.YtmnmakhpjgjdaaaZFmCau3
import Derived.Test.YtmnmakhpjgjdaaaZR
import Derived.Conc.LoneCalls
import Derived.Test.YtmnmakhpjgjdaaaZDA
import Derived.Test.YtmnmakhpjgjdaaaZA
namespace Go.Proofs.Ytmnmakhpjgjdaaa
set_option linter.unusedVariables false
set_option maxHeartbeats 16000000
section
open Go.RowKit
section
variable {N:Nat} {w0 w:World} {J:JJ} {s:FSt} {a:Act} {β:Nat→Option Nat}
def JJ.pin (J:JJ) (D:Nat) (o:Obj):JJ:={ J with K:=fun b=>J.K b∨b=D,h0:=fun b=>if b=D then some o else J.h0 b }
theorem FR.pin (h:FR N w0 J s a w β) {D:Nat} {o:Obj} (hI:Imm J w β s D) (hno:∀ id,(s.ob id).life≠.dead→(s.ob id).life.mine=true) (hD:w.heap[D]? = some o):FR N w0 (J.pin D o) s a w β:=
 { size:=h.size,defers:=h.defers,bel:=h.bel,fresh0:=fun b hb=>(h.fresh0 b hb).imp id .inl,slot:=h.slot,vers:=h.vers,obj:=h.obj,inj:=h.inj,
   kept:=fun b hb=>by
    show _∧_∧_=if b=D then some o else J.h0 b
    by_cases e:b=D
    ·subst e;rw [if_pos rfl];exact ⟨hI.1,fun id hl=>hI.2.2 id (hno id hl),hD⟩
    ·rw [if_neg e];rcases hb with hb|hb
     ·exact h.kept b hb
     ·exact absurd hb e
   gh:=h.gh }
theorem FR.unlay {J' : JJ} (h:FR N w0 J' s a w β) (hok:∀ b,J'.ok b→J.ok b) (hf:∀ b,w0.heap.size≤b→J b∨J.K b) (hK:∀ b,J.K b→J'.K b∧J'.h0 b=J.h0 b) (hgh:J'.gh=J.gh) (hds:J'.ds=J.ds):FR N w0 J s a w β:=by
 have hI:∀ b,Imm J' w β s b→Imm J w β s b∧w.heap[b]? = w.heap[b]?:=fun b hb=>⟨⟨hb.1,hok b hb.2.1,hb.2.2⟩,rfl⟩
 have T:∀ v f,VR w (Imm J' w β s) β s v f→VR w (Imm J w β s) β s v f:=fun v f hv=>
  hv.mono hI fun id ver _ h1 h2=>⟨h1,h2,rfl,rfl,rfl,fun v o n hv=>hv⟩
 exact { size:=h.size,defers:=h.defers.trans hds,bel:=h.bel,fresh0:=hf,slot:=fun d=>T _ _ (h.slot d),vers:=h.vers,
         obj:=fun id hl=>(h.obj id hl).mono hI (fun b hb=>rfl) (fun v f hv _=>T v f hv) (fun _=>Nat.le_refl _),inj:=h.inj,
         kept:=fun b hb=>by obtain ⟨h1,h2⟩:=hK b hb;rw [← h2];exact h.kept b h1,
         gh:=fun v f hg=>by rw [← hgh] at hg;exact ⟨T v f (h.gh v f hg).1,(h.gh v f hg).2⟩ }
theorem JJ.lay_turn (J:JJ) (D:Nat) (o o' : Obj):(J.lay D o).turn D o'=J.lay D o':=by
 unfold JJ.turn JJ.lay;congr 1;funext b;dsimp only;by_cases e:b=D <;> simp [e]
end
theorem zkP {α:Type} {l:List α} (hn:l.Nodup) {i j:Nat} {x:α} (h1:l[i]? = some x) (h2:l[j]? = some x):i=j:=by
 have hp:=List.pairwise_iff_getElem.1 hn;obtain ⟨hi,e1⟩:=List.getElem?_eq_some_iff.1 h1;obtain ⟨hj,e2⟩:=List.getElem?_eq_some_iff.1 h2;rcases Nat.lt_trichotomy i j with h|h|h
 ·exact absurd (e1.trans e2.symm) (hp i j hi hj h)
 ·exact h
 ·exact absurd (e2.trans e1.symm) (hp j i hj hi h)
section
variable {c:Ctx} {Q:Exit→FSt→Prop}
theorem FW.mapRange {t:List (Nat×FV)} {ob:List (Nat×zq)} {r5 r6 r7 B B2 dm di dn de dy T k e ty1 ty2 ty3 ty4 ty5:Nat} {x:Operand} {p1 p2 p3 p4 p5:String} {af1 af2 af3 af4 af5:Array Edge} {rest7:List Oper} {body:Code} {es:List (List FV)}
  (hx:(⟨t,ob⟩:FSt).ev x=.smap es) (hT:(c.ty T).k=.map k e) (hno:∀ id,((⟨t,ob⟩:FSt).ob id).life≠.dead→((⟨t,ob⟩:FSt).ob id).life.mine=true)
  (hkr:∀ row∈es,∀ kf,row.head? = some kf→∀ (w:World) (I:Nat→Prop),Rd w I kf.val kf) (hfl:∀ row∈es,FV.flat.flats row=true)
  (hd:dm<c.N∧di<c.N∧dn<c.N∧de<c.N∧dy<c.N) (hne:di≠dn∧di≠de∧di≠dy) (inv:List Nat→FSt) (h0:FLe ⟨(di,.undef)::(dm,.smap es)::t,ob⟩ (inv []))
  (hkeep:zcK (.seq (.region r7 (⟨some dy,.entry (.tmp di),ty5,p5,af5,none⟩::rest7).toArray false) body) di=true)
  (round:∀ (is:List Nat) (j:Nat) (row:List FV),is.Nodup→(∀ i∈is,i<es.length)→j∉is→es[j]? = some row→
   zn c (⟨some dy,.entry (.tmp di),ty5,p5,af5,none⟩::rest7).toArray rest7 ⟨(dy,.tup row)::(de,.bool true)::(dn,.undef)::(inv is).t,(inv is).o⟩ (FW c body (fun e s'=>e=.normal∧FLe s' (inv (is++[j])))))
  (done:∀ is:List Nat,is.Nodup→(∀ i,i∈is↔i<es.length)→Q .normal ⟨(de,.bool false)::(dn,.undef)::(inv is).t,(inv is).o⟩) :
  FW c (.seq (.region r5 #[⟨some dm,.move x,ty1,p1,af1,none⟩,⟨some di,.range T (.tmp dm),ty2,p2,af2,none⟩] false)
   (.block B (.loop (.seq (.region r6 #[⟨some dn,.next (.tmp di) false,ty3,p3,af3,none⟩,⟨some de,.extract (.tmp dn) 0,ty4,p4,af4,none⟩] false)
    (.seq (.cond (.tmp de) .skip (.exit B)) (.block B2 (.seq (.region r7 (⟨some dy,.entry (.tmp di),ty5,p5,af5,none⟩::rest7).toArray false) body))))))) Q ⟨t,ob⟩:=by
 intro w0 J a w β hF;obtain ⟨d,ii,z,ht⟩:=c.get hT zc;have hdk:=ht.k;rw [hT] at hdk;obtain rfl:=Xe hdk;obtain ⟨b,clock,ents,ea,hM⟩:=hF.smp hx;have hb0:Imm J w β ⟨t,ob⟩ b:=by
  have hv:=VR.rd (by have:=hF.ev x;rwa [hx] at this) rfl;rw [ea] at hv;generalize he:Value.map (some b)=v at hv;cases hv with
  | smap b' clock' ents' es' hI hb hst hl hk hr => injection he with he; injection he with he; subst he; exact hI
 obtain ⟨QQ,hQQ⟩:∃ QQ:Exit→Act→World→Prop,QQ=fun e a' w'=>∃ s' β',Q e s'∧FR c.N w0 J s' a' w' β':=⟨_,rfl⟩
 rw [← hQQ];obtain ⟨ops7,ho7⟩:∃ ops7:Array Oper,ops7=(⟨some dy,.entry (.tmp di),ty5,p5,af5,none⟩::rest7).toArray:=⟨_,rfl⟩
 rw [← ho7] at hkeep round ⊢;have hsm:VR w (Imm J w β ⟨t,ob⟩) β ⟨t,ob⟩ (.map (some b)) (.smap es):=by have:=hF.ev x;rwa [hx,ea] at this
 have hF1:=hF.put hd.1 hsm (fun id ver hm=>by simp [FV.hands] at hm);obtain ⟨a1,ha1⟩:∃ a1,a1=a.put (some dm) (.map (some b)):=⟨_,rfl⟩
 rw [← ha1] at hF1;have ev1:a1.eval (.tmp dm)=.map (some b):=by
  show a1.tmps.getD dm undef=_;rw [ha1,yo _ _ _ _ (hF.size▸hd.1),if_pos rfl]
 obtain ⟨r,hr0⟩:∃ r,w.heap.size=r:=⟨_,rfl⟩
 obtain ⟨J2,hJ2⟩:∃ J2:Obj→JJ,J2=fun o=>(J.pin b (.map ents clock)).lay r o:=⟨_,rfl⟩
 have hbr:b≠r:=by have:=hb0.1;omega
 have hrw:w0.heap.size≤r:=by have:=hF.bel.size;omega
 have hF2:=(hF1.pin (D:=b) (o:=.map ents clock) ⟨hb0.1,hb0.2.1,hb0.2.2⟩ hno hM.hb).layK (.mapIter (some b) clock #[] clock);rw [hr0] at hF2;have hF2:FR c.N w0 (J2 (.mapIter (some b) clock #[] clock)) ⟨(dm,.smap es)::t,ob⟩ a1 (w.alloc (.mapIter (some b) clock #[] clock)) β:=by rw [hJ2];exact hF2
 have hF3:=hF2.put (f:=.undef) (v:=.pointer (some ⟨r,0,none⟩)) hd.2.1 (VR.of_rd (.undef _) rfl) (fun id ver hm=>by simp [FV.hands] at hm);have hrun0:(Instr.range T (.map (some b))).run c.P w=.ok (.pointer (some ⟨r,0,none⟩)) (w.alloc (.mapIter (some b) clock #[] clock)):=by rw [← hr0];exact run_range_map w T k e b ents clock ht.u hM.hb
 have jK:∀ o,(J2 o).K r∧(J2 o).K b∧¬ (J2 o).ok r∧(J2 o).h0 r=some o∧(J2 o).h0 b=some (.map ents clock):=fun o=>by
  rw [hJ2];refine ⟨.inr rfl,.inl (.inr rfl),fun h=>h.2 rfl,?_,?_⟩
  ·show (if r=r then _ else _)=_;rw [if_pos rfl]
  ·show (if b=r then _ else if b=b then _ else _)=_;rw [if_neg hbr,if_pos rfl]
 have jturn:∀ o o',(J2 o).turn r o'=J2 o':=fun o o'=>by rw [hJ2];exact JJ.lay_turn ..
 have junlay:∀ {s:FSt} {o:Obj} {a:Act} {w' : World} {β:Nat→Option Nat},FR c.N w0 (J2 o) s a w' β→FR c.N w0 J s a w' β:=fun {s o a w' β} h=>h.unlay (fun b hb=>by rw [hJ2] at hb;exact hb.1) hF.fresh0 (fun b' hb'=>by
   rw [hJ2];refine ⟨.inl (.inl hb'),?_⟩;obtain ⟨k1,k2,k3⟩:=hF.kept b' hb';show (if b'=r then _ else if b'=b then _ else _)=_;rw [if_neg za];by_cases e:b'=b
   ·subst e;rw [if_pos rfl,← k3,hM.hb]
   ·rw [if_neg e]) (by rw [hJ2];rfl) (by rw [hJ2];rfl)
 have hold:∀ x∈ents.toList,x.born<clock:=hM.st.1;unfold dwp;unfold dwp;dsimp only;refine wpList_plain rfl fun K1 hK1=>?_;unfold Oper.wp;simp only [execOp,ea];refine hK1 _ _ ?_;rw [← ha1];refine wpList_plain rfl fun K2 hK2=>?_;unfold Oper.wp;simp only [execOp,ev1,Sem.run_bind,hrun0,Result.andThen];refine hK2 _ _ ?_;obtain ⟨β3,hF3⟩:=h0 _ _ _ _ _ _ hF3;have hdi3:(a1.put (some di) (.pointer (some ⟨r,0,none⟩))).tmps.getD di undef=.pointer (some ⟨r,0,none⟩):=by
  rw [yo _ _ _ _ (hF1.size▸hd.2.1),if_pos rfl]
 revert hF3 hdi3;generalize a1.put (some di) (.pointer (some ⟨r,0,none⟩))=a3;generalize w.alloc (.mapIter (some b) clock #[] clock)=w3;intro hF3 hdi3;show dwp c.P (.loop _) (Exit.inBlock B QQ) a3 w3;obtain ⟨II,hII⟩:∃ II:Nat→Act→World→Prop,II=fun n a w=>∃ (is:List Nat) (seen:Array Nat) (cc:Nat) (β:Nat→Option Nat),n=(leftOf ents seen).size∧FR c.N w0 (J2 (.mapIter (some b) clock seen cc)) (inv is) a w β∧
   a.tmps.getD di undef=.pointer (some ⟨r,0,none⟩)∧is.Nodup∧(∀ i∈is,i<es.length)∧(∀ j x,ents[j]? = some x→(seen.contains x.born=true↔j∈is))∧clock≤cc:=⟨_,rfl⟩
 refine ⟨II,(leftOf ents #[]).size,?_,?_⟩
 ·rw [hII];exact ⟨[],#[],clock,β3,rfl,hF3,hdi3,List.nodup_nil,fun i hi=>(by cases hi),fun j x _=>by simp,Nat.le_refl _⟩
 clear hF3 hdi3 a3 w3 β3;intro n a w hin;rw [hII] at hin;obtain ⟨is,seen,cc,β,rfl,hF,hdi,hnd,hlt,hseen,hcc⟩:=hin;have hhr:w.heap[r]? = some (.mapIter (some b) clock seen cc):=((hF.kept r (jK _).1).2.2).trans (jK _).2.2.2.1;have hhb:w.heap[b]? = some (.map ents clock):=((hF.kept b (jK _).2.1).2.2).trans (jK _).2.2.2.2;have evi:a.eval (.tmp di)=.pointer (some ⟨r,0,none⟩):=hdi;unfold dwp;unfold dwp;dsimp only;refine wpList_plain rfl fun K3 hK3=>?_;unfold Oper.wp;rcases run_next_at (P:=c.P) w ty3 r b clock cc seen ents clock hhr hhb hold hcc with ⟨h1,hrun⟩|⟨e1,he1,w1,hal,hrun⟩
 ·simp only [execOp,evi,Sem.run_bind,hrun,Result.andThen];refine hK3 _ _ ?_;have hFa:=hF.put (f:=.undef) (v:=.tuple #[.bool false]) hd.2.2.1 (VR.of_rd (.undef _) rfl) (fun id ver hm=>by simp [FV.hands] at hm);have eva:(a.put (some dn) (.tuple #[.bool false])).eval (.tmp dn)=.tuple #[.bool false]:=by
   show (a.put _ _).tmps.getD dn undef=_;rw [yo _ _ _ _ (hF.size▸hd.2.2.1),if_pos rfl]
  show wpList _ _ _ _ (a.put (some dn) (.tuple #[.bool false])) w;revert hFa eva;generalize a.put (some dn) (.tuple #[.bool false])=aa;intro hFa eva;refine wpList_plain rfl fun K4 hK4=>?_;unfold Oper.wp;simp [execOp,eva,Instr.extract,Result.andThen];refine hK4 _ _ ?_;have hFb:=hFa.put (f:=.bool false) (v:=.bool false) hd.2.2.2.1 (VR.of_rd (.bool _) rfl) (fun id ver hm=>by simp [FV.hands] at hm);have evb:(aa.put (some de) (.bool false)).eval (.tmp de)=.bool false:=by
   show (aa.put _ _).tmps.getD de undef=_;rw [yo _ _ _ _ (hFa.size▸hd.2.2.2.1),if_pos rfl]
  refine ⟨false,evb,(fun e=>by cases e),fun _=>?_⟩;show (if B=B then QQ .normal _ _ else _);rw [if_pos rfl,hQQ];refine ⟨_,β,done is hnd (fun i=>⟨hlt i,fun hi=>?_⟩),junlay hFb⟩;have hi2:i<ents.size:=by rw [hM.sz];exact hi
  exact (hseen i ents[i] (by simp [hi2])).1 (all_seen ents seen h1 _ zc)
 ·simp only [execOp,evi,Sem.run_bind,hrun,Result.andThen];refine hK3 _ _ ?_;have hFw:FR c.N w0 (J2 (.mapIter (some b) clock seen cc)) (inv is) a w1 β:=by
   rcases hal with rfl|rfl
   ·exact hF
   ·exact hF.grow (zoz (Below.refl _ _))
  have hFp:=hFw.putK (D:=r) (jK _).1 (jK _).2.2.1 hrw (.mapIter (some b) clock (seen.push e1.born) clock);rw [jturn] at hFp;have hFp:FR c.N w0 (J2 (.mapIter (some b) clock (seen.push e1.born) clock)) (inv is) a (ChangeMaps.setBlock w1 r (.mapIter (some b) clock (seen.push e1.born) clock)) β:=hFp;revert hFp;generalize ChangeMaps.setBlock w1 r (.mapIter (some b) clock (seen.push e1.born) clock)=w4;intro hFp;obtain ⟨hm1,hm2⟩:=mem_left he1;obtain ⟨j,hj0⟩:=List.getElem?_of_mem hm1;have hj:ents[j]? = some e1:=by simpa using hj0
  have hjn:j∉is:=fun hi=>by have:=(hseen j e1 hj).2 hi;rw [hm2] at this;cases this
  obtain ⟨kf,vf,hrow,hks,hke,hve⟩:=hM.row hj;have hjl:j<es.length:=(List.getElem?_eq_some_iff.1 hrow).1;have hrm:[kf,vf]∈es:=List.mem_of_getElem? hrow;have hvf:vf.flat=true:=FV.flats_get (hfl _ hrm) 1 vf rfl;have hkf:kf.flat=true:=FV.flats_get (hfl _ hrm) 0 kf rfl;have hFa:=hFp.put (f:=.undef) (v:=.tuple #[.bool true,e1.key,e1.val]) hd.2.2.1 (VR.of_rd (.undef _) rfl) (fun id ver hm=>by simp [FV.hands] at hm);have eva:(a.put (some dn) (.tuple #[.bool true,e1.key,e1.val])).eval (.tmp dn)=.tuple #[.bool true,e1.key,e1.val]:=by
   show (a.put _ _).tmps.getD dn undef=_;rw [yo _ _ _ _ (hF.size▸hd.2.2.1),if_pos rfl]
  have kea:(a.put (some dn) (.tuple #[.bool true,e1.key,e1.val])).tmps.getD di undef=.pointer (some ⟨r,0,none⟩):=by
   rw [yo _ _ _ _ (hF.size▸hd.2.2.1),if_neg (fun e=>hne.1 e.symm)];exact hdi
  show wpList _ _ _ _ (a.put (some dn) (.tuple #[.bool true,e1.key,e1.val])) w4;revert hFa eva kea;generalize a.put (some dn) (.tuple #[.bool true,e1.key,e1.val])=aa;intro hFa eva kea;refine wpList_plain rfl fun K4 hK4=>?_;unfold Oper.wp;simp [execOp,eva,Instr.extract,Result.andThen];refine hK4 _ _ ?_;have hFb:=hFa.put (f:=.bool true) (v:=.bool true) hd.2.2.2.1 (VR.of_rd (.bool _) rfl) (fun id ver hm=>by simp [FV.hands] at hm);have evb:(aa.put (some de) (.bool true)).eval (.tmp de)=.bool true:=by
   show (aa.put _ _).tmps.getD de undef=_;rw [yo _ _ _ _ (hFa.size▸hd.2.2.2.1),if_pos rfl]
  have keb:(aa.put (some de) (.bool true)).tmps.getD di undef=.pointer (some ⟨r,0,none⟩):=by
   rw [yo _ _ _ _ (hFa.size▸hd.2.2.2.1),if_neg (fun e=>hne.2.1 e.symm)];exact kea
  show dwp c.P (.seq (.cond (.tmp de) .skip (.exit B)) _) _ (aa.put (some de) (.bool true)) w4;revert hFb evb keb;generalize aa.put (some de) (.bool true)=ab;intro hFb evb keb;refine ⟨true,evb,fun _=>?_,(fun e=>by cases e)⟩;have hbody:dwp c.P (.seq (.region r7 ops7 false) body) (fun e a' w'=>∃ s' β',(e=.normal∧FLe s' (inv (is++[j])))∧FR c.N w0 (J2 (.mapIter (some b) clock (seen.push e1.born) clock)) s' a' w' β') ab w4:=by
   have hr4:w4.heap[r]? = some (.mapIter (some b) clock (seen.push e1.born) clock):=((hFb.kept r (jK _).1).2.2).trans (jK _).2.2.2.1;have hb4:w4.heap[b]? = some (.map ents clock):=((hFb.kept b (jK _).2.1).2.2).trans (jK _).2.2.2.2;have hen:=run_entry_at (P:=c.P) w4 r b clock seen ents clock e1 hr4 hb4 hm1 hM.st.2.1;have evi4:ab.eval (.tmp di)=.pointer (some ⟨r,0,none⟩):=keb;unfold dwp;unfold dwp;rw [ho7];dsimp only;rw [← ho7];refine wpList_plain rfl fun K5 hK5=>?_;unfold Oper.wp;simp only [execOp,evi4,Sem.run_bind,hen,Result.andThen];refine hK5 _ _ ?_;have hrd:Rd w4 (Imm (J2 (.mapIter (some b) clock (seen.push e1.born) clock)) w4 β ⟨(de,.bool true)::(dn,.undef)::(inv is).t,(inv is).o⟩) (.tuple #[e1.key,e1.val]) (.tup [kf,vf]):=by
    have:=RdL.cons (show Rd w4 (Imm (J2 (.mapIter (some b) clock (seen.push e1.born) clock)) w4 β ⟨(de,.bool true)::(dn,.undef)::(inv is).t,(inv is).o⟩) e1.key kf by rw [hke];exact hkr _ hrm kf rfl _ _) (RdL.cons (hve.flat hvf _ _) RdL.nil);exact .tup [e1.key,e1.val] _ this.1 this.2
   have hFe:=hFb.put (f:=.tup [kf,vf]) (v:=.tuple #[e1.key,e1.val]) hd.2.2.2.2 (VR.of_rd hrd rfl) (fun id ver hm=>(FV.no_hands rfl hm).elim);exact round is j [kf,vf] hnd hlt hjn hrow (VQ _) w0 _ _ w4 β (fun s a w β hq hf=>hq w0 _ a w β hf) hFe
  show dwp c.P (.seq (.region r7 ops7 false) body) (Exit.inBlock B2 (Exit.then (fun a w=>∃ m,m<(leftOf ents seen).size∧II m a w) (Exit.inBlock B QQ))) ab w4;refine yy (c:=.seq (.region r7 ops7 false) body) (ZG hbody) ?_;rintro e a' w' ⟨⟨s',β',⟨rfl,hle⟩,hf⟩,hk⟩;obtain ⟨β'',hf''⟩:=hle _ _ _ _ _ _ hf;show ∃ m,m<_∧II m a' w';rw [hII];refine ⟨_,left_shrinks ents seen e1 he1,is++[j],seen.push e1.born,clock,β'',rfl,hf'',(hk di hkeep).trans keb,?_,?_,?_,Nat.le_refl _⟩
  ·exact List.nodup_append.2 ⟨hnd,by simp,fun x hx y hy=>by rw [List.mem_singleton.1 hy];exact fun e=>hjn (e▸hx)⟩
  ·intro i hi;rcases List.mem_append.1 hi with hi|hi
   ·exact hlt i hi
   ·rw [List.mem_singleton.1 hi];exact hjl
  ·intro j' x hx;rw [contains_push,Bool.or_eq_true,hseen j' x hx,List.mem_append,List.mem_singleton];refine or_congr_right ?_;constructor
   ·intro h2;have h2:x.born=e1.born:=by simpa using h2
    exact zkP hM.st.2.1 (show (ents.toList.map (·.born))[j']? = some e1.born by rw [List.getElem?_map,show ents.toList[j']? = some x by simpa using hx,← h2];rfl) (show (ents.toList.map (·.born))[j]? = some e1.born by rw [List.getElem?_map,hj0];rfl)
   ·rintro rfl;rw [hj] at hx;injection hx with hx
    rw [hx];simp
theorem FW.mapRangeNil {t:List (Nat×FV)} {ob:List (Nat×zq)} {r5 r6 r7 B B2 dm di dn de dy T k e ty1 ty2 ty3 ty4 ty5:Nat} {x:Operand} {p1 p2 p3 p4 p5:String} {af1 af2 af3 af4 af5:Array Edge} {rest7:List Oper} {body:Code}
  (hx:(⟨t,ob⟩:FSt).ev x=.nilm) (hT:(c.ty T).k=.map k e) (hd:dm<c.N∧di<c.N∧dn<c.N∧de<c.N)
  (done:Q .normal ⟨(de,.bool false)::(dn,.undef)::(di,.undef)::(dm,.nilm)::t,ob⟩) :
  FW c (.seq (.region r5 #[⟨some dm,.move x,ty1,p1,af1,none⟩,⟨some di,.range T (.tmp dm),ty2,p2,af2,none⟩] false)
   (.block B (.loop (.seq (.region r6 #[⟨some dn,.next (.tmp di) false,ty3,p3,af3,none⟩,⟨some de,.extract (.tmp dn) 0,ty4,p4,af4,none⟩] false)
    (.seq (.cond (.tmp de) .skip (.exit B)) (.block B2 (.seq (.region r7 (⟨some dy,.entry (.tmp di),ty5,p5,af5,none⟩::rest7).toArray false) body))))))) Q ⟨t,ob⟩:=by
 intro w0 J a w β hF;obtain ⟨d,ii,z,ht⟩:=c.get hT zc;have hdk:=ht.k;rw [hT] at hdk;obtain rfl:=Xe hdk;have hsm:VR w (Imm J w β ⟨t,ob⟩) β ⟨t,ob⟩ (a.eval x) .nilm:=by have:=hF.ev x;rwa [hx] at this
 have ea:a.eval x=.map none:=by
  have:=VR.rd hsm rfl;generalize a.eval x=v at this;cases this;rfl
 obtain ⟨QQ,hQQ⟩:∃ QQ:Exit→Act→World→Prop,QQ=fun e a' w'=>∃ s' β',Q e s'∧FR c.N w0 J s' a' w' β':=⟨_,rfl⟩
 rw [← hQQ];rw [ea] at hsm;have hF1:=hF.put hd.1 hsm (fun id ver hm=>by simp [FV.hands] at hm);obtain ⟨a1,ha1⟩:∃ a1,a1=a.put (some dm) (.map none):=⟨_,rfl⟩
 rw [← ha1] at hF1;have ev1:a1.eval (.tmp dm)=.map none:=by
  show a1.tmps.getD dm undef=_;rw [ha1,yo _ _ _ _ (hF.size▸hd.1),if_pos rfl]
 have hF2:=hF1.grow ((Below.refl w.heap.size w).alloc (Nat.le_refl _) (.mapIter none 0 #[] 0));have hF3:=hF2.put (f:=.undef) (v:=.pointer (some ⟨w.heap.size,0,none⟩)) hd.2.1 (VR.of_rd (.undef _) rfl) (fun id ver hm=>by simp [FV.hands] at hm);have hrun0:(Instr.range T (.map none)).run c.P w=.ok (.pointer (some ⟨w.heap.size,0,none⟩)) (w.alloc (.mapIter none 0 #[] 0)):=run_range_nilMap w T k e ht.u;unfold dwp;unfold dwp;dsimp only;refine wpList_plain rfl fun K1 hK1=>?_;unfold Oper.wp;simp only [execOp,ea];refine hK1 _ _ ?_;rw [← ha1];refine wpList_plain rfl fun K2 hK2=>?_;unfold Oper.wp;simp only [execOp,ev1,Sem.run_bind,hrun0,Result.andThen];refine hK2 _ _ ?_;have hdi3:(a1.put (some di) (.pointer (some ⟨w.heap.size,0,none⟩))).eval (.tmp di)=.pointer (some ⟨w.heap.size,0,none⟩):=by
  show (a1.put _ _).tmps.getD di undef=_;rw [yo _ _ _ _ (hF1.size▸hd.2.1),if_pos rfl]
 show dwp c.P (.loop _) (Exit.inBlock B QQ) (a1.put (some di) (.pointer (some ⟨w.heap.size,0,none⟩))) (w.alloc (.mapIter none 0 #[] 0));revert hF3 hdi3;generalize a1.put (some di) (.pointer (some ⟨w.heap.size,0,none⟩))=a3;intro hF3 hdi3;refine ⟨fun _ a' w'=>a'=a3∧w'=w.alloc (.mapIter none 0 #[] 0),0,⟨rfl,rfl⟩,?_⟩;rintro n a' w' ⟨rfl,rfl⟩;unfold dwp;unfold dwp;dsimp only;refine wpList_plain rfl fun K3 hK3=>?_;unfold Oper.wp;simp only [execOp,hdi3,Sem.run_bind,run_next_nilMap,Result.andThen];refine hK3 _ _ ?_;have hFa:=hF3.put (f:=.undef) (v:=.tuple #[.bool false]) hd.2.2.1 (VR.of_rd (.undef _) rfl) (fun id ver hm=>by simp [FV.hands] at hm);have eva:(a'.put (some dn) (.tuple #[.bool false])).eval (.tmp dn)=.tuple #[.bool false]:=by
  show (a'.put _ _).tmps.getD dn undef=_;rw [yo _ _ _ _ (hF3.size▸hd.2.2.1),if_pos rfl]
 show wpList _ _ _ _ (a'.put (some dn) (.tuple #[.bool false])) _;revert hFa eva;generalize a'.put (some dn) (.tuple #[.bool false])=aa;intro hFa eva;refine wpList_plain rfl fun K4 hK4=>?_;unfold Oper.wp;simp [execOp,eva,Instr.extract,Result.andThen];refine hK4 _ _ ?_;have hFb:=hFa.put (f:=.bool false) (v:=.bool false) hd.2.2.2 (VR.of_rd (.bool _) rfl) (fun id ver hm=>by simp [FV.hands] at hm);have evb:(aa.put (some de) (.bool false)).eval (.tmp de)=.bool false:=by
  show (aa.put _ _).tmps.getD de undef=_;rw [yo _ _ _ _ (hFa.size▸hd.2.2.2),if_pos rfl]
 refine ⟨false,evb,(fun e=>by cases e),fun _=>?_⟩;show (if B=B then QQ .normal _ _ else _);rw [if_pos rfl,hQQ];exact ⟨_,β,done,hFb⟩
end
def yU (p:Nat×Nat):List FV:=[.int .i64 (p.1:Int),.int .i64 (p.2:Int)]
def xk:Option (List (Nat×Nat))→FV
 | some L => .smap (L.map yU)
 | none => .nilm
def yH (K:Nat→Option (List (Nat×Nat))) (i:Nat):List (Nat×Nat):=(List.range i).flatMap fun a=>((K a).getD []).map fun p=>(a,p.1)
theorem WL (K:Nat→Option (List (Nat×Nat))) (i:Nat):yH K (i+1)=yH K i++((K i).getD []).map fun p=>(i,p.1):=by
 unfold yH;rw [List.range_succ,List.flatMap_append];simp
theorem zjf {is:List Nat} {m:Nat} (h:is.Nodup) (hm:∀ i,i∈is↔i<m):is.Perm (List.range m):=
 (List.perm_ext_iff_of_nodup h List.nodup_range).2 fun i=>(hm i).trans List.mem_range.symm
theorem zdN {α β:Type} [Inhabited α] (l:List α) (f:α→β):(List.range l.length).map (fun i=>f (nth l i))=l.map f:=by
 apply List.ext_getElem
 ·simp
 ·intro i h1 h2;simp only [List.getElem_map,List.getElem_range];rw [nth_eq (by simpa using h2)]
theorem zcL {α:Type} [BEq α] [LawfulBEq α]:∀ {l m:List α},l.Nodup→(∀ x∈l,x∈m)→l.length≤m.length
 | [], m, _, _ => Nat.zero_le _
 | x :: l, m, hn, hs => by
  have h1:=List.nodup_cons.1 hn;have hx:=hs x zc;have hl:=List.length_erase_of_mem hx;have hpos:0<m.length:=List.length_pos_of_mem hx;have:=zcL (m:=m.erase x) h1.2 fun y hy=>(List.mem_erase_of_ne (fun e:y=x=>h1.1 (by rw [← e];exact hy))).2 (hs y (by simp [hy]));rw [List.length_cons];omega
theorem XZ {K:Nat→Option (List (Nat×Nat))}:∀ {i n:Nat},i≤n→(∀ a L,a<n→K a=some L→L.length≤2000)→(yH K i).length≤2000 * i
 | 0, _, _, _ => Nat.le_refl _
 | i+1, n, h, hK => by
  rw [WL,List.length_append,List.length_map];have h1:=XZ (i:=i) (n:=n) za hK;cases hk:K i with
  | none => simp; omega
  | some L => have := hK i L za hk; simp; omega
theorem zhR {t:List (Nat×FV)}:∀ {ob:List (Nat×zq)},(∀ p∈ob,p.2.life.mine=true)→∀ id,((⟨t,ob⟩:FSt).ob id).life≠.dead→((⟨t,ob⟩:FSt).ob id).life.mine=true
 | [], _, id, h => absurd rfl h
 | (i, b) :: ob, hp, id, h => by
  have hh:(⟨t,(i,b)::ob⟩:FSt).ob id=if i=id then b else (⟨t,ob⟩:FSt).ob id:=zI ..
  rw [hh] at h ⊢;split
  ·exact hp (i,b) List.mem_cons_self
  ·rename_i e;rw [if_neg e] at h;exact zhR (fun p hq=>hp p (List.mem_cons_of_mem _ hq)) id h
theorem zfk {res:FV} {o:Nat→zq} (h:res.cl []=true):YV [] [] res o where
 old k hk:=by cases hk
 new k hk:=by cases hk
 cl k hk:=by cases hk
 res:=h
def zoQ (K:Nat→Option (List (Nat×Nat))) (n:Nat) (res:FV) (_:Nat→zq):Prop:=∃ P:List (Nat×Nat),P.Perm (yH K n)∧res=.list 2 (P.map edf)
theorem zcP (r1 r2 f1:FV) (K:Nat→Option (List (Nat×Nat))) (n:Nat) (hn:n≤1000) (hK:∀ i L,i<n→K i=some L→L.length≤2000∧∀ p∈L,p.1<1000) :
  yD Try.prog 37 [.eptr 4 [[r1,f1,r2,.list 1 ((List.range n).map fun q=>[xk (K q)])]] 0 0] [] [] (zoQ K n):=by
 refine yD.of_body (c:=(xx Try.prog zE zt 31)) ⟨Try.func37,rfl,Try.ntmps37,by kernel_rfl⟩ zw (fun res o ⟨P,_,e⟩=>zfk (by rw [e];rfl)) ?_;change FW _ _ _ ⟨[(0,.eptr 4 [[r1,f1,r2,.list 1 ((List.range n).map fun q=>[xk (K q)])]] 0 0)],[]⟩;refine zb ?_;rw [List.length_range];refine FW.loop (fun x:Nat×List (Nat×Nat)=>⟨[(3,.own 100 0 0 x.2.length),(10,.list 1 ((List.range n).map fun q=>[xk (K q)])),(11,.int .i64 n),(12,.int .i64 x.1)],[(100,⟨0,.own,75,2,x.2.map edf⟩)]⟩) (fun x=>x.1≤n∧x.2.Perm (yH K x.1)) (fun x=>n - x.1) (0,[]) ⟨Nat.zero_le _,.refl _⟩ ?_ ?_
 ·exact (FLe.cv [⟨100,none,0,⟨0,.own,75,2,[]⟩⟩] zf zd)
 rintro ⟨i,P⟩ ⟨hi,hP⟩;dsimp only at hi hP ⊢;refine zb ?_;refine FW.cond rfl (fun h=>?_) (fun h=>?_)
 ·have hlt:i<n:=by simpa using h
  clear h;have hcell:(List.map (fun q=>[xk (K q)]) (List.range n)).getD i []=[xk (K i)]:=by rw [List.getD_eq_getElem?_getD,xF n i _ hlt];rfl
  obtain ⟨C,hC⟩:∃ C,C=List.map (fun q=>[xk (K q)]) (List.range n):=⟨_,rfl⟩
  have hCl:i<C.length:=by rw [hC];simpa using hlt
  rw [← hC] at hcell ⊢;have hsucc:=WL K i;refine zb ?_;cases hk:K i with
  | none =>
   rw [hk] at hcell hsucc;refine xc rfl rfl rfl hCl hcell rfl rfl rfl rfl ?_
   (repeat (first|refine zn.nil ?_|refine zV rfl rfl rfl ?_))
   change FW _ _ _ _;refine FW.mapRangeNil rfl rfl zg ?_;refine zb ?_;refine ⟨(i+1,P),⟨by show i+1≤n;omega,by rw [hsucc];simpa using hP⟩,by show n - (i+1)<n - i;omega,?_⟩;subst hC;exact (FLe.cv [⟨100,some 100,0,⟨0,.own,75,2,P.map edf⟩⟩] zf zd)
  | some L=>
   rw [hk] at hcell hsucc;refine xc rfl rfl rfl hCl hcell rfl rfl rfl rfl ?_
   (repeat (first|refine zn.nil ?_|refine zV rfl rfl rfl ?_))
   change FW _ _ _ _;refine FW.mapRange (inv:=fun is=>⟨[(3,.own 100 0 0 (P++is.map fun j=>(i,(nth L j).1)).length),(4,.int .i64 i),(10,.list 1 C),(11,.int .i64 n),(12,.int .i64 i)],[(100,⟨0,.own,75,2,(P++is.map fun j=>(i,(nth L j).1)).map edf⟩)]⟩) rfl rfl ?_ ?_ ?_ zg zg ?_ zj ?_ ?_
   ·exact zhR (fun p hp=>by rw [List.mem_singleton.1 hp];rfl)
   ·intro row hr kf hk2 w I;obtain ⟨p,_,rfl⟩:=List.mem_map.1 hr;injection hk2 with hk2
    subst hk2;exact .int _ _
   ·intro row hr;obtain ⟨p,_,rfl⟩:=List.mem_map.1 hr;rfl
   ·simp only [List.map_nil,List.append_nil];exact (FLe.cv [⟨100,some 100,0,⟨0,.own,75,2,P.map edf⟩⟩] zf zd)
   ·intro is j row hisn hil hjn hrow;obtain ⟨hjl,hre⟩:=List.getElem?_eq_some_iff.1 hrow;have hjl2:j<L.length:=by simpa using hjl
    have hre:row=yU (nth L j):=by rw [← hre,List.getElem_map,nth_eq hjl2]
    subst hre;obtain ⟨P',hP'⟩:∃ P',(P++is.map fun j=>(i,(nth L j).1))=P':=⟨_,rfl⟩
    have hnx:(P++(is++[j]).map fun j=>(i,(nth L j).1))=P'++[(i,(nth L j).1)]:=by rw [List.map_append,← List.append_assoc,hP'];rfl
    have hPl:P'.length≤2002000:=by
     rw [← hP',List.length_append,List.length_map,hP.length_eq];have h1:=XZ (K:=K) (i:=i) (n:=n) hi (fun a L ha hl=>(hK a L ha hl).1);have h2:=zcL hisn (m:=List.range L.length) (fun k hk2=>List.mem_range.2 (by simpa using hil k hk2));have h3:=(hK i L hlt hk).1;rw [List.length_range] at h2;have:2000 * i≤2000 * 1000:=Nat.mul_le_mul_left _ za;omega
    rw [hP',hnx];generalize nth L j=p;unfold yU;refine zb ?_;refine ⟨rfl,?_⟩;rw [List.map_append,show (P'++[(i,p.1)]).length=P'.length+1 by simp,show (P'.map edf++[[FV.int .i64 (i:Int),.int .i64 (p.1:Int)]]).length=P'.length+1 by simp];exact (FLe.cv [⟨100,some 28,0+1,⟨0,.own,75,2,P'.map edf++[(i,p.1)].map edf⟩⟩] zf zd)
   ·intro is hnd hall;have hpm:(P++is.map fun j=>(i,(nth L j).1)).Perm (yH K (i+1)):=by
     rw [hsucc];refine hP.append ?_;have:=(zjf hnd (m:=L.length) (fun k=>(hall k).trans zc)).map (fun j=>(i,(nth L j).1));rw [zdN L (fun p=>(i,p.1))] at this;exact this
    dsimp only;obtain ⟨P',hP'⟩:∃ P',(P++is.map fun j=>(i,(nth L j).1))=P':=⟨_,rfl⟩
    rw [hP'] at hpm ⊢;refine zb ?_;refine ⟨(i+1,P'),⟨by show i+1≤n;omega,hpm⟩,by show n - (i+1)<n - i;omega,?_⟩;subst hC;exact (FLe.cv [⟨100,some 100,0,⟨0,.own,75,2,P'.map edf⟩⟩] zf zd)
 ·have hin:i=n:=by simp at h;omega
  subst hin;refine zb ?_;refine FW.le (s':=⟨[(2,.list 2 (P.map edf))],[]⟩) (FW.ret ⟨.inl rfl,_,.tmp rfl rfl,P,hP,rfl⟩) ?_;exact (FLe.share 2 rfl rfl zc).trans (FLe.cv [] zB zd)
def Uw (P:Program) (ops:Array Oper) (Q:Exit→Act→World→Prop) (l:List Nat) (a:Act) (w:World):Prop:=
 ∀ (b:Frame) (k:List Item) (cs:List Frame),∃ e a' w',Q e a' w'∧Arrives P (lone (b.at a (.inRegion ops l::k)) cs w) b k cs e a' w'
section
variable {P:Program} {ops:Array Oper} {Q:Exit→Act→World→Prop} {a:Act} {w:World} {i:Nat} {rest:List Nat} {o:Oper}
theorem Uw.nil (h:Q .normal a w):Uw P ops Q [] a w:=fun _ _ _=>⟨.normal,a,w,h,.one step_region_end⟩
theorem zbU (hg:o.guard=none):Region.wanted o (yielded ops a.tmps)=true:=by simp only [Region.wanted,hg]
theorem Uw.plain {v:Value} {w' : World} (ho:ops[i]? = some o) (hg:o.guard=none) (hr:(execOp a.eval o).run P w=.ok (.value v) w') (h:Uw P ops Q rest (a.put o.dst v) w'):Uw P ops Q (i::rest) a w:=fun b k cs=>by
 have hgop:=stepG_op (P:=P) (b:=b) (a:=a) (k:=k) (cs:=cs) (w:=w) (rest:=rest) ho (zbU hg);have hfin:∀ v,(b.at a (.inRegion ops (i::rest)::k)).finish v=b.at (a.put o.dst v) (.inRegion ops rest::k):=by
  intro v;rw [Frame.finish_at,ho];rfl
 obtain ⟨e,a',w'',hq,harr⟩:=h b k cs;refine ⟨e,a',w'',hq,.of_steps (.one (step_lone_go ?_)) harr⟩;rw [hgop,← hfin];simp [stepG.apply,hr]
theorem zeC {cases:Array CommCase} {blocking:Bool} {shape:CommShape} {w' : World} (ho:ops[i]? = some o) (hg:o.guard=none) (hr:(execOp a.eval o).run P w=.ok (.comm cases blocking shape) w') (b:Frame) (k:List Item) (cs:List Frame) :
  ∃ es,stepG P true (Conc.G (b.at a (.inRegion ops (i::rest)::k)) cs) w=.comm (Conc.G (b.at a (.inRegion ops (i::rest)::k)) cs) cases blocking shape w' es:=by
 rw [Conc.stepG_oper ho (zbU hg)];simp [stepG.apply,hr,Conc.G,Frame.at,GStep.after]
theorem Uw.send {x y:Operand} {c cap s r:Nat} {buf:Array Value} {tm:Bool} {v:Value} (ho:ops[i]? = some o) (hg:o.guard=none) (hop:o.op=.send x y) (hx:a.eval x=.chan (some c)) (hy:a.eval y=v) (hc:w.heap[c]? = some (.chan cap buf false s r tm)) (hroom:buf.size<cap)
  (h:Uw P ops Q rest (a.put o.dst undef) (w.setChan c cap (buf.push v) false (s+1) r tm)):Uw P ops Q (i::rest) a w:=fun b k cs=>by
 have hr:(execOp a.eval o).run P w=.ok (.comm #[Conc.scase c v (.tuple #[])] true .send) w:=by simp [execOp,hop,hx,hy,Conc.scase]
 obtain ⟨es,hst⟩:=zeC (rest:=rest) ho hg hr b k cs;have hstep:=Conc.step_lone_send_room hst hc hroom;rw [Frame.finish_at,ho] at hstep;obtain ⟨e,a',w'',hq,harr⟩:=h b k cs;exact ⟨e,a',w'',hq,.of_steps (.one hstep) harr⟩
theorem Uw.recv {T:Nat} {x:Operand} {c cap s r e:Nat} {dir:ChanDir} {buf:Array Value} {tm closed:Bool} {z:Value} (ho:ops[i]? = some o) (hg:o.guard=none) (hop:o.op=.recv T x false) (hT:P.underlying T=some (.chan dir e)) (hz:(zeroValue e).run P w=.ok z w) (hx:a.eval x=.chan (some c))
  (hc:w.heap[c]? = some (.chan cap buf closed s r tm)) (hsome:0<buf.size) (h:Uw P ops Q rest (a.put o.dst (buf.getD 0 undef)) (w.setChan c cap (buf.extract 1 buf.size) closed s (r+1) tm)):Uw P ops Q (i::rest) a w:=fun b k cs=>by
 have hr:(execOp a.eval o).run P w=.ok (.comm #[Conc.rcase c z] true (.recv false)) w:=by simp [execOp,hop,hx,Conc.rcase,run_underlying hT,hz,Result.andThen]
 obtain ⟨es,hst⟩:=zeC (rest:=rest) ho hg hr b k cs;have hstep:=Conc.step_lone_recv_buf false hst hc hsome;rw [Frame.finish_at,ho] at hstep;obtain ⟨e,a',w'',hq,harr⟩:=h b k cs;exact ⟨e,a',w'',hq,.of_steps (.one hstep) harr⟩
theorem zh5 {id:Nat} (h:Uw P ops Q (List.range ops.size) a w):(Code.region id ops false).wp P Q a w:=fun b k cs=>
 let ⟨e,a',w',q,r⟩:=h b k cs
 ⟨e,a',w',q,.of_steps (.one step_region) r⟩
end
structure Ch where
 d:Nat
 cid:Nat
 cap:Nat
def Ch.obj (h:Ch) (q:List Int) (s r:Nat):Obj:=.chan h.cap (q.map (Value.int .i64)).toArray false s r false
def ChR (c:Ctx) (w0:World) (J:JJ) (h:Ch) (q:List Int) (s:FSt) (a:Act) (w:World):Prop:=
 ∃ β sN rN,FR c.N w0 (J.lay h.cid (h.obj q sN rN)) s a w β∧a.tmps.getD h.d undef=.chan (some h.cid)∧w0.heap.size≤h.cid
def CW (c:Ctx) (w0:World) (J:JJ) (h:Ch) (code:Code) (Q:Exit→FSt→List Int→Prop) (s:FSt) (q:List Int):Prop:=
 ∀ (a:Act) (w:World),ChR c w0 J h q s a w→code.wp c.P (fun e a' w'=>∃ s' q',Q e s' q'∧ChR c w0 J h q' s' a' w') a w
def zo7 (next:FSt→List Int→Prop) (Q:Exit→FSt→List Int→Prop):Exit→FSt→List Int→Prop
 | .normal, s, q => next s q
 | e, s, q => Q e s q
def znl (id:Nat) (Q:Exit→FSt→List Int→Prop):Exit→FSt→List Int→Prop
 | .exit id', s, q => if id'=id then Q .normal s q else Q (.exit id') s q
 | e, s, q => Q e s q
section
variable {c:Ctx} {w0:World} {J:JJ} {h:Ch} {Q:Exit→FSt→List Int→Prop} {s:FSt} {q:List Int}
theorem CW.of {code:Code} (hn:zcK code h.d=true) (hf:FW c code (fun e s'=>Q e s' q) s):CW c w0 J h code Q s q:=by
 rintro a w ⟨β,sN,rN,hF,hd,h0⟩;refine wp_mono (Xo c.mixed (ZG (hf w0 _ a w β hF))) ?_;rintro e a' w' ⟨⟨s',β',hq,hf'⟩,hk⟩;exact ⟨s',q,hq,β',sN,rN,hf',(hk _ hn).trans hd,h0⟩
theorem CW.seq {x y:Code} (hx:CW c w0 J h x (zo7 (CW c w0 J h y Q) Q) s q):CW c w0 J h (.seq x y) Q s q:=fun a w hr=>
 wp_seq (wp_mono (hx a w hr) fun e a' w' ⟨s',q',hq,hr'⟩=>by
  cases e with
  | normal => exact hq a' w' hr'
  | _ => exact ⟨s', q', hq, hr'⟩)
theorem CW.block {id:Nat} {x:Code} (hx:CW c w0 J h x (znl id Q) s q):CW c w0 J h (.block id x) Q s q:=fun a w hr=>
 wp_block (wp_mono (hx a w hr) fun e a' w' ⟨s',q',hq,hr'⟩=>by
  cases e with
  | exit id' =>
   simp only [Exit.inBlock];simp only [znl] at hq;split
   ·rename_i e;rw [if_pos e] at hq;exact ⟨s',q',hq,hr'⟩
   ·rename_i e;rw [if_neg e] at hq;exact ⟨s',q',hq,hr'⟩
  | _ => exact ⟨s', q', hq, hr'⟩)
theorem CW.skip (hq:Q .normal s q):CW c w0 J h .skip Q s q:=fun _ _ hr=>wp_skip ⟨s,q,hq,hr⟩
theorem CW.exit {id:Nat} (hq:Q (.exit id) s q):CW c w0 J h (.exit id) Q s q:=fun _ _ hr=>wp_exit ⟨s,q,hq,hr⟩
theorem CW.cond {cnd:Operand} {x y:Code} {b:Bool} (hc:s.ev cnd=.bool b) (ht:b=true→CW c w0 J h x Q s q) (hf:b=false→CW c w0 J h y Q s q):CW c w0 J h (.cond cnd x y) Q s q:=fun a w hr=>by
 obtain ⟨β,sN,rN,hF,hd⟩:=hr;exact wp_cond_split (hF.ev_bool hc) (fun e=>ht e a w ⟨β,sN,rN,hF,hd⟩) (fun e=>hf e a w ⟨β,sN,rN,hF,hd⟩)
theorem CW.loop {σ:Type} {body:Code} (inv:σ→FSt) (qs:σ→List Int) (pre:σ→Prop) (μ:σ→Nat) (x0:σ) (h0:pre x0) (hq:qs x0=q) (hs:FLe s (inv x0))
  (round:∀ x,pre x→CW c w0 J h body (zo7 (fun s' q'=>∃ x',pre x'∧μ x'<μ x∧qs x'=q'∧FLe s' (inv x')) Q) (inv x) (qs x)):CW c w0 J h (.loop body) Q s q:=by
 subst hq;rintro a w ⟨β,sN,rN,hF,hd⟩;obtain ⟨β0,hF0⟩:=hs _ _ _ _ _ _ hF;have key:∀ n x,μ x=n→pre x→∀ a w,ChR c w0 J h (qs x) (inv x) a w→(Code.loop body).wp c.P (fun e a' w'=>∃ s' q',Q e s' q'∧ChR c w0 J h q' s' a' w') a w:=by
  intro n x hx hp a w hr;refine wp_loop_ghost (fun n a w=>∃ x,pre x∧μ x=n∧ChR c w0 J h (qs x) (inv x) a w) n ⟨x,hp,hx,hr⟩ ?_;rintro n a w ⟨x,hp,rfl,hr⟩;refine wp_mono (round x hp a w hr) ?_;rintro e a' w' ⟨s',q',hq,hr'⟩;cases e with
  | normal =>
   obtain ⟨x',h1,h2,h3,h4⟩:=hq;subst h3;obtain ⟨β,sN,rN,hF,hd⟩:=hr';obtain ⟨β2,hF2⟩:=h4 _ _ _ _ _ _ hF;exact ⟨μ x',h2,x',h1,rfl,β2,sN,rN,hF2,hd⟩
  | _ => exact ⟨s', q', hq, hr'⟩
 exact key _ x0 rfl h0 a w ⟨β0,sN,rN,hF0,hd⟩
end
section
variable {c:Ctx} {w0:World} {J:JJ} {h:Ch} {Q:Exit→FSt→List Int→Prop} {t:List (Nat×FV)} {ob:List (Nat×zq)} {q:List Int}
theorem zoN {w:World} {β:Nat→Option Nat} {s:FSt} {I:Nat→Prop} {v:Value}:VR w I β s v .undef:=VR.of_rd (.undef _) rfl
theorem zds {s:FSt} {a:Act} {w:World} {β:Nat→Option Nat} {sN rN:Nat} (hF:FR c.N w0 (J.lay h.cid (h.obj q sN rN)) s a w β):w.heap[h.cid]? = some (h.obj q sN rN):=((hF.kept h.cid (.inr rfl)).2.2).trans (by show (if h.cid=h.cid then _ else _)=_;rw [if_pos rfl])
theorem zhr {s:FSt} {a:Act} {w:World} {β:Nat→Option Nat} {o o' : Obj} (hF:FR c.N w0 (J.lay h.cid o) s a w β) (h0:w0.heap.size≤h.cid):FR c.N w0 (J.lay h.cid o') s a (w.putObj h.cid o') β:=by
 have:=hF.putK (D:=h.cid) (.inr rfl) (fun h=>h.2 rfl) h0 o';rwa [JJ.lay_turn] at this
theorem CW.send {id d1 d2 ty1 ty2 ty3:Nat} {y:Operand} {p1 p2 p3:String} {af1 af2 af3:Array Edge} {v:Int} (hy:(⟨(d1,.undef)::t,ob⟩:FSt).ev y=.int .i64 v) (hroom:q.length<h.cap) (hd:d1<c.N∧d2<c.N∧d1≠d2∧d1≠h.d∧d2≠h.d)
  (k:Q .normal ⟨(d2,.int .i64 v)::(d1,.undef)::t,ob⟩ (q++[v])) :
  CW c w0 J h (.region id #[⟨some d1,.move (.tmp h.d),ty1,p1,af1,none⟩,⟨some d2,.move y,ty2,p2,af2,none⟩,⟨none,.send (.tmp d1) (.tmp d2),ty3,p3,af3,none⟩] false) Q ⟨t,ob⟩ q:=by
 rintro a w ⟨β,sN,rN,hF,hc,h0⟩;refine zh5 ?_;change Uw _ _ _ [0,1,2] a w;have e1:a.eval (.tmp h.d)=.chan (some h.cid):=hc;have hF1:=hF.put (d:=d1) (f:=.undef) (v:=.chan (some h.cid)) hd.1 zoN (fun id ver hm=>by simp [FV.hands] at hm);refine Uw.plain rfl rfl (v:=.chan (some h.cid)) (w':=w) (by simp [execOp,e1]) ?_;change Uw _ _ _ _ (a.put (some d1) (.chan (some h.cid))) w;have hg1:∀ k,(a.put (some d1) (.chan (some h.cid))).tmps.getD k undef=if d1=k then .chan (some h.cid) else a.tmps.getD k undef:=fun k=>yo _ _ _ _ (hF.size▸hd.1)
 revert hF1 hg1;generalize a.put (some d1) (.chan (some h.cid))=a1;intro hF1 hg1;have hy1:a1.eval y=.int .i64 v:=by
  have hv:=VR.rd (by have:=hF1.ev y;rwa [show ((⟨t,ob⟩:FSt).put d1 .undef).ev y=.int .i64 v from hy] at this) rfl;generalize a1.eval y=u at hv;cases hv;rfl
 have hF2:=hF1.put (d:=d2) (f:=.int .i64 v) (v:=.int .i64 v) hd.2.1 (VR.of_rd (.int _ _) rfl) (fun id ver hm=>by simp [FV.hands] at hm);refine Uw.plain rfl rfl (v:=.int .i64 v) (w':=w) (by simp [execOp,hy1]) ?_;change Uw _ _ _ _ (a1.put (some d2) (.int .i64 v)) w;have hg2:∀ k,(a1.put (some d2) (.int .i64 v)).tmps.getD k undef=if d2=k then .int .i64 v else a1.tmps.getD k undef:=fun k=>yo _ _ _ _ (hF1.size▸hd.2.1)
 revert hF2 hg2;generalize a1.put (some d2) (.int .i64 v)=a2;intro hF2 hg2;have hch:=zds hF2;refine Uw.send rfl rfl rfl (c:=h.cid) (v:=.int .i64 v) ?_ ?_ hch (by simpa using hroom) ?_
 ·show a2.tmps.getD d1 undef=_;rw [hg2,if_neg (fun e=>hd.2.2.1 e.symm),hg1,if_pos rfl]
 ·show a2.tmps.getD d2 undef=_;rw [hg2,if_pos rfl]
 refine Uw.nil ⟨_,_,k,β,sN+1,rN,?_,?_,h0⟩
 ·have:=zhr (o':=h.obj (q++[v]) (sN+1) rN) hF2 h0;have e:w.setChan h.cid h.cap ((q.map (Value.int .i64)).toArray.push (.int .i64 v)) false (sN+1) rN false=w.putObj h.cid (h.obj (q++[v]) (sN+1) rN):=by
   unfold Ch.obj World.setChan World.putObj;simp
  rw [e];exact this
 ·show a2.tmps.getD h.d undef=_;rw [hg2,if_neg hd.2.2.2.2,hg1,if_neg hd.2.2.2.1];exact hc
theorem CW.recv {id d1 d2 d3 T e bb ty1 ty2 ty3:Nat} {dir:ChanDir} {p1 p2 p3:String} {af1 af2 af3:Array Edge} {v:Int} {ag:Bool} (hT:c.P.underlying T=some (.chan dir e)) (he:(c.ty e).k.agg? = some ag) (hd:d1<c.N∧d2<c.N∧d3<c.N∧d1≠h.d∧d2≠h.d∧d3≠h.d)
  (k:Q .normal ⟨(d3,.int .i64 v)::(d2,.int .i64 v)::(d1,.undef)::t,ob⟩ q) :
  CW c w0 J h (.region id #[⟨some d1,.move (.tmp h.d),ty1,p1,af1,none⟩,⟨some d2,.recv T (.tmp d1) false,ty2,p2,af2,none⟩,⟨some d3,.assign (.tmp d2),ty3,p3,af3,none⟩] false) Q ⟨t,ob⟩ (v::q):=by
 rintro a w ⟨β,sN,rN,hF,hc,h0⟩;refine zh5 ?_;change Uw _ _ _ [0,1,2] a w;have e1:a.eval (.tmp h.d)=.chan (some h.cid):=hc;have hF1:=hF.put (d:=d1) (f:=.undef) (v:=.chan (some h.cid)) hd.1 zoN (fun id ver hm=>by simp [FV.hands] at hm);refine Uw.plain rfl rfl (v:=.chan (some h.cid)) (w':=w) (by simp [execOp,e1]) ?_;change Uw _ _ _ _ (a.put (some d1) (.chan (some h.cid))) w;have hg1:∀ k,(a.put (some d1) (.chan (some h.cid))).tmps.getD k undef=if d1=k then .chan (some h.cid) else a.tmps.getD k undef:=fun k=>yo _ _ _ _ (hF.size▸hd.1)
 revert hF1 hg1;generalize a.put (some d1) (.chan (some h.cid))=a1;intro hF1 hg1;have hch:=zds hF1;obtain ⟨z,hz,_⟩:=zbH he w (fun _=>False);have hput:w.setChan h.cid h.cap (((v::q).map (Value.int .i64)).toArray.extract 1 ((v::q).map (Value.int .i64)).toArray.size) false sN (rN+1) false=w.putObj h.cid (h.obj q sN (rN+1)):=by
  unfold Ch.obj World.setChan World.putObj;simp;rw [List.take_of_length_le zc]
 refine Uw.recv rfl rfl rfl hT hz (c:=h.cid) ?_ hch zc ?_
 ·show a1.tmps.getD d1 undef=_;rw [hg1,if_pos rfl]
 rw [hput];change Uw _ _ _ _ (a1.put (some d2) (.int .i64 v)) _;have hF2:=(zhr (o':=h.obj q sN (rN+1)) hF1 h0).put (d:=d2) (f:=.int .i64 v) (v:=.int .i64 v) hd.2.1 (VR.of_rd (.int _ _) rfl) (fun id ver hm=>by simp [FV.hands] at hm);have hg2:∀ k,(a1.put (some d2) (.int .i64 v)).tmps.getD k undef=if d2=k then .int .i64 v else a1.tmps.getD k undef:=fun k=>yo _ _ _ _ (hF1.size▸hd.2.1)
 revert hF2 hg2;generalize a1.put (some d2) (.int .i64 v)=a2;generalize w.putObj h.cid (h.obj q sN (rN+1))=w2;intro hF2 hg2;have e2:a2.eval (.tmp d2)=.int .i64 v:=by
  show a2.tmps.getD d2 undef=_;rw [hg2,if_pos rfl]
 have hF3:=hF2.put (d:=d3) (f:=.int .i64 v) (v:=.int .i64 v) hd.2.2.1 (VR.of_rd (.int _ _) rfl) (fun id ver hm=>by simp [FV.hands] at hm);refine Uw.plain rfl rfl (v:=.int .i64 v) (w':=w2) (by simp [execOp,e2]) ?_;refine Uw.nil ⟨_,_,k,β,sN,rN+1,hF3,?_,h0⟩;show (a2.put (some d3) (.int .i64 v)).tmps.getD h.d undef=_;rw [yo _ _ _ _ (hF2.size▸hd.2.2.1),if_neg hd.2.2.2.2.2,hg2,if_neg hd.2.2.2.2.1,hg1,if_neg hd.2.2.2.1];exact hc
end
section
variable {c:Ctx} {w0:World} {J:JJ} {h:Ch} {Q:Exit→FSt→List Int→Prop} {t:List (Nat×FV)} {ob:List (Nat×zq)} {q:List Int}
theorem zf0 {P:Program} {T e ty:Nat} {dir:ChanDir} {w:World} {cid cap s r:Nat} {buf:Array Value} {cl:Bool} (hT:P.underlying T=some (.chan dir e)) (hc:w.heap[cid]? = some (.chan cap buf cl s r false)) :
  (Builtin.len_ #[T] ty #[.chan (some cid)]).run P w=.ok (goInt buf.size) w:=by
 simp [Builtin.len_,run_underlying hT,getObj,Sem.run_bind,Sem.run,hc,Result.andThen]
theorem CW.len {id d1 d2 T e ty1 ty2:Nat} {dir:ChanDir} {p1 p2:String} {af1 af2:Array Edge} {rest:List Oper} (hT:c.P.underlying T=some (.chan dir e)) (hd:d1<c.N∧d2<c.N)
  (hn:zcK (.region id (⟨some d1,.move (.tmp h.d),ty1,p1,af1,none⟩::⟨some d2,.call { callee:=.builtin .len,args:=#[.tmp d1],argTypes:=#[T] },ty2,p2,af2,none⟩::rest).toArray false) h.d=true)
  (k:zn c (⟨some d1,.move (.tmp h.d),ty1,p1,af1,none⟩::⟨some d2,.call { callee:=.builtin .len,args:=#[.tmp d1],argTypes:=#[T] },ty2,p2,af2,none⟩::rest).toArray rest ⟨(d2,.int .i64 q.length)::(d1,.undef)::t,ob⟩ (fun s'=>Q .normal s' q)) :
  CW c w0 J h (.region id (⟨some d1,.move (.tmp h.d),ty1,p1,af1,none⟩::⟨some d2,.call { callee:=.builtin .len,args:=#[.tmp d1],argTypes:=#[T] },ty2,p2,af2,none⟩::rest).toArray false) Q ⟨t,ob⟩ q:=by
 rintro a w ⟨β,sN,rN,hF,hc,h0⟩;have key:dwp c.P (.region id (⟨some d1,.move (.tmp h.d),ty1,p1,af1,none⟩::⟨some d2,.call { callee:=.builtin .len,args:=#[.tmp d1],argTypes:=#[T] },ty2,p2,af2,none⟩::rest).toArray false)
   (fun e a' w'=>∃ s' β',Q e s' q∧FR c.N w0 (J.lay h.cid (h.obj q sN rN)) s' a' w' β') a w:=by
  obtain ⟨ops,hops⟩:∃ ops:Array Oper,ops=(⟨some d1,.move (.tmp h.d),ty1,p1,af1,none⟩::⟨some d2,.call { callee:=.builtin .len,args:=#[.tmp d1],argTypes:=#[T] },ty2,p2,af2,none⟩::rest).toArray:=⟨_,rfl⟩
  unfold dwp;rw [← hops] at k ⊢;rw [show ops.toList=_ by rw [hops]];have e1:a.eval (.tmp h.d)=.chan (some h.cid):=hc;have hF1:=hF.put (d:=d1) (f:=.undef) (v:=.chan (some h.cid)) hd.1 zoN (fun id ver hm=>by simp [FV.hands] at hm);refine wpList_plain rfl fun K1 hK1=>?_;unfold Oper.wp;simp only [execOp,e1];refine hK1 _ _ ?_;change wpList _ _ _ _ (a.put (some d1) (.chan (some h.cid))) w;have hg1:(a.put (some d1) (.chan (some h.cid))).eval (.tmp d1)=.chan (some h.cid):=by
   show (a.put _ _).tmps.getD d1 undef=_;rw [yo _ _ _ _ (hF.size▸hd.1),if_pos rfl]
  revert hF1 hg1;generalize a.put (some d1) (.chan (some h.cid))=a1;intro hF1 hg1;refine wpList_plain rfl fun K2 hK2=>?_;unfold Oper.wp;have hl:=zf0 (ty:=ty2) hT (zds hF1);simp [execOp,resolve,invoke,builtin,hg1,hl,Result.andThen];refine hK2 _ _ ?_;have hF2:=hF1.put (d:=d2) (f:=.int .i64 q.length) (v:=.int .i64 q.length) hd.2 (VR.of_rd (.int _ _) rfl) (fun id ver hm=>by simp [FV.hands] at hm);exact k (VQ _) w0 _ _ w β (fun s a w β hq hf=>⟨s,β,hq,hf⟩) hF2
 refine wp_mono (Xo c.mixed (ZG key)) ?_;rintro e a' w' ⟨⟨s',β',hq,hf'⟩,hk⟩;exact ⟨s',q,hq,β',sN,rN,hf',(hk _ hn).trans hc,h0⟩
end
section
variable {P:Program}
theorem zlb {o:Oper} {a:Act} {w:World} {K K' G G' : Act→World→Prop} (h:∀ a w,K a w→K' a w) (hh:o.wp P a w K (VQ G)):o.wp P a w K' (VQ G'):=by
 unfold Oper.wp at *;generalize (execOp a.eval o).run P w=r at *;cases r with
 | ok n w'=>
  cases n <;> simp only [Oper.upon] at hh ⊢ <;>
   first
    | exact h _ _ hh
    | exact Calls.mono hh (fun e w'' he => by cases e <;> first|exact h _ _ he|exact he.elim|(obtain ⟨_, _, q⟩ := he; exact q.elim))
    | exact Rows.mono hh (fun _ _ he => h _ _ he)
 | halt x w' => cases x <;> simp only [Oper.upon] at hh ⊢ <;> exact hh.elim
theorem Uv {ops:Array Oper} {K:Act→World→Prop} {l2:List Oper}:∀ {l1:List Oper} {a:Act} {w:World},wpList P ops (VQ fun a w=>wpList P ops (VQ K) l2 a w) l1 a w→wpList P ops (VQ K) (l1++l2) a w
 | [], a, w, hh => hh
 | o::l,a,w,hh=>by
  rw [List.cons_append];unfold wpList at hh ⊢;split
  ·rename_i hw;rw [if_pos hw] at hh;rcases hh with hh|hh
   ·exact .inl (zlb (fun a w q=>Uv q) hh)
   ·exact absurd hh.2 (Ya _)
  ·rename_i hw;rw [if_neg hw] at hh;exact Uv hh
theorem zf1 {T e n:Nat} {dir:ChanDir} {w:World} {i:TypeInfo} (hT:P.underlying T=some (.chan dir e)) (hi:P.info? e=some i) (hb:i.bytes * n≤281474976710544) (hn:n≤9223372036854775807) :
  (Instr.makeChan T (.int .i64 n)).run P w=.ok (.chan (some w.heap.size)) (w.alloc (.chan n #[] false 0 0 false)):=by
 have hb2:(i.bytes:Int) * (n:Int)≤281474976710544:=by
  have:((i.bytes * n:Nat):Int)≤281474976710544:=by omega
  rwa [Int.natCast_mul] at this
 have h1:¬ ((n:Int)<0∨(n:Int) > IntKind.i64.max∨(i.bytes:Int) * n > 2 ^ 48 - 112):=by
  rintro (h|h|h)
  ·omega
  ·have:IntKind.i64.max=9223372036854775807:=rfl;omega
  ·omega
 simp [Instr.makeChan,asInt,asIntOf,typeInfo,run_underlying hT,hi,Result.andThen];rintro (h|h|h)
 ·omega
 ·omega
 ·exact absurd hb2 (Int.not_le.2 h)
end
theorem GW.make {c:Ctx} {w0:World} {J:JJ} {QQ:Exit→Act→World→Prop} {s:FSt} {id d1 d2 T e n ty1 ty2:Nat} {dir:ChanDir} {x:Operand} {p1 p2:String} {af1 af2:Array Edge} {l1:List Oper} {ag:Bool} (hT:c.P.underlying T=some (.chan dir e)) (he:(c.ty e).k.agg? = some ag)
  (hb:(c.ty e).bytes * n≤281474976710544) (hn:n≤9223372036854775807) (hd:d1<c.N∧d2<c.N)
  (k:zn c (l1++([⟨some d1,.makeChan T x,ty1,p1,af1,none⟩,⟨some d2,.assign (.tmp d1),ty2,p2,af2,none⟩]:List Oper)).toArray l1 s (fun s1=>s1.ev x=.int .i64 n∧∀ h:Ch,h.d=d2→h.cap=n→
   (∀ q s a w,ChR c w0 J h q s a w→∃ β,FR c.N w0 J s a w β)→∀ a w,ChR c w0 J h [] ⟨(d2,.undef)::(d1,.undef)::s1.t,s1.o⟩ a w→QQ .normal a w)) :
  GW c w0 J (.region id (l1++([⟨some d1,.makeChan T x,ty1,p1,af1,none⟩,⟨some d2,.assign (.tmp d1),ty2,p2,af2,none⟩]:List Oper)).toArray false) QQ s:=by
 intro a w β hF;obtain ⟨d,i,z,ht⟩:=c.get (T:=e) rfl (zke he);refine wp_mono (Xo c.mixed (Q:=fun e a w=>e=.normal∧QQ .normal a w) ?_) (fun e a w ⟨he,hq⟩=>by rw [he];exact hq);obtain ⟨ops,hops⟩:∃ ops:Array Oper,ops=(l1++([⟨some d1,.makeChan T x,ty1,p1,af1,none⟩,⟨some d2,.assign (.tmp d1),ty2,p2,af2,none⟩]:List Oper)).toArray:=⟨_,rfl⟩
 unfold dwp;rw [← hops] at k ⊢;rw [show ops.toList=l1++([⟨some d1,.makeChan T x,ty1,p1,af1,none⟩,⟨some d2,.assign (.tmp d1),ty2,p2,af2,none⟩]:List Oper) by rw [hops]];refine Uv (k (VQ _) w0 J a w β ?_ hF);rintro ⟨t1,ob1⟩ a1 w1 β1 ⟨hx,hk⟩ hF1;change wpList _ _ _ _ a1 w1;have ex:a1.eval x=.int .i64 n:=by
  have hv:=VR.rd (by have:=hF1.ev x;rwa [hx] at this) rfl;generalize a1.eval x=u at hv;cases hv;rfl
 have hmk:=zf1 (P:=c.P) (w:=w1) hT ht.info (by rw [ht.bytes];exact hb) hn;have hF2:=hF1.layK (.chan n #[] false 0 0 false);have hF3:=hF2.put (d:=d1) (f:=.undef) (v:=.chan (some w1.heap.size)) hd.1 zoN (fun id ver hm=>by simp [FV.hands] at hm);refine wpList_plain rfl fun K1 hK1=>?_;unfold Oper.wp;simp only [execOp,ex,Sem.run_bind,hmk,Result.andThen];refine hK1 _ _ ?_;change wpList _ _ _ _ (a1.put (some d1) (.chan (some w1.heap.size))) (w1.alloc (.chan n #[] false 0 0 false));have hg1:(a1.put (some d1) (.chan (some w1.heap.size))).eval (.tmp d1)=.chan (some w1.heap.size):=by
  show (a1.put _ _).tmps.getD d1 undef=_;rw [yo _ _ _ _ (hF1.size▸hd.1),if_pos rfl]
 revert hF3 hg1;generalize a1.put (some d1) (.chan (some w1.heap.size))=a2;intro hF3 hg1;have hF4:=hF3.put (d:=d2) (f:=.undef) (v:=.chan (some w1.heap.size)) hd.2 zoN (fun id ver hm=>by simp [FV.hands] at hm);refine wpList_plain rfl fun K2 hK2=>?_;unfold Oper.wp;simp only [execOp,hg1];refine hK2 _ _ ?_;refine ⟨rfl,hk ⟨d2,w1.heap.size,n⟩ rfl rfl ?_ _ _ ⟨β1,0,0,hF4,?_,hF1.bel.size⟩⟩
 ·rintro q s a w ⟨β,sN,rN,hf,_⟩;refine ⟨β,hf.unlay (fun b hb=>hb.1) hF1.fresh0 (fun b hb=>⟨.inl hb,?_⟩) rfl rfl⟩;show (if b=w1.heap.size then _ else _)=_;rw [if_neg (by have:=(hF1.kept b hb).1;omega)]
 ·show (a2.put (some d2) (.chan (some w1.heap.size))).tmps.getD d2 undef=_;rw [yo _ _ _ _ (hF3.size▸hd.2),if_pos rfl]
theorem yD.of_gw {c:Ctx} {f:Nat} {fn:Func} {code:Code} (hf:zpg c f fn code) {args:List FV} {ob:List (Nat×zq)} {ex:List Nat} {Q:FV→(Nat→zq)→Prop} (hl:args.length≤c.N) (hp:∀ res o,Q res o→YV ob ex res o)
  (h:∀ (w0:World) (J:JJ),GW c w0 J code (fun e a' w'=>∃ (s:FSt) (β' : Nat→Option Nat),((e=.ret∨e=.normal)∧∃ res,znA c fn s res∧Q res (look {} s.o))∧FR c.N w0 J s a' w' β') (yu args ob)):yD c.P f args ob ex Q where
 go:=hf.g
 post:=hp
 calls w0 J w β vs hF:=by
  have hvl:vs.length=args.length:=by simpa using hF.size
  refine calls_of_wp hf.at_ hf.b ?_;rw [hf.n];have hE:FR c.N w0 J (yu args ob) { tmps:=vs.toArray++Array.replicate (c.N - vs.toArray.size) undef,defers:=[] } w β:=by
   refine hF.slots (t2:=(yu args ob).t) zx hF.defers fun d=>?_;rcases Nat.lt_or_ge d args.length with hd|hd
   ·have e2:(vs.toArray++Array.replicate (c.N - vs.toArray.size) undef).getD d undef=vs.toArray.getD d undef:=by
     rw [Array.getD_eq_getD_getElem?,Array.getElem?_append_left zx,← Array.getD_eq_getD_getElem?]
    refine ⟨?_,fun id ver hm=>hF.vers d id ver hm⟩;dsimp only;rw [e2];exact hF.slot d
   ·have e1:(⟨(yu args ob).t,ob⟩:FSt).get d=.undef:=by
     have:=xZ args ob d;have e3:args.getD d .undef=.undef:=by simp [hd]
     rw [e3] at this;exact this
    rw [e1];exact VR.plain (.undef _) rfl
  refine wp_mono (h w0 J _ w β hE) ?_;rintro e a' w' ⟨⟨t',ob'⟩,β',⟨he,res,hr,hq⟩,hF'⟩;have hres:∃ v,(results fn a'.tmps).run c.P w'=.ok v w'∧VR w' (Imm J w' β' ⟨t',ob'⟩) β' ⟨t',ob'⟩ v res∧∀ id ver,(id,ver)∈res.hands→ver≤((⟨t',ob'⟩:FSt).ob id).ver:=by
   cases hr with
   | @tmp t res hr h =>
    have hra:fn.results=#[.tmp t]:=by apply Array.ext';simpa using hr
    subst h;exact ⟨_,results_tmp hra _ _ _,hF'.slot t,hF'.vers t⟩
   | plain h he hfl =>
    obtain ⟨v,h1,h2⟩:=Xi hF' fn h;rw [he] at h2;exact ⟨v,h1,VR.plain h2 hfl⟩
   | @pair t u f g hr h1 h2 hf hg=>
    subst h1;subst h2;have hra:fn.results=#[.tmp t,.tmp u]:=by apply Array.ext';simpa using hr
    refine ⟨.tuple #[a'.tmps.getD t undef,a'.tmps.getD u undef],?_,⟨[a'.tmps.getD t undef,a'.tmps.getD u undef],rfl,rfl,fun j x y hx hy=>?_⟩,fun id ver hm=>?_⟩
    ·unfold results;rw [hra];simp
    ·match j with
     | 0 => injection hx with hx; injection hy with hy; subst hx; subst hy; exact (hF'.slot t).to1 hf
     | 1 => injection hx with hx; injection hy with hy; subst hx; subst hy; exact (hF'.slot u).to1 hg
     | j+2 => simp at hx
    ·obtain ⟨q,hq,e⟩:=List.mem_filterMap.1 hm;simp only [List.mem_cons,List.not_mem_nil,or_false] at hq;rcases hq with rfl|rfl
     ·exact hF'.vers t id ver (FV.hand_hands hf e)
     ·exact hF'.vers u id ver (FV.hand_hands hg e)
  obtain ⟨v,h1,h2,h3⟩:=hres;have key:a'.defers=[]∧∃ v,(results fn a'.tmps).run c.P w'=.ok v w'∧∃ v' res ob' β',Ending.returned v=.returned v'∧Q res (look {} ob')∧FR 1 w0 J ⟨[(0,res)],ob'⟩ ⟨#[v'],[]⟩ w' β':=by
   refine ⟨hF'.defers.trans hF.defers.symm,v,h1,v,res,ob',β',rfl,hq,hF'.slots rfl hF.defers fun d=>?_⟩;cases d with
   | zero => exact ⟨h2, h3⟩
   | succ d => exact VR.plain (.undef _) rfl
  rcases he with rfl|rfl
  ·exact key
  ·exact key
end
section
open Go.RowKit Go.ChangeMaps Go.MapKept
open Go.Maps (Keyed)
def unv (es:List (List FV)):List (List FV):=es.map fun row=>row.take 1++[.undef]
theorem zha (es:List (List FV)):(unv es).length=es.length:=by unfold unv;rw [List.length_map]
theorem zeh {es:List (List FV)} {j:Nat} {row:List FV} (h:(unv es)[j]? = some row):∃ r,es[j]? = some r∧row=r.take 1++[.undef]:=by
 unfold unv at h;rw [List.getElem?_map] at h;cases he:es[j]? with
 | none => rw [he] at h; cases h
 | some r => rw [he] at h; injection h with h; exact ⟨r, rfl, h.symm⟩
theorem zif {es:List (List FV)} {kf:FV} {P:FV→Prop} (h:∀ row∈es,∀ kf,row.head? = some kf→P kf) (hne:∀ row∈es,row≠[]):∀ row∈unv es,∀ kf,row.head? = some kf→P kf:=fun row hr kf hk=>by
 obtain ⟨r,hr2,rfl⟩:=List.mem_map.1 hr;cases r with
 | nil => exact absurd rfl (hne _ hr2)
 | cons x xs => exact h _ hr2 kf (by simpa using hk)
section
variable {c:Ctx} {w0 w:World} {J:JJ} {s:FSt} {a:Act} {β:Nat→Option Nat} {dst:Option Nat} {ty:TypeId} {pos:String} {after:Array Edge} {g:Option (Nat×Bool)}
theorem FR.mpH (h:FR c.N w0 J s a w β) {x:Operand} {id ver:Nat} (ex:s.ev x=.omap id ver) (hlf:(s.ob id).life=.hmap) (hver:(s.ob id).ver=ver):∃ b clock ents,a.eval x=.map (some b)∧β id=some b∧Mp w (Imm J w β s) b clock ents (unv (s.ob id).es)∧
  (∀ (j:Nat) e row,ents[j]? = some e→(s.ob id).es[j]? = some row→∃ kf vf,row=[kf,vf]∧kf.simple=true∧e.key=kf.val)∧(∀ row∈(s.ob id).es,row≠[])∧(∀ f∈(s.ob id).es.flatten,∀ id' ver',(id',ver')∈f.hands→ver'≤(s.ob id').ver)∧
  ∀ (j:Nat) e row f,ents[j]? = some e→(s.ob id).es[j]? = some row→row[1]? = some f→VR w (Imm J w β s) β s e.val f:=by
 have hlive:(s.ob id).life≠.dead:=by rw [hlf];decide
 obtain ⟨hrow,b,hb,hv⟩:=h.ev_omap ex hlive hver;obtain ⟨hvers,b',clock,ents,h1,h2,h3,h4,h5,h6,h7⟩:=(h.obj id hlive).mapH hlf;rw [hb] at h1;injection h1 with h1
 subst h1;refine ⟨b,clock,ents,hv,hb,⟨h3,h4,by rw [zha];exact h5,fun j e row he hr=>?_,fun j e row f he hr hf=>?_⟩,h6,fun row hr=>?_,hvers,h7⟩
 ·obtain ⟨r,hr2,rfl⟩:=zeh hr;obtain ⟨kf,vf,rfl,q2,q3⟩:=h6 j e r he hr2;exact ⟨kf,.undef,rfl,q2,q3⟩
 ·obtain ⟨r,hr2,rfl⟩:=zeh hr;obtain ⟨kf,vf,rfl,q2,q3⟩:=h6 j e r he hr2;injection hf with hf
  subst hf;exact .undef _
 ·obtain ⟨j,hj⟩:=List.getElem?_of_mem hr;have hjl:j<ents.size:=by rw [h5];exact (List.getElem?_eq_some_iff.1 hj).1
  obtain ⟨kf,vf,rfl,_⟩:=h6 j ents[j] row (by simp [hjl]) hj;exact List.cons_ne_nil _ _
theorem ziM (h:FR c.N w0 J s a w β) {T k e:Nat} (hT:(c.ty T).k=.map k e) {bb:Bool} (he:(c.ty e).k.agg? = some bb) (K:Keyed c.P k) (x y:Operand) {id ver:Nat} (ex:s.ev x=.omap id ver) (hlf:(s.ob id).life=.hmap) (hver:(s.ob id).ver=ver)
  {kf:FV} (ey:s.ev y=kf) (hk:∀ row∈(s.ob id).es,∀ kf,row.head? = some kf→Zy c.P k kf) (hkf:Zy c.P k kf) {vf:FV} {found:Bool} (hl:Xw (s.ob id).es kf (c.ty e).zfv vf found) (hz:(c.ty e).zfv.hand=none) :
  yV c w0 J s a ⟨dst,.lookup T x y false,ty,pos,after,g⟩ w vf []:=by
 obtain ⟨b,clock,ents,hx,hb,hm,hks,hne,hvers,hvs⟩:=h.mpH ex hlf hver;have hy:a.eval y=kf.val:=(h.ev_rd ey (by have:=hkf.1;cases kf <;> first|rfl|(simp [FV.simple,FV.simple1] at this))).simple_val hkf.1;obtain ⟨d,ii,z,ht⟩:=c.get hT zc;have hd:=ht.k;rw [hT] at hd;obtain rfl:=Xe hd;obtain ⟨l,hll⟩:=hkf.2;obtain ⟨zv,hz1,hzr⟩:=zbH he w (Imm J w β s);generalize hes:(s.ob id).es=es at hm hk hl hks hne hvers hvs;rcases hm.find K (zif (kf:=kf) hk hne) hkf with ⟨h1,h2,h3⟩|⟨j,e0,vf',h1,h2,h3,h4,h5,h6⟩
 ·have hv:vf=(c.ty e).zfv:=by
   rcases hl with ⟨_,hmem⟩|⟨_,hv,_⟩
   ·refine absurd rfl (h3 [kf,.undef] (List.mem_map.2 ⟨_,hmem,rfl⟩))
   ·exact hv
  subst hv;refine .rd h (v:=zv) ?_ hzr hz;have:(Instr.lookup T (.map (some b)) kf.val false).run c.P w=.ok zv w:=by
   simp [Instr.lookup,run_underlying ht.u,MapKept.run_getObj_map hm.hb,K.check w _ hll,h1,hz1,Result.andThen]
  simp [execOp,hx,hy,this]
 ·obtain ⟨r,hr,hre⟩:=zeh h4;have hmem:[kf,vf]∈es:=by
   rcases hl with ⟨_,hmem⟩|⟨_,_,hno⟩
   ·exact hmem
   ·refine absurd ?_ (hno r (List.mem_of_getElem? hr));cases r with
    | nil => exact absurd rfl (hne _ (List.mem_of_getElem? hr))
    | cons q qs => simp at hre; rw [hre.1]; rfl
  obtain ⟨i,hi⟩:=List.getElem?_of_mem hmem;have hij:i=j:=h6 i .undef (by unfold unv;rw [List.getElem?_map,hi];rfl);subst hij;refine .pure h (v:=e0.val) ?_ (hvs i e0 _ vf h2 hi rfl) (fun id' ver' e=>hvers vf (List.mem_flatten.2 ⟨_,hmem,by simp⟩) id' ver' e);have:(Instr.lookup T (.map (some b)) kf.val false).run c.P w=.ok e0.val w:=by
   simp [Instr.lookup,run_underlying ht.u,MapKept.run_getObj_map hm.hb,K.check w _ hll,h1,Result.andThen]
  simp [execOp,hx,hy,this]
theorem FR.setMapH (h:FR c.N w0 J s a w β) {id b clock clock' : Nat} {ents ents' : Array MapEntry} {es' : List (List FV)} (hl:(s.ob id).life=.hmap) (hb:β id=some b) (hbl:w.heap[b]? = some (.map ents clock)) (st:Stamped ents' clock') (sz:ents'.size=es'.length)
  (ks:∀ (j:Nat) e row,ents'[j]? = some e→es'[j]? = some row→∃ kf vf,row=[kf,vf]∧kf.simple=true∧e.key=kf.val)
  (hvers:∀ f∈es'.flatten,∀ id' ver',(id',ver')∈f.hands→ver'≤(s.ob id').ver)
  (vs:∀ (j:Nat) e row f,ents'[j]? = some e→es'[j]? = some row→row[1]? = some f→VR w (Imm J w β s) β s e.val f) :
  FR c.N w0 J (s.set id { s.ob id with es:=es' }) a (setBlock w b (.map ents' clock')) β:=by
 have hlive:(s.ob id).life≠.dead:=by rw [hl];decide
 have hlt:=(h.obj id hlive).lt hb;have hg:w.grownBy (setBlock w b (.map ents' clock')) (some b):=⟨rfl,rfl,rfl,by simp [setBlock],fun i _ hi=>heap_setBlock_other hbl _ (fun e=>hi (by rw [e]))⟩
 have hI:∀ b',Imm J w β s b'→Imm J (setBlock w b (.map ents' clock')) β (s.set id { s.ob id with es:=es' }) b'∧(setBlock w b (.map ents' clock')).heap[b']? = w.heap[b']?:=fun b' hbb=>by
  refine ⟨⟨Nat.lt_of_lt_of_le hbb.1 hg.size,hbb.2.1,fun id' hl'=>?_⟩,hg.block b' hbb.1 (fun e=>hbb.2.2 id (by rw [hl];rfl) (by rw [hb];exact e.symm))⟩;rw [FSt.ob_set] at hl';split at hl'
  ·rename_i e;subst e;exact hbb.2.2 id (by rw [hl];rfl)
  ·exact hbb.2.2 id' hl'
 refine h.step (C:=fun k=>k=id) h.size h.defers (h.bel.grown hg h.bel.size (fun k hk=>by injection hk with hk;subst hk;exact hlt.1)) hI (fun k=>.inl ⟨rfl,rfl⟩) (fun k hC=>?_) (fun k hC=>?_) (fun k hC hl2 hvv=>?_) (fun k hC hl2 T'=>?_) ?_ (fun b' hlt' hn=>⟨hg.block b' hlt' (fun e=>hn id hlive (by rw [hb];exact e.symm)),fun k hl2=>hn k (by rw [FSt.ob_set] at hl2;split at hl2;(· rename_i e;subst e;exact hlive);(· exact hl2))⟩)
 ·refine ⟨by rw [FSt.ob_set,if_neg (fun e=>hC e.symm)],rfl,fun hl2 b' hbb=>hg.block b' ((h.obj k hl2).lt hbb).2 (fun e=>hC (h.inj k id b' hl2 hlive hbb (by rw [hb];exact e.symm)))⟩
 ·subst hC;rw [FSt.ob_set,if_pos rfl];exact Nat.le_refl _
 ·subst hC;refine ⟨hlive,rfl,by rw [FSt.ob_set,if_pos rfl],by rw [FSt.ob_set,if_pos rfl],fun v o n hv=>?_⟩;have:=hv.row;rw [hl] at this;cases this
 ·subst hC;rw [FSt.ob_set,if_pos rfl];refine .ofMH ⟨fun f hf id' ver' e=>?_,b,clock',ents',hb,hlt.1,heap_setBlock_same hbl _,st,sz,ks,fun j e row f h1 h2 h3=>T' _ _ (vs j e row f h1 h2 h3) (hvers f (List.mem_flatten.2 ⟨row,List.mem_of_getElem? h2,List.mem_of_getElem? h3⟩))⟩ hl;refine Nat.le_trans (hvers f hf id' ver' e) ?_;rw [FSt.ob_set];split
  ·rename_i e;subst e;exact Nat.le_refl _
  ·exact Nat.le_refl _
 ·intro k k' b' hl2 hl2' e e';refine h.inj k k' b' ?_ ?_ e e'
  ·rw [FSt.ob_set] at hl2;split at hl2
   ·rename_i e;subst e;exact hlive
   ·exact hl2
  ·rw [FSt.ob_set] at hl2';split at hl2'
   ·rename_i e;subst e;exact hlive
   ·exact hl2'
theorem ze9 (h:FR c.N w0 J s a w β) {T k e:Nat} (hT:(c.ty T).k=.map k e) (K:Keyed c.P k) (x y z:Operand) {id ver:Nat} (ex:s.ev x=.omap id ver) (hlf:(s.ob id).life=.hmap) (hver:(s.ob id).ver=ver)
  {kf vf:FV} (ey:s.ev y=kf) (ez:s.ev z=vf) (hk:∀ row∈(s.ob id).es,∀ kf,row.head? = some kf→Zy c.P k kf) (hkf:Zy c.P k kf) {es' : List (List FV)} (hs:zj2 (s.ob id).es kf vf es') :
  ∃ w',(execOp a.eval ⟨dst,.mapUpdate T x y z,ty,pos,after,g⟩).run c.P w=.ok .skip w'∧FR c.N w0 J (s.wr [(id,{ s.ob id with es:=es' })]) a w' β:=by
 obtain ⟨d,ii,zz,ht⟩:=c.get hT zc;have hd:=ht.k;rw [hT] at hd;obtain rfl:=Xe hd;obtain ⟨l,hll⟩:=hkf.2;obtain ⟨b,clock,ents,hx,hb,hm,hks,hne,hvers,hvs⟩:=h.mpH ex hlf hver;have hy:a.eval y=kf.val:=(h.ev_rd ey (by have:=hkf.1;cases kf <;> first|rfl|(simp [FV.simple,FV.simple1] at this))).simple_val hkf.1;have hkh:kf.hands=[]:=by have:=hkf.1;cases kf <;> first|rfl|(simp [FV.simple,FV.simple1] at this)
 have hzr:=h.ev z;have hzv2:∀ id' ver',(id',ver')∈vf.hands→ver'≤(s.ob id').ver:=fun id' ver' e=>h.evers z (by rw [ez];exact e);rw [ez] at hzr;generalize hzv:a.eval z=u at hzr;have hset:=fun (clock' : Nat) (ents' : Array MapEntry) (es2:List (List FV)) st sz ks h2 vs=>h.setMapH (clock':=clock') (ents':=ents') (es':=es2) hlf hb hm.hb st sz ks h2 vs;generalize hes:(s.ob id).es=es at hm hk hs hks hne hvers hvs;rcases hm.find K (zif (kf:=kf) hk hne) hkf with ⟨h1,h2,h3⟩|⟨j,e0,vf',h1,h2,h3,h4,h5,h6⟩
 ·have he' : es'=es++[[kf,vf]]:=by
   rcases hs with ⟨j,v0,hj,_⟩|⟨_,he⟩
   ·refine absurd rfl (h3 [kf,.undef] (List.mem_map.2 ⟨_,List.mem_of_getElem? hj,rfl⟩))
   ·exact he
  subst he';have hsz:ents.size=es.length:=hm.sz.trans (zha es);refine ⟨setBlock w b (.map (ents.push ⟨kf.val,u,clock⟩) (clock+1)),?_,?_⟩
  ·have:(Instr.mapUpdate T (.map (some b)) kf.val u).run c.P w=.ok () (setBlock w b (.map (ents.push ⟨kf.val,u,clock⟩) (clock+1))):=by
    simp [Instr.mapUpdate,run_underlying ht.u,MapKept.run_getObj_map hm.hb,K.check w false hll,h1,MapKept.run_setObj_map _ hm.hb,Result.andThen,setBlock]
   simp [execOp,hx,hy,hzv,this]
  ·have hcase:∀ (j:Nat) e row,(ents.push ⟨kf.val,u,clock⟩)[j]? = some e→(es++[[kf,vf]])[j]? = some row→(ents[j]? = some e∧es[j]? = some row)∨(e=⟨kf.val,u,clock⟩∧row=[kf,vf]):=by
    intro j e row he hr;rcases Nat.lt_trichotomy j ents.size with hj|hj|hj
    ·left;rw [Array.getElem?_push,if_neg za] at he;rw [List.getElem?_append_left (by rw [← hsz];exact hj)] at hr;exact ⟨he,hr⟩
    ·right;subst hj;rw [Array.getElem?_push,if_pos rfl] at he;rw [hsz,List.getElem?_append_right (Nat.le_refl _),Nat.sub_self] at hr;injection he with he
     injection hr with hr
     exact ⟨he.symm,hr.symm⟩
    ·rw [Array.getElem?_push,if_neg za] at he;rw [Array.getElem?_eq_none za] at he;cases he
   refine hset _ _ _ (stamped_push hm.st h2) (by simp [hsz]) (fun j e row he hr=>?_) (fun f hf=>?_) (fun j e row f he hr hf=>?_)
   ·rcases hcase j e row he hr with ⟨q1,q2⟩|⟨rfl,rfl⟩
    ·exact hks j e row q1 q2
    ·exact ⟨kf,vf,rfl,hkf.1,rfl⟩
   ·rw [List.flatten_append,List.mem_append] at hf;rcases hf with hf|hf
    ·exact hvers f hf
    ·simp at hf;rcases hf with rfl|rfl
     ·intro id' ver' e;rw [hkh] at e;cases e
     ·exact hzv2
   ·rcases hcase j e row he hr with ⟨q1,q2⟩|⟨rfl,rfl⟩
    ·exact hvs j e row f q1 q2 hf
    ·simp at hf;subst hf;exact hzr
 ·have hjr:∃ v0,es[j]? = some [kf,v0]∧es'=es.set j [kf,vf]:=by
   rcases hs with ⟨i,v0,hi,he⟩|⟨hno,_⟩
   ·have hij:i=j:=h6 i .undef (by unfold unv;rw [List.getElem?_map,hi];rfl);subst hij;exact ⟨v0,hi,he⟩
   ·obtain ⟨r,hr,hre⟩:=zeh h4;refine absurd ?_ (hno r (List.mem_of_getElem? hr));cases r with
    | nil => exact absurd rfl (hne _ (List.mem_of_getElem? hr))
    | cons q qs => simp at hre; rw [hre.1]; rfl
  obtain ⟨v0,hj0,he'⟩:=hjr;subst he';have hsz:ents.size=es.length:=hm.sz.trans (zha es);have hkeyf:∀ e',ents[j]? = some e'→({ e' with key:=kf.val,val:=u }:MapEntry).key=e'.key:=fun e' he'=>by rw [h2] at he';cases he';exact h3.symm
  refine ⟨setBlock w b (.map (ents.modify j (fun e'=>{ e' with key:=kf.val,val:=u })) clock),?_,?_⟩
  ·have:(Instr.mapUpdate T (.map (some b)) kf.val u).run c.P w=.ok () (setBlock w b (.map (ents.modify j (fun e'=>{ e' with key:=kf.val,val:=u })) clock)):=by
    simp [Instr.mapUpdate,run_underlying ht.u,MapKept.run_getObj_map hm.hb,K.check w false hll,h1,h2,h3,K.stays w hll,MapKept.run_setObj_map _ hm.hb,Result.andThen,setBlock]
   simp [execOp,hx,hy,hzv,this]
  ·have hcase:∀ (i:Nat) e row,(ents.modify j (fun e'=>{ e' with key:=kf.val,val:=u }))[i]? = some e→(es.set j [kf,vf])[i]? = some row→(ents[i]? = some e∧es[i]? = some row)∨(e.key=kf.val∧e.val=u∧row=[kf,vf]):=by
    intro i e row he hr;rw [Array.getElem?_modify] at he;rw [List.getElem?_set] at hr;by_cases hij:j=i
    ·subst hij;right;rw [if_pos rfl,h2] at he;rw [if_pos rfl,if_pos (List.getElem?_eq_some_iff.1 hj0).1] at hr;simp only [Option.map_some,Option.some.injEq] at he hr;subst he;exact ⟨rfl,rfl,hr.symm⟩
    ·left;rw [if_neg hij] at he hr;exact ⟨he,hr⟩
   refine hset _ _ _ (stamped_modify hm.st _ _ (fun _ _=>rfl) (fun e' _ he'=>hkeyf e' he')) (by simp [hsz]) (fun i e row he hr=>?_) (fun f hf=>?_) (fun i e row f he hr hf=>?_)
   ·rcases hcase i e row he hr with ⟨q1,q2⟩|⟨q1,q2,rfl⟩
    ·exact hks i e row q1 q2
    ·exact ⟨kf,vf,rfl,hkf.1,q1⟩
   ·obtain ⟨row,hrow,hf⟩:=List.mem_flatten.1 hf;rcases List.mem_or_eq_of_mem_set hrow with h'|h'
    ·exact hvers f (List.mem_flatten.2 ⟨row,h',hf⟩)
    ·subst h';simp at hf;rcases hf with rfl|rfl
     ·intro id' ver' e;rw [hkh] at e;cases e
     ·exact hzv2
   ·rcases hcase i e row he hr with ⟨q1,q2⟩|⟨q1,q2,rfl⟩
    ·exact hvs i e row f q1 q2 hf
    ·simp at hf;subst hf;rw [q2];exact hzr
end
section
variable {c:Ctx} {ops:Array Oper} {rest:List Oper} {t:List (Nat×FV)} {ob:List (Nat×zq)} {d:Nat} {ty:TypeId} {pos:String} {af:Array Edge} {gd:Option (Nat×Bool)} {tr:List Rec} {QD:FSt→List Rec→Prop} {QS:FSt→Prop}
theorem zk7 {T:Nat} {x y:Operand} {ok:Bool}:¬ zbY (.lookup T x y ok):=by rintro (⟨_,_,_,e⟩|⟨_,_,_,_,e⟩) <;> cases e
theorem zh4 {T k e id ver E sz:Nat} {bb found:Bool} {x y:Operand} {kf vf:FV} {es:List (List FV)} (K:Keyed c.P k) (hkk:∀ row∈es,∀ kf,row.head? = some kf→Zy c.P k kf) (hkf:Zy c.P k kf) (hlk:Xw es kf (c.ty e).zfv vf found) (hx:(⟨t,ob⟩:FSt).ev x=.omap id ver) (hy:(⟨t,ob⟩:FSt).ev y=kf)
  (hT:(c.ty T).k=.map k e) (he:(c.ty e).k.agg? = some bb) (hz:(c.ty e).zfv.hand=none) (hb:(⟨t,ob⟩:FSt).ob id=⟨ver,.hmap,E,sz,es⟩) (hd:Nat.blt d c.N=true) (hw:zT ops ⟨t,ob⟩ (⟨some d,.lookup T x y false,ty,pos,af,gd⟩:Oper) true)
  (k:zN c ops rest ⟨(d,vf)::t,ob⟩ (tr++[⟨(⟨some d,.lookup T x y false,ty,pos,af,gd⟩:Oper),vf,[],xg ⟨t,ob⟩ d (.lookup T x y false)⟩]) QD):zN c ops ((⟨some d,.lookup T x y false,ty,pos,af,gd⟩:Oper)::rest) ⟨t,ob⟩ tr QD:=
 zlh (wr:=[]) rfl zk7 hd hw (fun s' h1 h2 w0 J a w β ty pos after g hF=>by
  have e1:=(h1 x zi).trans hx;have e2:=(h1 y zi).trans hy;have e3:=(h2 id (Wf (x:=x) rfl zi (ver:=ver) (by rw [hx];rfl))).trans hb;exact ziM hF hT he K x y e1 (by rw [e3]) (by rw [e3]) e2 (by rw [e3];exact hkk) hkf (by rw [e3];exact hlk) hz) k
theorem zc0 {T k e id ver E sz:Nat} {x y z:Operand} {kf vf:FV} {es es' : List (List FV)} (K:Keyed c.P k) (hkk:∀ row∈es,∀ kf,row.head? = some kf→Zy c.P k kf) (hkf:Zy c.P k kf) (hs:zj2 es kf vf es') (hx:(⟨t,ob⟩:FSt).ev x=.omap id ver) (hy:(⟨t,ob⟩:FSt).ev y=kf) (hz:(⟨t,ob⟩:FSt).ev z=vf)
  (hT:(c.ty T).k=.map k e) (hb:(⟨t,ob⟩:FSt).ob id=⟨ver,.hmap,E,sz,es⟩) (hw:zT ops ⟨t,ob⟩ (⟨none,.mapUpdate T x y z,ty,pos,af,gd⟩:Oper) true)
  (k:zN c ops rest ⟨t,(id,⟨ver,.hmap,E,sz,es'⟩)::ob⟩ (tr++[⟨(⟨none,.mapUpdate T x y z,ty,pos,af,gd⟩:Oper),.undef,[(id,⟨ver,.hmap,E,sz,es'⟩)],xg ⟨t,ob⟩ d (.mapUpdate T x y z)⟩]) QD):zN c ops ((⟨none,.mapUpdate T x y z,ty,pos,af,gd⟩:Oper)::rest) ⟨t,ob⟩ tr QD:=by
 refine zN.cons (f:=.undef) (wr:=[(id,⟨ver,.hmap,E,sz,es'⟩)]) (d:=d) ⟨.inr ⟨rfl,.inr ⟨_,_,_,_,rfl⟩⟩,(fun _ e=>by cases e),.extN rfl (.inr ⟨_,_,_,_,rfl⟩) fun s' h1 h2 w0 J a w β dst ty pos after g hF=>?_⟩ hw rfl rfl k;have e1:=(h1 x zi).trans hx;have e2:=(h1 y zi).trans hy;have e4:=(h1 z zi).trans hz;have e3:=(h2 id (Wf (x:=x) rfl zi (ver:=ver) (by rw [hx];rfl))).trans hb;obtain ⟨W,q1,q2⟩:=ze9 (ty:=ty) (pos:=pos) (after:=after) (g:=g) (dst:=dst) hF hT K x y z e1 (by rw [e3]) (by rw [e3]) e2 e4 (by rw [e3];exact hkk) hkf (es':=es') (by rw [e3];exact hs);rw [e3] at q2;exact ⟨W,q1,q2⟩
end
theorem FLe.toHM {t:List (Nat×FV)} {ob:List (Nat×zq)} {i v E sz:Nat} (h:look {} ob i=⟨v,.mapo,E,sz,[]⟩):FLe ⟨t,ob⟩ ⟨t,(i,⟨v,.hmap,E,sz,[]⟩)::ob⟩:=by
 refine FLe.life h zg (fun _=>rfl) (fun _=>rfl) fun w base I β s b _ ho=>?_;obtain ⟨b',clock,ents,h1,h2,h3,h4,h5,h6,h7⟩:=(ho.mapR rfl (fun e=>by cases e)).ex;exact .ofMH ⟨fun f hf=>(by simp at hf),b',clock,ents,h1,h2,h3,h4,h5,h6,fun j e row f q1 q2=>(by simp at q2)⟩ rfl
end
def wkB (E:List (Nat×Nat)) (t:Nat):Nat→Nat→Bool
 | 0, x => decide (x=t)
 | k+1, x => E.any fun e => decide (e.1=x) && wkB E t k e.2
theorem Xm {E:List (Nat×Nat)} {t x:Nat}:wkB E t 0 x=true↔x=t:=by unfold wkB;simp
theorem ZK {E:List (Nat×Nat)} {t k x:Nat}:wkB E t (k+1) x=true↔∃ y,(x,y)∈E∧wkB E t k y=true:=by
 conv=>lhs;unfold wkB
 rw [List.any_eq_true];constructor
 ·rintro ⟨⟨a,b⟩,he,h⟩;simp only [Bool.and_eq_true,decide_eq_true_eq] at h;exact ⟨b,by rw [← h.1];exact he,h.2⟩
 ·rintro ⟨y,he,h⟩;exact ⟨(x,y),he,by simp [h]⟩
theorem VO {E E' : List (Nat×Nat)} (h:∀ e,e∈E↔e∈E') (t:Nat):∀ k x,wkB E t k x=wkB E' t k x
 | 0, x => rfl
 | k+1, x => by
  rw [Bool.eq_iff_iff,ZK,ZK];constructor
  ·rintro ⟨y,h1,h2⟩;exact ⟨y,(h _).1 h1,by rw [← VO h t k y];exact h2⟩
  ·rintro ⟨y,h1,h2⟩;exact ⟨y,(h _).2 h1,by rw [VO h t k y];exact h2⟩
def nxV (E:List (Nat×Nat)) (t n k x:Nat):Nat:=((List.range n).find? fun b=>decide ((x,b)∈E) && wkB E t k b).getD 0
def lwV (E:List (Nat×Nat)) (t n:Nat):Nat→Nat→List Nat
 | 0, x => [x]
 | k+1, x => x :: lwV E t n k (nxV E t n k x)
theorem zk8 {E E' : List (Nat×Nat)} (h:∀ e,e∈E↔e∈E') (t n k x:Nat):nxV E t n k x=nxV E' t n k x:=by
 unfold nxV;congr 2;funext b;rw [VO h];congr 1;exact decide_eq_decide.2 (h _)
theorem zfr {E E' : List (Nat×Nat)} (h:∀ e,e∈E↔e∈E') (t n:Nat):∀ k x,lwV E t n k x=lwV E' t n k x
 | 0, x => rfl
 | k+1, x => by unfold lwV; rw [zk8 h, zfr h t n k]
theorem zag {E:List (Nat×Nat)} {t n k x:Nat} (hE:∀ e∈E,e.2<n) (h:wkB E t (k+1) x=true):(x,nxV E t n k x)∈E∧wkB E t k (nxV E t n k x)=true∧∀ b,(x,b)∈E→wkB E t k b=true→nxV E t n k x≤b:=by
 obtain ⟨y,h1,h2⟩:=ZK.1 h;unfold nxV;cases hf:(List.range n).find? fun b=>decide ((x,b)∈E) && wkB E t k b with
 | none =>
  have:=List.find?_eq_none.1 hf y (List.mem_range.2 (hE _ h1));simp [h1,h2] at this
 | some v=>
  have h3:=List.find?_some hf;simp only [Bool.and_eq_true,decide_eq_true_eq] at h3;refine ⟨h3.1,h3.2,fun b hb hw=>?_⟩;obtain ⟨_,ua,ub,e,hn⟩:=List.find?_eq_some_iff_append.1 hf;rw [Option.getD_some];rcases Nat.lt_or_ge b v with hlt|hge
  ·exfalso;have hbm:b∈ua:=by
    have hs:(List.range n).Pairwise (· < ·):=List.pairwise_lt_range;rw [e] at hs;have hb2:b∈ua++v::ub:=by rw [← e];exact List.mem_range.2 (hE _ hb)
    rcases List.mem_append.1 hb2 with h|h
    ·exact h
    ·rcases List.mem_cons.1 h with rfl|h
     ·omega
     ·have:=(List.pairwise_cons.1 (List.pairwise_append.1 hs).2.1).1 b h;omega
   have:=hn b hbm;simp [hb,hw] at this
  ·exact hge
def dsV (E:List (Nat×Nat)) (t n x:Nat):Option Nat:=(List.range n).find? fun k=>wkB E t (k+1) x
def ptV (E:List (Nat×Nat)) (t n x:Nat):List Nat:=match dsV E t n x with
 | none => []
 | some k => lwV E t n (k+1) x
theorem zac {E:List (Nat×Nat)} {t n x k:Nat} (h:dsV E t n x=some k):k<n∧wkB E t (k+1) x=true∧∀ j,j<k→wkB E t (j+1) x=false:=by
 obtain ⟨h1,ua,ub,e,hn⟩:=List.find?_eq_some_iff_append.1 h;have hk:k∈List.range n:=List.mem_of_find?_eq_some h;refine ⟨List.mem_range.1 hk,h1,fun j hj=>?_⟩;have hjm:j∈ua:=by
  have hs:(List.range n).Pairwise (· < ·):=List.pairwise_lt_range;rw [e] at hs;have hb2:j∈ua++k::ub:=by rw [← e];exact List.mem_range.2 (by have:=List.mem_range.1 hk;omega)
  rcases List.mem_append.1 hb2 with h|h
  ·exact h
  ·rcases List.mem_cons.1 h with rfl|h
   ·omega
   ·have:=(List.pairwise_cons.1 (List.pairwise_append.1 hs).2.1).1 j h;omega
 simpa using hn j hjm
theorem zms {E:List (Nat×Nat)} {t n x:Nat} (h:dsV E t n x=none):∀ j,j<n→wkB E t (j+1) x=false:=fun j hj=>by
 have:=List.find?_eq_none.1 h j (List.mem_range.2 hj);simpa using this
theorem zoE {E:List (Nat×Nat)} {t n x k:Nat} (hk:k<n) (h1:wkB E t (k+1) x=true) (h2:∀ j,j<k→wkB E t (j+1) x=false):dsV E t n x=some k:=by
 cases h:dsV E t n x with
 | none => have := zms h k hk; rw [h1] at this; cases this
 | some m =>
  obtain ⟨h3,h4,h5⟩:=zac h;rcases Nat.lt_trichotomy k m with h6|h6|h6
  ·have:=h5 k h6;rw [h1] at this;cases this
  ·rw [h6]
  ·have:=h2 m h6;rw [h4] at this;cases this
structure Yx (E:List (Nat×Nat)) (t n:Nat) (A:List (Nat×Nat)):Prop where
 nd:(A.map (·.1)).Nodup
 rng:∀ p∈A,p.1<n∧p.2<n
 sound:∀ p∈A,wkB E t p.2 p.1=true
 all:∀ k x,wkB E t k x=true→∃ d,d≤k∧(x,d)∈A
structure zl9 (E:List (Nat×Nat)) (t n:Nat) (D Q:List (Nat×Nat)):Prop where
 nd:((D++Q).map (·.1)).Nodup
 rng:∀ p∈D++Q,p.1<n∧p.2<(D++Q).length
 sound:∀ p∈D++Q,wkB E t p.2 p.1=true
 srt:(D++Q).Pairwise fun p q=>p.2≤q.2
 near:∀ z∈Q,∀ p∈D++Q,p.2≤z.2+1
 clo:∀ p∈D,∀ y,(y,p.1)∈E→∃ d,d≤p.2+1∧(y,d)∈D++Q
 tgt:(t,0)∈D++Q
structure zj0 (E:List (Nat×Nat)) (t n:Nat) (D:List (Nat×Nat)) (x d:Nat) (Q:List (Nat×Nat)) (S:List Nat):Prop where
 nd:((D++(x,d)::Q).map (·.1)).Nodup
 rng:∀ p∈D++(x,d)::Q,p.1<n∧p.2<(D++(x,d)::Q).length
 sound:∀ p∈D++(x,d)::Q,wkB E t p.2 p.1=true
 srt:(D++(x,d)::Q).Pairwise fun p q=>p.2≤q.2
 near:∀ p∈D++(x,d)::Q,p.2≤d+1
 clo:∀ p∈D,∀ y,(y,p.1)∈E→∃ d',d'≤p.2+1∧(y,d')∈D++(x,d)::Q
 clx:∀ y∈S,∃ d',d'≤d+1∧(y,d')∈D++(x,d)::Q
 tgt:(t,0)∈D++(x,d)::Q
theorem Wm {n:Nat} {A:List (Nat×Nat)} (h:(A.map (·.1)).Nodup) (hr:∀ p∈A,p.1<n):A.length≤n:=by
 have:∀ (l m:List Nat),l.Nodup→(∀ x∈l,x∈m)→l.length≤m.length:=by
  intro l
  induction l with
  | nil => intro m _ _; exact Nat.zero_le _
  | cons x l ih =>
   intro m hn hs;have h1:=List.nodup_cons.1 hn;have hx:=hs x zc;have hl:=List.length_erase_of_mem hx;have hpos:0<m.length:=List.length_pos_of_mem hx;have:=ih (m.erase x) h1.2 fun y hy=>(List.mem_erase_of_ne (fun e:y=x=>h1.1 (by rw [← e];exact hy))).2 (hs y (by simp [hy]));rw [List.length_cons];omega
 have h2:=this (A.map (·.1)) (List.range n) h (fun x hx=>by
  obtain ⟨p,hp,rfl⟩:=List.mem_map.1 hx;exact List.mem_range.2 (hr p hp))
 simpa using h2
section
variable {E:List (Nat×Nat)} {t n x d:Nat} {D Q:List (Nat×Nat)}
theorem zl9.start (ht:t<n):zl9 E t n [] [(t,0)] where
 nd:=by simp
 rng p hp:=by simp at hp;subst hp;simp;exact ht
 sound p hp:=by simp at hp;subst hp;exact Xm.2 rfl
 srt:=by simp
 near z hz p hp:=by simp at hp;subst hp;simp
 clo p hp:=by cases hp
 tgt:=by simp
theorem zl9.len (h:zl9 E t n D Q):(D++Q).length≤n:=Wm h.nd fun p hp=>(h.rng p hp).1
theorem zj0.len {S:List Nat} (h:zj0 E t n D x d Q S):(D++(x,d)::Q).length≤n:=Wm h.nd fun p hp=>(h.rng p hp).1
theorem zl9.take (h:zl9 E t n D ((x,d)::Q)):zj0 E t n D x d Q [] where
 nd:=h.nd
 rng:=h.rng
 sound:=h.sound
 srt:=h.srt
 near:=h.near _ (List.mem_cons_self ..)
 clo:=h.clo
 clx y hy:=by cases hy
 tgt:=h.tgt
theorem zj0.seen {S:List Nat} {y e:Nat} (h:zj0 E t n D x d Q S) (he:(y,e)∈D++(x,d)::Q):zj0 E t n D x d Q (S++[y]) where
 nd:=h.nd
 rng:=h.rng
 sound:=h.sound
 srt:=h.srt
 near:=h.near
 clo:=h.clo
 clx z hz:=by
  rcases List.mem_append.1 hz with hz|hz
  ·exact h.clx z hz
  ·rw [List.mem_singleton.1 hz];exact ⟨e,h.near _ he,he⟩
 tgt:=h.tgt
theorem zj0.push {S:List Nat} {y:Nat} (h:zj0 E t n D x d Q S) (hy:y<n) (hyx:(y,x)∈E) (hno:∀ p∈D++(x,d)::Q,p.1≠y):zj0 E t n D x d (Q++[(y,d+1)]) (S++[y]):=by
 have e:D++(x,d)::(Q++[(y,d+1)])=(D++(x,d)::Q)++[(y,d+1)]:=by simp
 have hx:(x,d)∈D++(x,d)::Q:=by simp
 constructor
 ·rw [e,List.map_append];refine List.nodup_append.2 ⟨h.nd,by simp,fun a ha b hb=>?_⟩;obtain ⟨p,hp,rfl⟩:=List.mem_map.1 ha;simp at hb;subst hb;exact hno p hp
 ·rw [e];intro p hp;rw [List.length_append];rcases List.mem_append.1 hp with hp|hp
  ·have:=h.rng p hp;exact ⟨this.1,by omega⟩
  ·rw [List.mem_singleton.1 hp];exact ⟨hy,by have:=(h.rng _ hx).2;simp at this ⊢;omega⟩
 ·rw [e];intro p hp;rcases List.mem_append.1 hp with hp|hp
  ·exact h.sound p hp
  ·rw [List.mem_singleton.1 hp];exact ZK.2 ⟨x,hyx,h.sound _ hx⟩
 ·rw [e];refine List.pairwise_append.2 ⟨h.srt,by simp,fun p hp q hq=>?_⟩;rw [List.mem_singleton.1 hq];exact h.near p hp
 ·rw [e];intro p hp;rcases List.mem_append.1 hp with hp|hp
  ·exact h.near p hp
  ·rw [List.mem_singleton.1 hp];exact Nat.le_refl _
 ·rw [e];intro p hp z hz;obtain ⟨d',h1,h2⟩:=h.clo p hp z hz;exact ⟨d',h1,List.mem_append_left _ h2⟩
 ·rw [e];intro z hz;rcases List.mem_append.1 hz with hz|hz
  ·obtain ⟨d',h1,h2⟩:=h.clx z hz;exact ⟨d',h1,List.mem_append_left _ h2⟩
  ·rw [List.mem_singleton.1 hz];exact ⟨d+1,Nat.le_refl _,by simp⟩
 ·rw [e];exact List.mem_append_left _ h.tgt
theorem zj0.done {S:List Nat} (h:zj0 E t n D x d Q S) (hS:∀ y,(y,x)∈E→y∈S):zl9 E t n (D++[(x,d)]) Q:=by
 have e:D++[(x,d)]++Q=D++(x,d)::Q:=by simp
 constructor
 ·rw [e];exact h.nd
 ·rw [e];exact h.rng
 ·rw [e];exact h.sound
 ·rw [e];exact h.srt
 ·rw [e];intro z hz p hp;have h1:=(List.pairwise_cons.1 (List.pairwise_append.1 h.srt).2.1).1 z hz;have h2:=h.near p hp;dsimp only at h1;omega
 ·rw [e];intro p hp y hy;rcases List.mem_append.1 hp with hp|hp
  ·exact h.clo p hp y hy
  ·rw [List.mem_singleton.1 hp] at hy ⊢;exact h.clx y (hS y hy)
 ·rw [e];exact h.tgt
theorem zl9.finish (h:zl9 E t n D []):Yx E t n D:=by
 have hr:=h.rng;have hs:=h.sound;have hc:=h.clo;have ht:=h.tgt;have hn:=h.nd;have hl:=h.len;rw [List.append_nil] at hr hs hc ht hn hl;refine ⟨hn,fun p hp=>⟨(hr p hp).1,by have:=(hr p hp).2;omega⟩,hs,fun k=>?_⟩
 induction k with
 | zero => intro x hx; rw [Xm] at hx; subst hx; exact ⟨0, Nat.le_refl _, ht⟩
 | succ k ih =>
  intro x hx;obtain ⟨y,h1,h2⟩:=ZK.1 hx;obtain ⟨d,h3,h4⟩:=ih y h2;obtain ⟨d',h5,h6⟩:=hc _ h4 x h1;exact ⟨d',by dsimp only at h5;omega,h6⟩
end
def alk (A:List (Nat×Nat)) (y:Nat):Option Nat:=(A.find? fun p=>decide (p.1=y)).map (·.2)
theorem zer {A:List (Nat×Nat)} {y d:Nat} (hn:(A.map (·.1)).Nodup) (h:(y,d)∈A):alk A y=some d:=by
 induction A with
 | nil => cases h
 | cons p A ih=>
  unfold alk;rw [List.find?_cons];rw [List.map_cons] at hn;have hn:=List.nodup_cons.1 hn;by_cases e:p.1=y
  ·rw [decide_eq_true e];rcases List.mem_cons.1 h with rfl|h
   ·rfl
   ·exact absurd (List.mem_map.2 ⟨_,h,e.symm⟩) hn.1
  ·rw [decide_eq_false e];rcases List.mem_cons.1 h with rfl|h
   ·exact absurd rfl e
   ·exact ih hn.2 h
theorem YX {A:List (Nat×Nat)} {y d:Nat} (h:alk A y=some d):(y,d)∈A:=by
 unfold alk at h;cases hf:A.find? fun p=>decide (p.1=y) with
 | none => rw [hf] at h; cases h
 | some p =>
  rw [hf] at h;injection h with h
  have h1:=List.find?_some hf;have h2:=List.mem_of_find?_eq_some hf;have h3:p.1=y:=by simpa using h1
  rw [← h3,← h];exact h2
section
variable {E:List (Nat×Nat)} {t n:Nat} {A:List (Nat×Nat)}
theorem Yx.least (h:Yx E t n A) {x d k:Nat} (hx:alk A x=some d) (hk:wkB E t k x=true):d≤k:=by
 obtain ⟨d',h1,h2⟩:=h.all k x hk;have:=zer h.nd h2;rw [hx] at this;injection this with this
 omega
theorem Yx.walk (h:Yx E t n A) {x d:Nat} (hx:alk A x=some d):wkB E t d x=true:=h.sound _ (YX hx)
theorem Yx.some_of (h:Yx E t n A) {x k:Nat} (hk:wkB E t k x=true):∃ d,alk A x=some d:=by
 obtain ⟨d',_,h2⟩:=h.all k x hk;exact ⟨d',zer h.nd h2⟩
theorem Yx.zero (h:Yx E t n A) {x d:Nat} (hx:alk A x=some d) (hxt:x≠t):∃ m,d=m+1:=by
 cases d with
 | zero => exact absurd (Xm.1 (h.walk hx)) hxt
 | succ m => exact ⟨m, rfl⟩
theorem Yx.next (h:Yx E t n A) {x k m:Nat} (hx:alk A x=some (m+1)) (he:(x,k)∈E):alk A k=some m↔wkB E t m k=true:=by
 constructor
 ·exact fun h1=>h.walk h1
 ·intro h1;obtain ⟨d,hd⟩:=h.some_of h1;have h2:=h.least hd h1;have h3:=h.least hx (ZK.2 ⟨k,he,h.walk hd⟩);rw [hd,show d=m by omega]
theorem Yx.path (h:Yx E t n A) {x d:Nat} (hx:alk A x=some d) (hxt:x≠t):ptV E t n x=lwV E t n d x:=by
 obtain ⟨m,rfl⟩:=h.zero hx hxt;have hm:=(h.rng _ (YX hx)).2;dsimp only at hm;unfold ptV;rw [zoE (k:=m) za (h.walk hx) fun j hj=>?_];cases hw:wkB E t (j+1) x with
 | false => rfl
 | true => have := h.least hx hw; omega
theorem Yx.none (h:Yx E t n A) {x:Nat} (hx:alk A x=none):ptV E t n x=[]:=by
 unfold ptV;cases hd:dsV E t n x with
 | none => rfl
 | some k =>
  obtain ⟨_,h1,_⟩:=zac hd;obtain ⟨d,h2⟩:=h.some_of h1;rw [hx] at h2;cases h2
theorem Yx.path_iff (h:Yx E t n A) {x:Nat} (hxt:x≠t):ptV E t n x≠[]↔(alk A x).isSome=true:=by
 cases hx:alk A x with
 | none => rw [h.none hx]; simp
 | some d => rw [h.path hx hxt]; cases d <;> simp [lwV]
theorem zk9 {x m:Nat} (hE:∀ e∈E,e.2<n) {L:List Nat} (hL:L.Pairwise (· < ·)) (hm:∀ b,b∈L↔(x,b)∈E) (h:wkB E t (m+1) x=true):L.find? (fun b=>wkB E t m b)=some (nxV E t n m x):=by
 obtain ⟨h1,h2,h3⟩:=zag hE h;cases hf:L.find? fun b=>wkB E t m b with
 | none =>
  have:=List.find?_eq_none.1 hf _ ((hm _).2 h1);exact absurd h2 this
 | some v=>
  obtain ⟨h4,ua,ub,e,hn⟩:=List.find?_eq_some_iff_append.1 hf;have h5:=h3 v ((hm v).1 (List.mem_of_find?_eq_some hf)) h4;rcases Nat.lt_or_ge (nxV E t n m x) v with hlt|hge
  ·exfalso;have hb:=(hm _).2 h1;rw [e] at hb hL;rcases List.mem_append.1 hb with hb|hb
   ·have:=hn _ hb;rw [h2] at this;cases this
   ·rcases List.mem_cons.1 hb with hb|hb
    ·omega
    ·have:=(List.pairwise_cons.1 (List.pairwise_append.1 hL).2.1).1 _ hb;omega
  ·rw [show v=nxV E t n m x by omega]
end
def Chn (E:List (Nat×Nat)):List Nat→Prop
 | a :: b :: r => (a, b) ∈ E ∧ Chn E (b :: r)
 | _ => True
theorem zk4 {E:List (Nat×Nat)} {t n:Nat} (hE:∀ e∈E,e.2<n):∀ k x,wkB E t k x=true→Chn E (lwV E t n k x)∧(lwV E t n k x).head? = some x∧(lwV E t n k x).getLast? = some t∧(lwV E t n k x).length=k+1
 | 0, x, h => by rw [Xm] at h; subst h; exact ⟨trivial, rfl, rfl, rfl⟩
 | k+1,x,h=>by
  obtain ⟨h1,h2,_⟩:=zag hE h;obtain ⟨g1,g2,g3,g4⟩:=zk4 hE k _ h2;show Chn E (x::lwV E t n k _)∧(x::lwV E t n k _).head? = some x∧(x::lwV E t n k _).getLast? = some t∧(x::lwV E t n k _).length=k+1+1;refine ⟨?_,rfl,?_,by rw [List.length_cons,g4]⟩
  ·cases hl:lwV E t n k (nxV E t n k x) with
   | nil => trivial
   | cons b r =>
    rw [hl] at g1 g2;injection g2 with g2
    subst g2;exact ⟨h1,g1⟩
  ·rw [List.getLast?_cons,g3];rfl
end Go.Proofs.Ytmnmakhpjgjdaaa
