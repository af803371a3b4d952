/-
  Some texts as one: OrderPlain, ReachPlain, ExtPlain, AcyPlain, FmCauA, FmCauB, FmCauC, FmNilP, FmBnd.
-/
import Derived.Test.YtmnmakhpjgjdaaaZM
import Derived.Test.YtmnmakhpjgjdaaaZR
import Derived.Test.YtmnmakhpjgjdaaaZK
import Derived.Test.YtmnmakhpjgjdaaaZDA
namespace Go.Proofs.Ytmnmakhpjgjdaaa
set_option linter.unusedVariables false
set_option maxHeartbeats 16000000
theorem zkf:∀ (n:Nat) (out:List Int),(∀ v:Nat,v<n→(v:Int)∈out)→n≤out.length
 | 0, _, _ => Nat.zero_le _
 | n+1,out,h=>by
  have hn:=h n (Nat.lt_succ_self n);have:=zkf n (out.erase (n:Int)) fun v hv=>by
   have hm:=h v za;exact (List.mem_erase_of_ne za).2 hm
  rw [List.length_erase_of_mem hn] at this;have:=List.length_pos_of_mem hn;omega
theorem zkd {n:Nat} {E:List (Nat×Nat)} (h:InN n E) (f:Nat→Nat) (hf:∀ e∈E,f e.1<f e.2):(yM n E).length=n:=by
 obtain ⟨hh,hT⟩:=XT h (n+1) (yx n E) (TI.start h) (by show n<0+(n+1);omega);have hle:=hT.le;have hall:∀ (m v:Nat),f v≤m→v<n→(v:Int)∈(yg E (n+1) (yx n E)).out:=by
  intro m
  induction m with
  | zero=>
   intro v hv hvn;refine Classical.byContradiction fun hno=>?_;have hc:zf9 n E (yg E (n+1) (yx n E)).out v=0:=by
    refine List.countP_eq_zero.2 fun u hu q=>?_;simp only [Bool.and_eq_true,decide_eq_true_eq] at q;obtain ⟨e,he,h1,h2⟩:=xn.1 q.2;have:=hf e he;have h3:e.2=v:=by omega
    rw [h3] at this;omega
   have:=(hT.hM (v:Int)).2 ⟨by omega,hno,by rw [Int.toNat_natCast,hT.cnt v hvn,hc];rfl⟩;rw [hh] at this;cases this
  | succ m ih=>
   intro v hv hvn;refine Classical.byContradiction fun hno=>?_;have hc:zf9 n E (yg E (n+1) (yx n E)).out v=0:=by
    refine List.countP_eq_zero.2 fun u hu q=>?_;simp only [Bool.and_eq_true,decide_eq_true_eq] at q;obtain ⟨e,he,h1,h2⟩:=xn.1 q.2;have h3:=hf e he;have h4:e.2=v:=by omega
    rw [h4] at h3;subst h1;exact q.1 (ih e.1 za (h e he).1)
   have:=(hT.hM (v:Int)).2 ⟨by omega,hno,by rw [Int.toNat_natCast,hT.cnt v hvn,hc];rfl⟩;rw [hh] at this;cases this
 have:=zkf n _ fun v hv=>hall (f v) v (Nat.le_refl _) hv;show (yg E (n+1) (yx n E)).out.length=n;omega
theorem znD {n:Nat} {E:List (Nat×Nat)} (h:InN n E) (f:Nat→Nat) (hf:∀ e∈E,f e.1<f e.2):rtK E n n []=some (yM n E)∧(yM n E).length=n:=by
 have hl:=zkd h f hf;rw [zoe h,if_neg za];exact ⟨rfl,hl⟩
inductive Tg (n:Nat) (E:List (Nat×Nat)) (lo:Nat):Nat→Nat→Prop where
 | one {u v:Nat} (h:(v:Int) ∈ zy E u):Tg n E lo u v
 | more {u w v:Nat} (h:(w:Int) ∈ zy E u) (hw:w<n) (hl:lo ≤ w) (hr:Tg n E lo w v):Tg n E lo u v
theorem Tg.trans {n:Nat} {E:List (Nat×Nat)} {lo a b c:Nat} (h:Tg n E lo a b) (hb:b<n) (hl:lo≤b) (k:Tg n E lo b c):Tg n E lo a c:=by
 induction h with
 | one h => exact .more h hb hl k
 | more h hw hlw _ ih => exact .more h hw hlw (ih hb hl k)
theorem Tg.split {n:Nat} {E:List (Nat×Nat)} {lo u v:Nat} (h:Tg n E lo u v):Tg n E (lo+1) u v∨(Tg n E (lo+1) u lo∧Tg n E (lo+1) lo v):=by
 induction h with
 | one h => exact .inl (.one h)
 | @more u w v h hw hl hr ih=>
  by_cases e:w=lo
  ·subst e;rcases ih with ih|ih
   ·exact .inr ⟨.one h,ih⟩
   ·exact .inr ⟨.one h,ih.2⟩
  ·rcases ih with ih|ih
   ·exact .inl (.more h hw za ih)
   ·exact .inr ⟨.more h hw za ih.1,ih.2⟩
theorem Tg.wx {n:Nat} {E:List (Nat×Nat)} {s u v:Nat} (h:Tg n E (s+1) u v) (hv:v=s):∃ L,Wx n E s (L+1) u:=by
 induction h with
 | one h => subst hv; exact ⟨0, h⟩
 | more h hw hl _ ih =>
  obtain ⟨L,hL⟩:=ih hv;exact ⟨L+1,_,hw,h,by omega,hL⟩
theorem zeA {n:Nat} {E:List (Nat×Nat)}:∀ (k lo u:Nat),n≤lo+k→lo≤u→u<n→Tg n E lo u u→∃ s,s<n∧∃ L,Wx n E s (L+1) s
 | 0, lo, u, hk, hl, hu, _ => by omega
 | k+1,lo,u,hk,hl,hu,h=>by
  have hlo:lo<n:=by omega
  rcases h.split with h1|⟨h1,h2⟩
  ·by_cases e:u=lo
   ·subst e;exact ⟨u,hu,h1.wx rfl⟩
   ·exact zeA k (lo+1) u za za hu h1
  ·by_cases e:u=lo
   ·subst e;exact ⟨u,hu,h1.wx rfl⟩
   ·exact ⟨lo,hlo,(h2.trans hu za h1).wx rfl⟩
theorem zoD {n:Nat} {E:List (Nat×Nat)} (h:InN n E) {u:Nat} (hu:u<n) (ht:Tg n E 0 u u):xE E n≠[]:=by
 obtain ⟨s,hs,L,hx⟩:=zeA n 0 u za (Nat.zero_le _) hu ht;rw [← zab h];intro he;have hl:=zcI h hs hx;rcases zaa h n (Nat.le_refl n) with ⟨_,hz⟩|⟨s0,K,_,_,e,_,_⟩
 ·have h0:xa (zY n E s) s (zy E s)=0:=hz s hs;omega
 ·have he' : zen n E n=[]:=he;rw [he'] at e;cases e
def znj (n:Nat) (E:List (Nat×Nat)) (out:List Int):Prop:=∀ j,j<out.length→∀ u:Nat,u<n→nth out j∈zy E u→(u:Int)∈out.take j
theorem zbQ {n:Nat} {E:List (Nat×Nat)} (h:InN n E):∀ (k:Nat) (s:zel),TI n E s→znj n E s.out→znj n E (yg E k s).out
 | 0, s, _, hb => hb
 | k+1,s,hT,hb=>by
  unfold yg;split
  ·exact hb
  ·rename_i h0;refine zbQ h k _ (hT.step h h0) ?_;obtain ⟨q,hq⟩:∃ q,s.h.length=q+1:=⟨s.h.length - 1,by have:=List.length_pos_iff.2 h0;omega⟩
   obtain ⟨v,hv,hvn,hvo,hm0,_,_,_,_⟩:=hT.first hq;have hso:(yS E s).out=s.out++[(v:Int)]:=by
    unfold yS;dsimp only;rw [show s.h.length - 1=q by omega,hv]
   rw [hso];intro j hj u hu hm;simp at hj;by_cases hjl:j<s.out.length
   ·rw [yE hjl] at hm;rw [List.take_append_of_le_length za];exact hb j hjl u hu hm
   ·obtain rfl:j=s.out.length:=by omega
    rw [yX] at hm;rw [List.take_append_of_le_length (Nat.le_refl _),List.take_length];have hc:=hT.cnt v hvn;have h0:zf9 n E s.out v=0:=by omega
    have:=List.countP_eq_zero.1 h0 u (List.mem_range.2 hu);simp only [Bool.and_eq_true,decide_eq_true_eq,not_and] at this;exact Classical.byContradiction fun hno=>this hno hm
structure Ord (n:Nat) (E:List (Nat×Nat)) (out:List Int):Prop where
 len:out.length=n
 nd:out.Nodup
 rng:∀ v∈out,0≤v∧v<n
 fwd:∀ e∈E,∀ i j,i<n→j<n→nth out i=(e.1:Int)→nth out j=(e.2:Int)→i<j
theorem zng {n:Nat} {E:List (Nat×Nat)} (h:InN n E) (hl:(yM n E).length=n):Ord n E (yM n E):=by
 obtain ⟨_,hT⟩:=XT h (n+1) (yx n E) (TI.start h) (by show n<0+(n+1);omega);have hb:=zbQ h (n+1) (yx n E) (TI.start h) (fun j hj=>by cases hj);refine ⟨hl,hT.outN,hT.outR,fun e he i j hi hj e1 e2=>?_⟩;have hl' : (yg E (n+1) (yx n E)).out.length=n:=hl;have hm:=hb j za e.1 (h e he).1 (by
  have e2' : nth (yg E (n+1) (yx n E)).out j=(e.2:Int):=e2;rw [e2'];exact xn.2 ⟨e,he,rfl,rfl⟩)
 obtain ⟨q,hq,hqe⟩:=List.getElem_of_mem hm;rw [List.getElem_take] at hqe;rw [List.length_take] at hq;have e1' : nth (yg E (n+1) (yx n E)).out i=(e.1:Int):=e1;rw [nth_eq za] at e1';have hiq:i=q:=(List.getElem_inj hT.outN).1 (e1'.trans hqe.symm);omega
theorem zeD {α:Type} {p q:α→Bool} {x:α} (h1:q x=true) (h2:p x=false):∀ {l:List α},(∀ y∈l,p y=true→q y=true)→x∈l→l.countP p<l.countP q
 | [], _, hx => by cases hx
 | y::l,h,hx=>by
  rw [List.countP_cons,List.countP_cons];have hm:l.countP p≤l.countP q:=List.countP_mono_left fun z hz=>h z (List.mem_cons_of_mem _ hz);by_cases hxl:x∈l
  ·have:=zeD h1 h2 (fun z hz=>h z (List.mem_cons_of_mem _ hz)) hxl;have hy:=h y zc;by_cases hp:p y=true
   ·rw [if_pos hp,if_pos (hy hp)];omega
   ·rw [if_neg hp];split <;> omega
  ·have hxy:x=y:=by
    rcases List.mem_cons.1 hx with e|e
    ·exact e
    ·exact absurd e hxl
   subst hxy;rw [if_neg (by rw [h2];decide),if_pos h1];omega
section
variable {n:Nat} {E:List (Nat×Nat)} (h:InN n E)
include h
open Classical in
theorem zgS (hc:xE E n=[]):∃ f:Nat→Nat,∀ e∈E,f e.1<f e.2:=by
 refine ⟨fun v=>(List.range n).countP fun u=>decide (Tg n E 0 u v),fun e he=>?_⟩;have hin:=h e he;have hm:((e.2:Nat):Int)∈zy E e.1:=xn.2 ⟨e,he,rfl,rfl⟩;refine zeD (x:=e.1) ?_ ?_ (fun y hy hp=>?_) (List.mem_range.2 hin.1)
 ·exact decide_eq_true (.one hm)
 ·exact decide_eq_false fun ht=>zoD h hin.1 ht hc
 ·exact decide_eq_true ((of_decide_eq_true hp).trans hin.1 (Nat.zero_le _) (.one hm))
theorem ZZ (hc:xE E n=[]):rtK E n n []=some (yM n E)∧Ord n E (yM n E):=by
 obtain ⟨f,hf⟩:=zgS h hc;obtain ⟨h1,h2⟩:=znD h f hf;exact ⟨h1,zng h h2⟩
theorem zf7 {s:Nat} (hs:s<n):∀ (k v:Nat),v<n→Way E (zY n E s) s k v→(k=0→(s:Int)∈zy E v)→
  ∀ i,i≤k→(0≤nth ((v:Int)::Yk E (zY n E s) s k v) i∧nth ((v:Int)::Yk E (zY n E s) s k v) i<n)∧(if i=k then (s:Int) else nth ((v:Int)::Yk E (zY n E s) s k v) (i+1))∈zy E (nth ((v:Int)::Yk E (zY n E s) s k v) i).toNat
 | 0,v,hv,_,h0,i,hi=>by
  obtain rfl:i=0:=by omega
  rw [if_pos rfl];refine ⟨⟨?_,?_⟩,?_⟩
  ·show (0:Int)≤(v:Int);omega
  ·show (v:Int)<n;omega
  ·show (s:Int)∈zy E ((v:Int)).toNat;rw [Int.toNat_natCast];exact h0 rfl
 | k+1,v,hv,hw,_,i,hi=>by
  rcases hw with h0|⟨w,hw,hp⟩
  ·omega
  obtain ⟨j,hj,e,hq⟩:=WQ hw hp;have hin:=yA h (zC hj);have hst:xL E (zY n E s) s (k+1:Nat) v=(nth (zy E v) j).toNat:=by unfold xL;rw [e];rfl
  obtain ⟨_,_,_,_,_,hW⟩:=Way.step h hs (.inr ⟨w,hw,hp⟩);unfold WU at hq;rw [decide_eq_true_eq] at hq;have hun:xL E (zY n E s) s (k+1:Nat) v<n:=by rw [hst];omega
  have hu:((xL E (zY n E s) s (k+1:Nat) v:Nat):Int)∈zy E v:=by
   rw [hst,show (((nth (zy E v) j).toNat:Nat):Int)=nth (zy E v) j by omega];exact zC hj
  have ih:=zf7 hs k _ hun hW fun hk=>by
   subst hk;have:=(zdx h hs 0 (xL E (zY n E s) s (0+1:Nat) v) hun (by rw [hst];exact hq.2)).2;exact this
  cases i with
  | zero=>
   refine ⟨⟨?_,?_⟩,?_⟩
   ·show (0:Int)≤(v:Int);omega
   ·show (v:Int)<n;omega
   ·rw [if_neg za];show ((xL E (zY n E s) s (k+1:Nat) v:Nat):Int)∈zy E ((v:Int)).toNat;rw [Int.toNat_natCast];exact hu
  | succ i=>
   have:=ih i za;by_cases hik:i=k
   ·rw [if_pos hik] at this;rw [if_pos za];exact this
   ·rw [if_neg hik] at this;rw [if_neg za];exact this
theorem zeH (hc:xE E n≠[]):∀ i,i<(xE E n).length→∃ a b:Nat,nth (xE E n) i=a∧nth (xE E n) ((i+1) % (xE E n).length)=b∧(a,b)∈E:=by
 have hg:xE E n=zen n E n:=(zab h).symm;rcases zaa h n (Nat.le_refl n) with ⟨e,_⟩|⟨s0,K,h1,h2,e,_,_⟩
 ·exact absurd (hg.trans e) hc
 rw [hg,e];intro i hi;have hlen:((s0:Int)::Yk E (zY n E s0) s0 K s0).length=K+1:=by rw [List.length_cons,VN]
 rw [hlen] at hi ⊢;obtain ⟨k,hk,_,hW⟩:=Xf h h1 (show xa (zY n E s0) s0 (zy E s0)≠0 by have:xa (zY n E s0) s0 (zy E s0)=_:=h2;omega);have hkK:k=K:=by have:xa (zY n E s0) s0 (zy E s0)=_:=h2;omega
 subst hkK;obtain ⟨⟨c1,c2⟩,c3⟩:=zf7 h h1 k s0 h1 hW (fun h0=>by subst h0;exact zdj h h1 (L:=0) h2) i za;have hc3:nth ((s0:Int)::Yk E (zY n E s0) s0 k s0) ((i+1) % (k+1))∈zy E (nth ((s0:Int)::Yk E (zY n E s0) s0 k s0) i).toNat:=by
  by_cases hik:i=k
  ·subst hik;rw [if_pos rfl] at c3;rw [Nat.mod_self];exact c3
  ·rw [if_neg hik] at c3;rw [Nat.mod_eq_of_lt za];exact c3
 obtain ⟨q,hq,q1,q2⟩:=xn.1 hc3;refine ⟨q.1,q.2,by omega,q2.symm,hq⟩
end
section
open Go.RowKit
theorem zay {K:Nat→Option (List (Nat×Nat))} {B:Nat}:∀ {i n:Nat},i≤n→(∀ a L,a<n→K a=some L→L.length≤B)→(yH K i).length≤B * i
 | 0, _, _, _ => Nat.le_refl _
 | i+1, n, h, hK => by
  rw [WL,List.length_append,List.length_map,Nat.mul_succ];have h1:=zay (i:=i) (n:=n) za hK;cases hk:K i with
  | none => simp; omega
  | some L => have := hK i L za hk; simp; omega
theorem zmv (l:List OpV) (q:Nat):(zb1 l q).length≤l.length:=
 Wm (n:=l.length) (zaL l q) fun ⟨_,_⟩ hp=>xt (Vl hp).1
theorem zks (l:List OpV):(edC l).length≤l.length * l.length:=zay (Nat.le_refl _) fun a L _ h=>by
 unfold KC at h;split at h
 ·injection h with h;rw [← h];exact zmv l a
 ·cases h
theorem InN.mem {n:Nat} {E E' : List (Nat×Nat)} (h:InN n E) (hm:∀ e,e∈E'↔e∈E):InN n E':=fun e he=>h e ((hm e).1 he)
theorem Yr (l:List OpV):InN l.length (edC l):=zht l
theorem zgq (l:List OpV) (hl:l.length≤14):zX Try.prog 56 [.int .i64 l.length,.perm 2 ((edC l).map edf)] .sh (.list 1 ((xE (edC l) l.length).map zD)):=by
 refine zX.perm (pre:=[.int .i64 l.length]) (post:=[]) fun es' hp=>?_;obtain ⟨P,hP,rfl⟩:=zhW hp;have hm:∀ e,e∈P↔e∈edC l:=fun e=>hP.mem_iff;rw [← XI hm];have h1:=zks l;have h2:=Nat.mul_le_mul hl hl;exact zgr l.length P hl (by rw [hP.length_eq];omega) ((Yr l).mem hm)
def Wz (l:List OpV):List Int:=xE (edC l) l.length
def zpj (l:List OpV):FV:=.tup [.agg [.int .i64 0,.int .i64 6,.int .i64 0,.nil,.list 3 ((ZF l (Wz l) (Wz l).length).map EdC.fv)],.bool (decide (((Wz l).length:Int) > 0))]
theorem zdw (l:List OpV):(Wz l).length≤l.length:=by
 unfold Wz;rw [← zab (Yr l)];exact zdv (Yr l) (Nat.le_refl _)
theorem zmg {l:List OpV} {a b:Nat} (h:(a,b)∈edC l):KC l a=some (zb1 l a):=by unfold KC;rw [if_pos (VW.1 h).1]
theorem zgs (l:List OpV) (hl:l.length≤14):zX Try.prog 33 [zfL l] .sh (zpj l):=by
 have hpairs:=zbh (.list 8 (l.map OpV.fv)) (.smap (yG l l.length)) (.list 1 ((zO l l.length).map yp)) (KC l) l.length za (kok l za);have hcyc:=zgq l hl;have hcl:=zdw l;have hce:Wz l≠[]→∀ i,i<(Wz l).length→∃ a b:Nat,nth (Wz l) i=a∧nth (Wz l) ((i+1) % (Wz l).length)=b∧(a,b)∈edC l:=zeH (Yr l);rw [show xE (edC l) l.length=Wz l from rfl] at hcyc;unfold zfL zpj;change zX _ _ [.eptr 4 [[.list 8 (l.map OpV.fv),.list 1 ((zO l l.length).map yp),.smap (yG l l.length),.list 1 ((List.range l.length).map fun q=>[xk (KC l q)])]] 0 0] _ _;obtain ⟨f1,hf1⟩:∃ f1,f1=FV.list 1 ((zO l l.length).map yp):=⟨_,rfl⟩
 obtain ⟨r2,hr2⟩:∃ r2,r2=FV.smap (yG l l.length):=⟨_,rfl⟩
 have hcell:∀ i,i<l.length→(List.map (fun q=>[xk (KC l q)]) (List.range l.length)).getD i []=[xk (KC l i)]:=fun i hi=>by rw [List.getD_eq_getElem?_getD,xF l.length i _ hi];rfl
 obtain ⟨C,hC⟩:∃ C,C=List.map (fun q=>[xk (KC l q)]) (List.range l.length):=⟨_,rfl⟩
 have hCl:C.length=l.length:=by rw [hC];simp
 rw [← hf1,← hr2,← hC] at hpairs ⊢;rw [← hC] at hcell;obtain ⟨c,hc⟩:∃ c,Wz l=c:=⟨_,rfl⟩
 rw [hc] at hcyc hcl hce ⊢;have hkok:=kok l (show l.length≤1000 by omega);clear hf1 hr2;refine zX.of_body (c:=(xx Try.prog zE zt 57)) ⟨Try.func33,rfl,Try.ntmps33,by kernel_rfl⟩ zH zw rfl ?_;change FW _ _ _ ⟨[(0,.eptr 4 [[.list 8 (l.map OpV.fv),f1,r2,.list 1 C]] 0 0)],[]⟩;refine zQ ?_;refine zd2 hpairs (by repeat (first|exact zu.nil|refine zu.cons zm ?_)) rfl rfl ?_;skip;refine zd2 hcyc (by repeat (first|exact zu.nil|refine zu.cons zm ?_)) rfl rfl ?_;refine zp ?_;refine ⟨by kernel_rfl,?_⟩;refine zb ?_;refine FW.le ?_ (FLe.toH (i:=5) rfl);refine FW.loop (fun i:Nat=>⟨[(0,.eptr 4 [[.list 8 (l.map OpV.fv),f1,r2,.list 1 C]] 0 0),(2,.ptr 102 0 0 0),(4,.list 1 (c.map zD)),(5,.ptr 103 0 0 0),(18,.list 1 (c.map zD)),(19,.int .i64 c.length),(20,.int .i64 i)],[(102,⟨0,.own,36,5,[[.int .i64 0,.int .i64 0,.int .i64 0,.nil,.nil]]⟩),(103,⟨0,.hrow,36,5,[[.int .i64 0,.int .i64 6,.int .i64 0,.nil,.own 105 0 0 (ZF l c i).length]]⟩),(105,⟨0,.own,46,3,(ZF l c i).map EdC.fv⟩)]⟩) (fun i=>i≤c.length) (fun i=>c.length - i) 0 (Nat.zero_le _) ?_ ?_
 ·exact (FLe.cv [⟨102,some 2,0+1,⟨0,.own,36,5,[[.int .i64 0,.int .i64 0,.int .i64 0,.nil,.nil]]⟩⟩,⟨103,some 5,0+1,⟨0,.hrow,36,5,[[.int .i64 0,.int .i64 6,.int .i64 0,.nil,.own 105 0 0 0]]⟩⟩,⟨105,none,0,⟨0,.own,46,3,[]⟩⟩] zf zd)
 intro q hq;have hcs:ZF l c (q+1)=ZF l c q++[((nth c q).toNat,(nth c ((q+1) % c.length)).toNat,ziW l (nth c q).toNat (nth c ((q+1) % c.length)).toNat)]:=by
  unfold ZF;rw [List.range_succ,List.map_append];rfl
 have hcq:(ZF l c q).length=q:=by simp [ZF]
 have hcA:q=c.length→ZF l c c.length=ZF l c q:=fun e=>by rw [e]
 have hce:=fun h=>hce h q;generalize ZF l c q=CC at hcs hcq hcA ⊢;refine zb ?_;refine FW.cond rfl (fun h=>?_) (fun h=>?_)
 ·have hlt:q<c.length:=by simpa using h
  clear h hcA;obtain ⟨x,y,hx,hy,hxy⟩:=hce (fun e=>by rw [e] at hlt;simp at hlt) hlt;obtain ⟨hxn,hyn⟩:=zht l _ hxy;dsimp only at hxn hyn;obtain ⟨m,hm⟩:∃ m,(q+1) % c.length=m:=⟨_,rfl⟩
  have hml:m<c.length:=by rw [← hm];exact Nat.mod_lt _ za
  rw [hm] at hy hcs;rw [hx,hy,Int.toNat_natCast,Int.toNat_natCast] at hcs;have hcx:=hcell x hxn;rw [zmg hxy] at hcx;have hLr:=hkok.rng x _ hxn (zmg hxy);have hLb:=hkok.lab x _ hxn (zmg hxy);have hLk:∀ p∈zb1 l x,p.1<1000:=fun p hp=>by have:=hLr p hp;omega
  have hll:=Yl (zb1 l x) y;have hlab:ziW l x y=(alk (zb1 l x) y).getD 0:=by unfold ziW zmb;rw [zmg hxy];rfl
  rw [hlab] at hcs;have hlb:(alk (zb1 l x) y).getD 0≤1000:=by
   cases ha:alk (zb1 l x) y with
   | none => exact Nat.zero_le _
   | some q => exact hLb _ (YX ha)
  obtain ⟨z,hz⟩:∃ z,(alk (zb1 l x) y).getD 0=z:=⟨_,rfl⟩
  rw [hz] at hll hlb hcs;refine zb ?_;rw [show (q+1) % ((c.length:Int)).natAbs=m by rw [Int.natAbs_natCast];exact hm];refine zb ?_;rw [hy,hx];refine zQ ?_;refine VE rfl rfl rfl rfl rfl rfl rfl ?_;refine zp ?_;refine Wp rfl rfl rfl (by rw [hCl];exact hxn) hcx rfl rfl rfl rfl ?_;refine zp ?_;refine zll (e:=3) xw (YW hLk) (Zw (by unfold I64;omega)) hll rfl rfl rfl rfl rfl rfl rfl ?_;refine zp ?_;refine Ul (d:=0) rfl rfl ⟨_,_,_,rfl⟩ (zR rfl zg) (fun i v n e=>by injection e with e1 e2 e3 e4;subst e1;subst e2;exact zR rfl zg) rfl rfl rfl rfl (by show 4<5;decide) rfl rfl ?_;refine zN.nil ⟨by kernel_rfl,?_⟩;refine zb ?_;refine ⟨q+1,by omega,by omega,?_⟩;rw [hcs,show (CC++[(x,y,z)]).length=CC.length+1 by simp,List.map_append];exact (FLe.cv [⟨102,some 102,0,⟨0,.own,36,5,[[.int .i64 0,.int .i64 0,.int .i64 0,.nil,.nil]]⟩⟩,⟨103,some 103,0,⟨0,.hrow,36,5,[[.int .i64 0,.int .i64 6,.int .i64 0,.nil,.own 105 0 0 (CC.length+1)]]⟩⟩,⟨105,some 49,0+1,⟨0,.own,46,3,CC.map EdC.fv++[(x,y,z)].map EdC.fv⟩⟩] zf zd)
 ·have hqe:q=c.length:=by simp at h;omega
  rw [hcA hqe];refine FW.le ?_ (FLe.deep1C (q:=5) (r:=[.int .i64 0,.int .i64 6,.int .i64 0,.nil,.own 105 0 0 CC.length]) (r2:=[.int .i64 0,.int .i64 6,.int .i64 0,.nil,.list 3 (CC.map EdC.fv)]) (es:=CC.map EdC.fv) 103 105 4 zg rfl rfl (by rw [List.length_map];rfl) rfl rfl rfl);refine zb ?_;exact FW.ret ⟨.inl rfl,.sh (.cons (zL rfl rfl rfl rfl rfl rfl zg) (.cons (.tmp 3 rfl rfl) .nil)) rfl rfl⟩
theorem zdQ {sz:Nat} {es:List (List FV)} (h:es≠[]):znS sz es=.list sz es:=by
 cases es with
 | nil => exact absurd rfl h
 | cons e es => rfl
theorem znU {l:List OpV} {x y:Nat}:Zr l x y≠[]↔ptV (edC l) y l.length x≠[]:=by
 unfold Zr ptV;cases dsV (edC l) y l.length x with
 | none => simp [xy]
 | some k =>
  rw [← List.length_pos_iff,← List.length_pos_iff,Xc,zdM];simp
theorem ZI {l:List OpV} {x y:Nat}:(Zr l x y).length≤l.length:=by
 unfold Zr;rw [Xc];unfold ptV;cases h:dsV (edC l) y l.length x with
 | none => simp
 | some k => have := (zac h).1; rw [zdM]; omega
theorem zhZ {l:List OpV} {x y:Nat}:(!(Zr l x y).isEmpty)=true↔Zr l x y≠[]:=by
 cases Zr l x y <;> simp
theorem xr {α β:Type} [Inhabited α] {p:α→Option β} {l:List α} {j:Nat} {r:β} (h:∀ i,i<j→p (nth l i)=none) (hj:j<l.length) (hp:p (nth l j)=some r):l.findSome? p=some r:=by
 rw [nth_eq hj] at hp;have:l=l.take j++l[j]::l.drop (j+1):=by rw [← List.drop_eq_getElem_cons hj,List.take_append_drop]
 rw [this,List.findSome?_append,List.findSome?_cons,hp];have h0:(l.take j).findSome? p=none:=by
  rw [List.findSome?_eq_none_iff];intro a ha;obtain ⟨i,hi,rfl⟩:=List.getElem_of_mem ha;have hij:i<j:=by rw [List.length_take] at hi;omega
  have:=h i hij;rw [nth_eq za] at this;rw [List.getElem_take];exact this
 rw [h0];rfl
theorem Za {α β:Type} [Inhabited α] {p:α→Option β} {l:List α} (h:∀ i,i<l.length→p (nth l i)=none):l.findSome? p=none:=by
 rw [List.findSome?_eq_none_iff];intro x hx;obtain ⟨i,hi,rfl⟩:=List.getElem_of_mem hx;have:=h i hi;rw [nth_eq hi] at this;exact this
def zje (l:List OpV):FV:=match Ug l with
 | some (w1, w2, i) => .tup [.agg (YS 0 7 (nth l w2).key [w1, w2, i] (Zr l w1 w2 ++ Zr l w2 i)), .bool true]
 | none => .tup [.agg (YS 0 0 0 [] []), .bool false]
theorem zlc (l:List OpV) (hl:l.length≤1000) (hin:∀ o∈l,Ve o):zX Try.prog 34 [zfL l] .sh (zje l):=by
 have hkok:=kok l hl;have hfr:=fun i hi=>zaT l (.list 1 ((zO l l.length).map yp)) (.list 1 ((List.range l.length).map fun q=>[xk (KC l q)])) rfl rfl i hi za hin;have hds:=fun t0 ht=>zcl l (.smap (yG l l.length)) (.list 1 ((zO l l.length).map yp)) (KC l) l.length t0 rfl hl (fun i L hi hk=>⟨hkok.len i L hi hk,hkok.rng i L hi hk⟩) ht;have hpt:=fun x y hx hy hxy=>zfA l (.smap (yG l l.length)) (.list 1 ((zO l l.length).map yp)) (KC l) l.length x y rfl hl hkok hx hy hxy;obtain ⟨I,hI⟩:∃ I,I=zO l l.length:=⟨_,rfl⟩
 have hIl:I.length≤l.length:=by rw [hI];exact YB l l.length
 have hIm:∀ j,j<I.length→nth I j<l.length:=fun j hj=>by have:=zC hj;rw [hI] at this ⊢;exact xt this
 obtain ⟨R,hR⟩:∃ R,zje l=R:=⟨_,rfl⟩
 have hRh:R.hand=none:=by rw [← hR];unfold zje;split <;> rfl
 have hyes:∀ j w1 m,j<I.length→(∀ i,i<j→xX l (nth I i)=none)→yR l (nth I j)=some w1→m<I.length→(∀ i,i<m→WF l (nth I j) w1 (nth I i)=false)→WF l (nth I j) w1 (nth I m)=true→R=.tup [.agg (YS 0 7 (nth l (nth I m)).key [w1,nth I m,nth I j] (Zr l w1 (nth I m)++Zr l (nth I m) (nth I j))),.bool true]:=fun j w1 m h1 h2 h3 h4 h5 h6=>by
  have h7:xX l (nth I j)=some (w1,nth I m,nth I j):=by
   unfold xX;rw [h3];show ((zO l l.length).find? _).map _=_;rw [← hI,xi h5 h4 h6];rfl
  rw [← hR];unfold zje Ug;rw [← hI,xr h2 h1 h7]
 have hno:(∀ i,i<I.length→xX l (nth I i)=none)→R=.tup [.agg (YS 0 0 0 [] []),.bool false]:=fun h=>by
  rw [← hR];unfold zje Ug;rw [← hI,Za h]
 have hat0:∀ i,yR l i=none→xX l i=none:=fun i h=>by unfold xX;rw [h];rfl
 have hat1:∀ i w1,yR l i=some w1→(∀ m,m<I.length→WF l i w1 (nth I m)=false)→xX l i=none:=fun i w1 h h2=>by
  unfold xX;rw [h];show ((zO l l.length).find? _).map _=_;rw [← hI,xO h2];rfl
 rw [hR];clear hR;unfold zfL;rw [← hI] at hfr hds hpt ⊢;obtain ⟨r2,hr2⟩:∃ r2,r2=FV.smap (yG l l.length):=⟨_,rfl⟩
 obtain ⟨C,hC⟩:∃ C,C=List.map (fun q=>[xk (KC l q)]) (List.range l.length):=⟨_,rfl⟩
 unfold zjv at hfr ⊢;rw [← hr2,← hC] at hfr hds hpt ⊢;clear hr2 hC;refine zX.of_body (c:=(xx Try.prog zE zt 106)) ⟨Try.func34,rfl,Try.ntmps34,by kernel_rfl⟩ zH zw hRh ?_;change FW _ _ _ ⟨[(0,.eptr 4 [[.list 8 (l.map OpV.fv),.list 1 (I.map yp),r2,.list 1 C]] 0 0)],[]⟩;refine zb ?_;refine FW.loop (fun j:Nat=>⟨[(0,.eptr 4 [[.list 8 (l.map OpV.fv),.list 1 (I.map yp),r2,.list 1 C]] 0 0),(2,.ptr 102 0 0 0),(18,.list 1 (I.map yp)),(19,.int .i64 I.length),(20,.int .i64 j)],[(102,⟨0,.own,36,5,[[.int .i64 0,.int .i64 0,.int .i64 0,.nil,.nil]]⟩)]⟩) (fun j=>j≤I.length∧∀ i,i<j→xX l (nth I i)=none) (fun j=>I.length - j) 0 ⟨Nat.zero_le _,fun i hi=>absurd hi (Nat.not_lt_zero _)⟩ ?_ ?_
 ·exact (FLe.cv [⟨102,some 2,0+1,⟨0,.own,36,5,[[.int .i64 0,.int .i64 0,.int .i64 0,.nil,.nil]]⟩⟩] zf zd)
 rintro j ⟨hj,hpre⟩;refine zb ?_;refine FW.cond rfl (fun h=>?_) (fun h=>?_)
 ·have hjl:j<I.length:=by simpa using h
  clear h;have hyes:=fun w1 m=>hyes j w1 m hjl hpre;have hnext:xX l (nth I j)=none→∀ i,i<j+1→xX l (nth I i)=none:=fun h i hi=>by
   rcases Nat.lt_succ_iff_lt_or_eq.1 hi with h'|rfl
   ·exact hpre i h'
   ·exact h
  have hii:=hIm j hjl;obtain ⟨i,hi⟩:∃ i,nth I j=i:=⟨_,rfl⟩
  rw [hi] at hii hyes hnext;have hfr:=hfr i hii;unfold ziE at hfr;have hat0:=hat0 i;have hat1:=hat1 i;have hflt:=fun w=>zae (l:=l) (i:=i) (w:=w);refine zb ?_;rw [hi];skip;cases hcf:yR l i with
  | none =>
   rw [hcf] at hfr;refine zS hfr (by repeat (first|exact zu.nil|refine zu.cons zm ?_)) rfl rfl ?_;refine zb ?_;refine ⟨j+1,⟨by omega,hnext (hat0 hcf)⟩,by omega,?_⟩;exact (FLe.cv [⟨102,some 102,0,⟨0,.own,36,5,[[.int .i64 0,.int .i64 0,.int .i64 0,.nil,.nil]]⟩⟩] zf zd)
  | some w1 =>
  obtain ⟨hw1n,hik,_,_,_⟩:=hflt w1 hcf;have hat1:=hat1 w1 hcf;have hyes:=fun m=>hyes w1 m hcf;rw [hcf] at hfr;refine zS hfr (by repeat (first|exact zu.nil|refine zu.cons zm ?_)) rfl rfl ?_;refine zb ?_;refine xR (hds i hii) [] rfl zJ.nil rfl rfl rfl rfl rfl rfl ?_;rintro _ _ ⟨A,hA,rfl⟩;refine xf.one [] (.smap (A.map yU)) rfl rfl ?_;have hAk:∀ p∈A,p.1<1000:=fun p hp=>Nat.lt_of_lt_of_le (hA.rng p hp).1 hl;refine zb ?_;refine FW.loop (fun m:Nat=>⟨[(0,.eptr 4 [[.list 8 (l.map OpV.fv),.list 1 (I.map yp),r2,.list 1 C]] 0 0),(2,.ptr 102 0 0 0),(18,.list 1 (I.map yp)),(19,.int .i64 I.length),(20,.int .i64 j),(5,.int .i64 i),(6,.int .i64 w1),(8,.smap (A.map yU)),(38,.list 1 (I.map yp)),(39,.int .i64 I.length),(40,.int .i64 m)],[(102,⟨0,.own,36,5,[[.int .i64 0,.int .i64 0,.int .i64 0,.nil,.nil]]⟩)]⟩) (fun m=>m≤I.length∧∀ q,q<m→WF l i w1 (nth I q)=false) (fun m=>I.length - m) 0 ⟨Nat.zero_le _,fun i hi=>absurd hi (Nat.not_lt_zero _)⟩ ?_ ?_
  ·exact (FLe.cv [⟨102,some 102,0,⟨0,.own,36,5,[[.int .i64 0,.int .i64 0,.int .i64 0,.nil,.nil]]⟩⟩] zf zd)
  rintro m ⟨hm,hpre2⟩;refine zb ?_;refine FW.cond rfl (fun h=>?_) (fun h=>?_)
  ·have hml:m<I.length:=by simpa using h
   clear h;have hyes:=hyes m hml hpre2;have hnext2:WF l i w1 (nth I m)=false→∀ q,q<m+1→WF l i w1 (nth I q)=false:=fun h q hq=>by
    rcases Nat.lt_succ_iff_lt_or_eq.1 hq with h'|rfl
    ·exact hpre2 q h'
    ·exact h
   have hw2n:=hIm m hml;obtain ⟨w2,hw2⟩:∃ w2,nth I m=w2:=⟨_,rfl⟩
   rw [hw2] at hw2n hyes hnext2;have hob:WF l i w1 w2=(decide ((nth l w2).k=1) && decide ((nth l w2).key=(nth l i).key) && decide (w2≠w1) && !(Zr l w1 w2).isEmpty && !(Zr l w2 i).isEmpty):=rfl;obtain ⟨o,ho⟩:∃ o,nth l w2=o:=⟨_,rfl⟩
   obtain ⟨oi,hoi⟩:∃ oi,nth l i=oi:=⟨_,rfl⟩
   have hlk:=Yl A w2;rw [ho,hoi] at hob;rw [hoi] at hik;rw [ho] at hyes;have hbe:o.k=1→((alk A w2).isSome=true↔Zr l w2 i≠[]):=fun hk=>by
    have hne:w2≠i:=fun e=>by rw [e,hoi] at ho;rw [← ho] at hk;omega
    rw [znU];exact (hA.path_iff hne).symm
   obtain ⟨bf,hbf⟩:∃ bf,(alk A w2).isSome=bf:=⟨_,rfl⟩
   obtain ⟨dv,hdv⟩:∃ dv,(alk A w2).getD 0=dv:=⟨_,rfl⟩
   rw [hbf,hdv] at hlk;rw [hbf] at hbe;refine zb ?_;rw [hw2];skip;rw [ho];skip;refine XN (e:=3) xw (YW hAk) (Zw (by unfold I64;omega)) hlk rfl rfl rfl rfl rfl rfl rfl ?_;cases bf with
   | false=>
    refine zQ ?_;refine ⟨by kernel_rfl,?_⟩;refine zb ?_;refine ⟨m+1,⟨by omega,hnext2 ?_⟩,by omega,(FLe.cv [⟨102,some 102,0,⟨0,.own,36,5,[[.int .i64 0,.int .i64 0,.int .i64 0,.nil,.nil]]⟩⟩] zf zd)⟩;rw [hob];by_cases hk1:o.k=1
    ·have h0:(!(Zr l w2 i).isEmpty)=false:=by
      cases hq:!(Zr l w2 i).isEmpty with
      | false => rfl
      | true => have := (hbe hk1).2 (zhZ.1 hq); cases this
     rw [h0,Bool.and_false]
    ·rw [decide_eq_false hk1];simp
   | true =>
   refine zQ ?_;refine yz (fun h1=>?_) (fun h1=>?_)
   ·refine zp ?_;refine ⟨by kernel_rfl,?_⟩;refine zb ?_;refine ⟨m+1,⟨by omega,hnext2 ?_⟩,by omega,(FLe.cv [⟨102,some 102,0,⟨0,.own,36,5,[[.int .i64 0,.int .i64 0,.int .i64 0,.nil,.nil]]⟩⟩] zf zd)⟩;rw [hob,decide_eq_false (by simpa using h1)];simp
   have hk1:o.k=1:=by simpa using h1
   refine zp ?_;rw [hoi];skip;refine yz (fun h2=>?_) (fun h2=>?_)
   ·refine zp ?_;refine ⟨by kernel_rfl,?_⟩;refine zb ?_;refine ⟨m+1,⟨by omega,hnext2 ?_⟩,by omega,(FLe.cv [⟨102,some 102,0,⟨0,.own,36,5,[[.int .i64 0,.int .i64 0,.int .i64 0,.nil,.nil]]⟩⟩] zf zd)⟩;rw [hob,decide_eq_false (show ¬ o.key=oi.key by simpa using h2)];simp
   have hke:o.key=oi.key:=by simpa using h2
   refine zp ?_;refine ⟨by kernel_rfl,?_⟩;refine FW.cond rfl (fun h3=>?_) (fun h3=>?_)
   ·have h3:w2=w1:=by simp at h3;omega
    refine zb ?_;refine ⟨m+1,⟨by omega,hnext2 ?_⟩,by omega,(FLe.cv [⟨102,some 102,0,⟨0,.own,36,5,[[.int .i64 0,.int .i64 0,.int .i64 0,.nil,.nil]]⟩⟩] zf zd)⟩;rw [hob,decide_eq_false (show ¬ w2≠w1 by simpa using h3)];simp
   have hne:w2≠w1:=fun e=>by rw [e] at h3;simp at h3
   have hwi:w2≠i:=fun e=>by rw [e,hoi] at ho;rw [← ho] at hk1;omega
   have hp2:=(hbe hk1).1 rfl;rw [decide_eq_true hk1,decide_eq_true hke,decide_eq_true hne,zhZ.2 hp2] at hob;have hP1:=hpt w1 w2 hw1n hw2n (fun e=>hne e.symm);have hP2:=zX.sh_of_ow (hpt w2 i hw2n hii hwi);have hl1:=ZI (l:=l) (x:=w1) (y:=w2);have hl2:=ZI (l:=l) (x:=w2) (y:=i);rw [show znr (KC l) l.length w1 w2=Zr l w1 w2 from rfl] at hP1;rw [show znr (KC l) l.length w2 i=Zr l w2 i from rfl] at hP2;generalize Zr l w1 w2=X1 at hP1 hl1 hob hyes;generalize Zr l w2 i=X2 at hP2 hl2 hp2 hyes;refine zb ?_;refine Wq hP1 (by repeat (first|exact zu.nil|refine zu.cons zm ?_)) (List.length_map _) rfl rfl rfl ?_;refine zb ?_;refine FW.cond rfl (fun h4=>?_) (fun h4=>?_)
   ·have hX1:X1≠[]:=fun e=>by rw [e] at h4;simp at h4
    rw [hyes (by rw [hob];cases X1 with|nil=>exact absurd rfl hX1|cons e X=>rfl)]
    (repeat (first|refine FW.seq ?_|refine FW.draw ?_|refine Yt rfl rfl rfl ?_|refine XK rfl rfl rfl rfl rfl rfl zg rfl rfl ?_|refine Yn rfl rfl rfl rfl rfl xG rfl rfl rfl rfl rfl ?_))
    refine zcW (es:=[yp w1,yp w2,yp i]) rfl rfl rfl (by refine yT.int rfl rfl ?_;refine yT.int rfl rfl ?_;refine yT.int rfl rfl ?_;exact yT.nil) rfl rfl rfl rfl rfl ?_
    (repeat (first|refine Yt rfl rfl rfl ?_))
    refine zd2 hP2 (by repeat (first|exact zu.nil|refine zu.cons zm ?_)) rfl rfl ?_;refine zh1 rfl rfl (List.length_map _).symm rfl rfl rfl zg (Zv.list rfl) zx zx rfl rfl rfl ?_;refine zp ?_;refine ⟨by kernel_rfl,?_⟩;skip;refine FW.ret ⟨.inl rfl,.sh (.cons (zL rfl rfl rfl rfl rfl rfl zg) (.cons (.tmp 3 rfl rfl) .nil)) ?_ rfl⟩;have hX12:(X1++X2).map EdC.fv≠[]:=fun e=>hX1 (List.append_eq_nil_iff.1 (List.map_eq_nil_iff.1 e)).1;unfold YS;rw [zdQ hX12,List.map_append];rfl
   ·have hX1:X1=[]:=by cases X1 with|nil=>rfl|cons e X=>simp at h4
    refine zb ?_;refine ⟨m+1,⟨by omega,hnext2 ?_⟩,by omega,(FLe.cv [⟨102,some 102,0,⟨0,.own,36,5,[[.int .i64 0,.int .i64 0,.int .i64 0,.nil,.nil]]⟩⟩] zf zd)⟩;rw [hob,hX1];rfl
  ·have hme:m=I.length:=by simp at h;omega
   subst hme;refine zb ?_;refine ⟨j+1,⟨by omega,hnext (hat1 hpre2)⟩,by omega,?_⟩;exact (FLe.cv [⟨102,some 102,0,⟨0,.own,36,5,[[.int .i64 0,.int .i64 0,.int .i64 0,.nil,.nil]]⟩⟩] zf zd)
 ·have hje:j=I.length:=by simp at h;omega
  subst hje;rw [hno hpre];refine zb ?_;exact FW.ret ⟨.inl rfl,.sh (.cons (zL rfl rfl rfl rfl rfl rfl zg) (.cons (.tmp 3 rfl rfl) .nil)) rfl rfl⟩
def ziT (l:List OpV):FV:=match Ua l with
 | some (w, i) => .tup [.agg (YS 0 8 (nth l w).key [w, i] (Zr l w i)), .bool true]
 | none => .tup [.agg (YS 0 0 0 [] []), .bool false]
theorem zkQ (l:List OpV) (hl:l.length≤1000) (hin:∀ o∈l,Ve o):zX Try.prog 35 [zfL l] .sh (ziT l):=by
 have hkok:=kok l hl;have hpt:=fun x y hx hy hxy=>zfA l (.smap (yG l l.length)) (.list 1 ((zO l l.length).map yp)) (KC l) l.length x y rfl hl hkok hx hy hxy;obtain ⟨I,hI⟩:∃ I,I=zO l l.length:=⟨_,rfl⟩
 have hIl:I.length≤l.length:=by rw [hI];exact YB l l.length
 have hIm:∀ j,j<I.length→nth I j<l.length:=fun j hj=>by have:=zC hj;rw [hI] at this ⊢;exact xt this
 obtain ⟨R,hR⟩:∃ R,ziT l=R:=⟨_,rfl⟩
 have hRh:R.hand=none:=by rw [← hR];unfold ziT;split <;> rfl
 have hyes:∀ j m,j<I.length→(∀ i,i<j→Zp l (nth I i)=none)→(nth l (nth I j)).k=0→(nth l (nth I j)).res=0→m<I.length→(∀ i,i<m→WA l (nth I j) (nth I i)=false)→WA l (nth I j) (nth I m)=true→R=.tup [.agg (YS 0 8 (nth l (nth I m)).key [nth I m,nth I j] (Zr l (nth I m) (nth I j))),.bool true]:=fun j m h1 h2 h3 h8 h4 h5 h6=>by
  have h7:Zp l (nth I j)=some (nth I m,nth I j):=by
   unfold Zp;rw [if_neg (by simp [h3,h8]),← hI,xi h5 h4 h6];rfl
  rw [← hR];unfold ziT Ua;rw [← hI,xr h2 h1 h7]
 have hno:(∀ i,i<I.length→Zp l (nth I i)=none)→R=.tup [.agg (YS 0 0 0 [] []),.bool false]:=fun h=>by
  rw [← hR];unfold ziT Ua;rw [← hI,Za h]
 have hat0:∀ i,(nth l i).k≠0∨(nth l i).res≠0→Zp l i=none:=fun i h=>by unfold Zp;rw [if_pos h]
 have hat1:∀ i,(∀ m,m<I.length→WA l i (nth I m)=false)→Zp l i=none:=fun i h2=>by
  unfold Zp;split
  ·rfl
  ·rw [← hI,xO h2];rfl
 rw [hR];clear hR;unfold zfL;rw [← hI] at hpt ⊢;obtain ⟨r2,hr2⟩:∃ r2,r2=FV.smap (yG l l.length):=⟨_,rfl⟩
 obtain ⟨C,hC⟩:∃ C,C=List.map (fun q=>[xk (KC l q)]) (List.range l.length):=⟨_,rfl⟩
 unfold zjv;rw [← hr2,← hC] at hpt ⊢;clear hr2 hC;refine zX.of_body (c:=(xx Try.prog zE zt 91)) ⟨Try.func35,rfl,Try.ntmps35,by kernel_rfl⟩ zH zw hRh ?_;change FW _ _ _ ⟨[(0,.eptr 4 [[.list 8 (l.map OpV.fv),.list 1 (I.map yp),r2,.list 1 C]] 0 0)],[]⟩;refine zb ?_;refine FW.loop (fun j:Nat=>⟨[(0,.eptr 4 [[.list 8 (l.map OpV.fv),.list 1 (I.map yp),r2,.list 1 C]] 0 0),(2,.ptr 102 0 0 0),(14,.list 1 (I.map yp)),(15,.int .i64 I.length),(16,.int .i64 j)],[(102,⟨0,.own,36,5,[[.int .i64 0,.int .i64 0,.int .i64 0,.nil,.nil]]⟩)]⟩) (fun j=>j≤I.length∧∀ i,i<j→Zp l (nth I i)=none) (fun j=>I.length - j) 0 ⟨Nat.zero_le _,fun i hi=>absurd hi (Nat.not_lt_zero _)⟩ ?_ ?_
 ·exact (FLe.cv [⟨102,some 2,0+1,⟨0,.own,36,5,[[.int .i64 0,.int .i64 0,.int .i64 0,.nil,.nil]]⟩⟩] zf zd)
 rintro j ⟨hj,hpre⟩;refine zb ?_;refine FW.cond rfl (fun h=>?_) (fun h=>?_)
 ·have hjl:j<I.length:=by simpa using h
  clear h;have hyes:=fun m=>hyes j m hjl hpre;have hnext:Zp l (nth I j)=none→∀ i,i<j+1→Zp l (nth I i)=none:=fun h i hi=>by
   rcases Nat.lt_succ_iff_lt_or_eq.1 hi with h'|rfl
   ·exact hpre i h'
   ·exact h
  have hii:=hIm j hjl;obtain ⟨i,hi⟩:∃ i,nth I j=i:=⟨_,rfl⟩
  rw [hi] at hii hyes hnext;have hat0:=hat0 i;have hat1:=hat1 i;obtain ⟨oi,hoi⟩:∃ oi,nth l i=oi:=⟨_,rfl⟩
  rw [hoi] at hyes hat0;refine zb ?_;rw [hi];skip;rw [hoi];skip;refine zP (fun h1=>?_) (fun h1=>?_)
  ·refine zb ?_;refine ⟨j+1,⟨by omega,hnext (hat0 (.inl (by simpa using h1)))⟩,by omega,?_⟩;exact (FLe.cv [⟨102,some 102,0,⟨0,.own,36,5,[[.int .i64 0,.int .i64 0,.int .i64 0,.nil,.nil]]⟩⟩] zf zd)
  have hik:oi.k=0:=by simpa using h1
  refine zb ?_;refine FW.cond rfl (fun h2=>?_) (fun h2=>?_)
  ·refine zb ?_;refine ⟨j+1,⟨by omega,hnext (hat0 (.inr (by simpa using h2)))⟩,by omega,?_⟩;exact (FLe.cv [⟨102,some 102,0,⟨0,.own,36,5,[[.int .i64 0,.int .i64 0,.int .i64 0,.nil,.nil]]⟩⟩] zf zd)
  have hir:oi.res=0:=by simpa using h2
  have hyes:=fun m=>hyes m hik hir;refine zb ?_;refine FW.loop (fun m:Nat=>⟨[(0,.eptr 4 [[.list 8 (l.map OpV.fv),.list 1 (I.map yp),r2,.list 1 C]] 0 0),(2,.ptr 102 0 0 0),(14,.list 1 (I.map yp)),(15,.int .i64 I.length),(16,.int .i64 j),(5,.int .i64 i),(38,.list 1 (I.map yp)),(39,.int .i64 I.length),(40,.int .i64 m)],[(102,⟨0,.own,36,5,[[.int .i64 0,.int .i64 0,.int .i64 0,.nil,.nil]]⟩)]⟩) (fun m=>m≤I.length∧∀ q,q<m→WA l i (nth I q)=false) (fun m=>I.length - m) 0 ⟨Nat.zero_le _,fun i hi=>absurd hi (Nat.not_lt_zero _)⟩ ?_ ?_
  ·exact (FLe.cv [⟨102,some 102,0,⟨0,.own,36,5,[[.int .i64 0,.int .i64 0,.int .i64 0,.nil,.nil]]⟩⟩] zf zd)
  rintro m ⟨hm,hpre2⟩;refine zb ?_;refine FW.cond rfl (fun h=>?_) (fun h=>?_)
  ·have hml:m<I.length:=by simpa using h
   clear h;have hyes:=hyes m hml hpre2;have hnext2:WA l i (nth I m)=false→∀ q,q<m+1→WA l i (nth I q)=false:=fun h q hq=>by
    rcases Nat.lt_succ_iff_lt_or_eq.1 hq with h'|rfl
    ·exact hpre2 q h'
    ·exact h
   have hw2n:=hIm m hml;obtain ⟨w2,hw2⟩:∃ w2,nth I m=w2:=⟨_,rfl⟩
   rw [hw2] at hw2n hyes hnext2;have hob:WA l i w2=(decide ((nth l w2).k=1) && decide ((nth l w2).key=(nth l i).key) && !(Zr l w2 i).isEmpty):=rfl;obtain ⟨o,ho⟩:∃ o,nth l w2=o:=⟨_,rfl⟩
   rw [ho,hoi] at hob;rw [ho] at hyes;refine zb ?_;rw [hw2];skip;rw [ho];refine zQ ?_;refine yz (fun h1=>?_) (fun h1=>?_)
   ·refine zp ?_;refine ⟨by kernel_rfl,?_⟩;refine zb ?_;refine ⟨m+1,⟨by omega,hnext2 ?_⟩,by omega,(FLe.cv [⟨102,some 102,0,⟨0,.own,36,5,[[.int .i64 0,.int .i64 0,.int .i64 0,.nil,.nil]]⟩⟩] zf zd)⟩;rw [hob,decide_eq_false (by simpa using h1)];simp
   have hk1:o.k=1:=by simpa using h1
   refine zp ?_;rw [hoi];skip;refine ⟨by kernel_rfl,?_⟩;refine FW.cond rfl (fun h3=>?_) (fun h3=>?_)
   ·refine zb ?_;refine ⟨m+1,⟨by omega,hnext2 ?_⟩,by omega,(FLe.cv [⟨102,some 102,0,⟨0,.own,36,5,[[.int .i64 0,.int .i64 0,.int .i64 0,.nil,.nil]]⟩⟩] zf zd)⟩;rw [hob,decide_eq_false (show ¬ o.key=oi.key by simpa using h3)];simp
   have hke:o.key=oi.key:=by simpa using h3
   have hwi:w2≠i:=fun e=>by rw [e,hoi] at ho;rw [← ho] at hk1;omega
   rw [decide_eq_true hk1,decide_eq_true hke] at hob;have hP2:=zX.sh_of_ow (hpt w2 i hw2n hii hwi);have hl2:=ZI (l:=l) (x:=w2) (y:=i);rw [show znr (KC l) l.length w2 i=Zr l w2 i from rfl] at hP2;generalize Zr l w2 i=X2 at hP2 hl2 hob hyes;refine zb ?_;refine yl hP2 (by repeat (first|exact zu.nil|refine zu.cons zm ?_)) rfl rfl ?_;refine zb ?_;refine FW.cond rfl (fun h4=>?_) (fun h4=>?_)
   ·have hX1:X2≠[]:=fun e=>by rw [e] at h4;simp at h4
    rw [hyes (by rw [hob];cases X2 with|nil=>exact absurd rfl hX1|cons e X=>rfl)];refine ZQ ?_;rw [ho];skip;refine yK (es:=[yp w2,yp i]) rfl rfl rfl (by refine yT.int rfl rfl ?_;refine yT.int rfl rfl ?_;exact yT.nil) rfl rfl rfl rfl rfl ?_;refine zb ?_;refine FW.ret ⟨.inl rfl,.sh (.cons (zL rfl rfl rfl rfl rfl rfl zg) (.cons (.tmp 3 rfl rfl) .nil)) ?_ rfl⟩;have hX12:X2.map EdC.fv≠[]:=fun e=>hX1 (List.map_eq_nil_iff.1 e);unfold YS;rw [zdQ hX12];rfl
   ·have hX1:X2=[]:=by cases X2 with|nil=>rfl|cons e X=>simp at h4
    refine zb ?_;refine ⟨m+1,⟨by omega,hnext2 ?_⟩,by omega,(FLe.cv [⟨102,some 102,0,⟨0,.own,36,5,[[.int .i64 0,.int .i64 0,.int .i64 0,.nil,.nil]]⟩⟩] zf zd)⟩;rw [hob,hX1];rfl
  ·have hme:m=I.length:=by simp at h;omega
   subst hme;refine zb ?_;refine ⟨j+1,⟨by omega,hnext (hat1 hpre2)⟩,by omega,?_⟩;exact (FLe.cv [⟨102,some 102,0,⟨0,.own,36,5,[[.int .i64 0,.int .i64 0,.int .i64 0,.nil,.nil]]⟩⟩] zf zd)
 ·have hje:j=I.length:=by simp at h;omega
  subst hje;rw [hno hpre];refine zb ?_;exact FW.ret ⟨.inl rfl,.sh (.cons (zL rfl rfl rfl rfl rfl rfl zg) (.cons (.tmp 3 rfl rfl) .nil)) rfl rfl⟩
section
variable {c:Ctx} {ops:Array Oper} {rest:List Oper} {t:List (Nat×FV)} {ob:List (Nat×zq)} {d:Nat} {ty:TypeId} {pos:String} {af:Array Edge} {gd:Option (Nat×Bool)} {Q:FSt→Prop}
end
def zkS (P:Program) (T:Nat):Bool:=
 match P.underlying T with
 | some (.map _ _) => true
 | _ => false
section
variable {c:Ctx} {ops:Array Oper} {rest:List Oper} {t:List (Nat×FV)} {ob:List (Nat×zq)} {d:Nat} {ty:TypeId} {pos:String} {af:Array Edge} {gd:Option (Nat×Bool)} {Q:FSt→Prop}
theorem zmF {w0 w:World} {J:JJ} {s:FSt} {a:Act} {β:Nat→Option Nat} (hF:FR c.N w0 J s a w β) {f:Nat} {xs:Array Operand} {caps:List FV} (hx:xs.toList.map s.ev=caps) (hc:∀ g∈caps,g.hand=none) {dst:Option Nat} {ty:TypeId} {pos:String} {after:Array Edge} {g:Option (Nat×Bool)} :
  yV c w0 J s a ⟨dst,.makeFunc (.func f) xs #[],ty,pos,after,g⟩ w (.bnd f caps) []:=by
 have hl:RdL w (Imm J w β s) (xs.toList.map a.eval) caps:=by
  subst hx;refine ⟨by simp,fun j u q hu hq=>?_⟩;rw [List.getElem?_map] at hu hq;cases hx2:xs.toList[j]? with
  | none => rw [hx2] at hu; cases hu
  | some y =>
   rw [hx2] at hu hq;simp only [Option.map_some,Option.some.injEq] at hu hq;subst hu;subst hq;exact VR.rd (hF.ev y) (hc _ (List.mem_map.2 ⟨y,List.mem_of_getElem? hx2,rfl⟩))
 have hv:(xs.toList.map a.eval).toArray=xs.map a.eval:=by apply Array.ext';simp
 exact .rd hF (v:=.func (.func f) (xs.map a.eval) #[]) (by simp [execOp,Instr.makeFunc]) (by rw [← hv];exact .bnd f _ _ hl.1 hl.2) rfl
theorem zh6 {f:Nat} {x:Operand} {g:FV} (hx:(⟨t,ob⟩:FSt).ev x=g) (hg:g.hand=none) (hd:Nat.blt d c.N=true) (hw:zT ops ⟨t,ob⟩ (⟨some d,.makeFunc (.func f) #[x] #[],ty,pos,af,gd⟩:Oper) true)
  (k:zn c ops rest ⟨(d,.bnd f [g])::t,ob⟩ Q):zn c ops ((⟨some d,.makeFunc (.func f) #[x] #[],ty,pos,af,gd⟩:Oper)::rest) ⟨t,ob⟩ Q:=
 zd7 (wr:=[]) hd hw (fun w0 J a w β hF=>zmF hF (by simp [hx]) (by simp [hg])) k
theorem zal {f:Nat} {x:Operand} {caps:List FV} {res:FV} {ts:Array TypeId} (hx:(⟨t,ob⟩:FSt).ev x=.bnd f caps) (hs:zX c.P f caps .sh res) (hd:Nat.blt d c.N=true) (hw:zT ops ⟨t,ob⟩ (⟨some d,.call { callee:=.value x,args:=#[],argTypes:=ts },ty,pos,af,gd⟩:Oper) true)
  (k:zn c ops rest ⟨(d,res)::t,ob⟩ Q):zn c ops ((⟨some d,.call { callee:=.value x,args:=#[],argTypes:=ts },ty,pos,af,gd⟩:Oper)::rest) ⟨t,ob⟩ Q:=fun QQ w0 J a w β hQ hF=>by
 unfold wpList;rw [if_pos (hw.model hF)];refine .inl ?_;have hv:=VR.rd (by have:=hF.ev x;rwa [hx] at this) rfl;generalize hxe:a.eval x=v at hv;cases hv with
 | bnd f us fs hul hur=>
  have hc:=hs.calls w (Imm J w β ⟨t,ob⟩) us (fun b hb=>hb.1) ⟨hul,hur⟩;unfold Oper.wp;have hrun:(execOp a.eval ⟨some d,.call { callee:=.value x,args:=#[],argTypes:=ts },ty,pos,af,gd⟩).run c.P w=.ok (.enter f us.toArray) w:=by
   have:=yn (P:=c.P) hs.go us.toArray w;simp [execOp,resolve,hxe,Deferred.ofValue,invoke,this]
  rw [hrun,Oper.upon_enter];refine hc.mono ?_;rintro e w' ⟨v,rfl,hb,hr⟩;have hG:=hF.grow hb;have hrd:Rd w' (Imm J w' β ⟨t,ob⟩) v res:=by
   refine Rd.mono (fun b hb'=>?_) hr;rcases hb' with h1|h1
   ·exact ⟨(Imm.grow h1 hb).1,rfl⟩
   ·refine ⟨⟨h1.2,hF.fresh b (Nat.le_trans hF.bel.size h1.1) (.inl h1.1),fun id hl e=>?_⟩,rfl⟩;have:=((hF.obj id (yf.mine_ne hl)).lt e).2;omega
  exact k QQ w0 J _ _ β hQ (hG.put (Nat.le_of_ble_eq_true hd) (VR.of_rd hrd hs.hand) (fun id ver e=>(FV.no_hands hs.hand e).elim))
def FV.nilMap:FV→Option Bool
 | .nilm => some true
 | .smap _ => some false
 | _ => none
theorem zgB {w0 w:World} {J:JJ} {s:FSt} {a:Act} {β:Nat→Option Nat} {dst:Option Nat} {after:Array Edge} {g:Option (Nat×Bool)} (h:FR c.N w0 J s a w β) {T T2:Nat} (hp:zkS c.P T=true) (x:Operand) {f:FV} {b:Bool} (ex:s.ev x=f) (hb:f.nilMap=some b) :
  yV c w0 J s a ⟨dst,.binOp .eql T x (.const (.map none)) T2,ty,pos,after,g⟩ w (.bool b) []:=by
 have hfh:f.hand=none:=by cases f <;> first|rfl|(cases hb;done)
 have hr:=h.ev_rd ex hfh;generalize hx:a.eval x=v at hr;have hv:∃ q:Option Nat,v=.map q∧b=q.isNone:=by
  cases hr <;> first|(cases hb;done)|(injection hb with hb;exact ⟨_,rfl,hb.symm⟩)
 obtain ⟨q,rfl,rfl⟩:=hv;unfold zkS at hp;cases hu:c.P.underlying T with
 | none => rw [hu] at hp; cases hp
 | some dd=>
  rw [hu] at hp;cases dd <;> first|(cases hp;done)|skip
  have e2:a.eval (.const (.map none))=.map none:=rfl;refine .rd h (v:=.bool q.isNone) ?_ (.bool _) rfl;have heq:(Op.equalIn Op.maxDepth T (.map q) (.map none)).run c.P w=.ok q.isNone w:=by
   show (Op.equalIn (9999+1) T (.map q) (.map none)).run c.P w=_;unfold Op.equalIn;cases q <;> simp [run_underlying hu]
  simp [execOp,hx,e2,eqGuard,binOp,Op.equal,heq]
theorem zlE {T T2:Nat} {x:Operand} {f:FV} {b:Bool} (hx:(⟨t,ob⟩:FSt).ev x=f) (hb:f.nilMap=some b) (hp:zkS c.P T=true) (hd:Nat.blt d c.N=true) (hw:zT ops ⟨t,ob⟩ (⟨some d,.binOp .eql T x (.const (.map none)) T2,ty,pos,af,gd⟩:Oper) true)
  (k:zn c ops rest ⟨(d,.bool b)::t,ob⟩ Q):zn c ops ((⟨some d,.binOp .eql T x (.const (.map none)) T2,ty,pos,af,gd⟩:Oper)::rest) ⟨t,ob⟩ Q:=
 zd7 (wr:=[]) hd hw (fun w0 J a w β hF=>zgB hF hp x hx hb) k
end
end
end Go.Proofs.Ytmnmakhpjgjdaaa
