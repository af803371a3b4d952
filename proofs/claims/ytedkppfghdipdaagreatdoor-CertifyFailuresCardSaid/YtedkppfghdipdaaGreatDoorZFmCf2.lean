/-
  Lemmas, in parts.
-/
import Derived.Test.YtedkppfghdipdaaGreatDoorZF
namespace Go.Proofs.YtedkppfghdipdaaGreatDoor
set_option linter.unusedVariables false
set_option maxHeartbeats 16000000
open Go.RowKit
def xF (ae:List Int) (cl ar:Int):br:={ k:=1,fl:=ae.map dp,cl:=cl,ar:=ar }
theorem eb.bT (O:List Int):eb (bT O) O.length:=by
 unfold Go.Proofs.YtedkppfghdipdaaGreatDoor.bT;by_cases h:O=[]
 ·subst h;exact .inl ⟨rfl,rfl⟩
 ·rw [if_neg h];exact .inr ⟨_,rfl,by rw [zx]⟩
def dP (cl:Int) (n:Nat):Bool:=(decide (cl=0) && decide (n=0)) || (decide (cl=1) && decide (n=1))
theorem sL (ae:List Int) (cl ar:Int) (od:FV) (n:Nat) (cn:eb od n) (bO:cl=0∨cl=1∨cl=2):zQ Tryz.prog 68 [(xF ae cl ar).x od] .fr (.bool (dP cl n)):=by
 have hA:=(xF ae cl ar).one cn.ok;simp only [br.x,xF] at hA ⊢;generalize ae.map dp=fl at hA ⊢;rcases bO with rfl|rfl|rfl
 ·rcases cn with ⟨rfl,rfl⟩|⟨es,rfl,rfl⟩
  ·refine zj 236 Tryz.func68 Tryz.ntmps68 rfl ?_;change FW _ _ _ ⟨[(0,_)],[]⟩;refine yG ?_;refine zu.bn (yh rfl rfl hA rfl rfl) rfl rfl ?_;refine za ?_;exact FW.ret ⟨.inl rfl,zg rfl rfl rfl rfl⟩
  ·refine zj 236 Tryz.func68 Tryz.ntmps68 rfl ?_;change FW _ _ _ ⟨[(0,_)],[]⟩;refine yG ?_;refine zu.bn (yh rfl rfl hA rfl rfl) rfl rfl ?_;refine za ?_;exact FW.ret ⟨.inl rfl,zg rfl rfl (congrArg FV.bool (by simp [dP])) rfl⟩
 ·rcases cn with ⟨rfl,rfl⟩|⟨es,rfl,rfl⟩
  ·refine zj 236 Tryz.func68 Tryz.ntmps68 rfl ?_;change FW _ _ _ ⟨[(0,_)],[]⟩;refine yG ?_;refine zu.bn (yh rfl rfl hA rfl rfl) rfl rfl ?_;refine za ?_;exact FW.ret ⟨.inl rfl,zg rfl rfl rfl rfl⟩
  ·refine zj 236 Tryz.func68 Tryz.ntmps68 rfl ?_;change FW _ _ _ ⟨[(0,_)],[]⟩;refine yG ?_;refine zu.bn (yh rfl rfl hA rfl rfl) rfl rfl ?_;refine za ?_;refine yd (fun h=>?_) (fun h=>?_)
   ·have hs:true=dP 1 es.length:=by
     have h:=of_decide_eq_true h;have h:es.length=1:=by omega
     simp [dP,h]
    rw [h,← hs];refine za ?_;exact FW.ret ⟨.inl rfl,zg rfl rfl rfl rfl⟩
   ·have hs:false=dP 1 es.length:=by
     have h:=of_decide_eq_false h;have h:es.length≠1:=by omega
     simp [dP,h]
    rw [h,← hs];refine za ?_;exact FW.ret ⟨.inl rfl,zg rfl rfl rfl rfl⟩
 ·rcases cn with ⟨rfl,rfl⟩|⟨es,rfl,rfl⟩
  all_goals (
   refine zj 236 Tryz.func68 Tryz.ntmps68 rfl ?_;change FW _ _ _ ⟨[(0,_)],[]⟩;refine yG ?_;refine zu.bn (yh rfl rfl hA rfl rfl) rfl rfl ?_;refine za ?_;exact FW.ret ⟨.inl rfl,zg rfl rfl rfl rfl⟩)
def fu (m:Nat) (O:List Int):Bool:=O.all fun a=>decide (0≤a) && decide (a<m)
theorem sK (ae:List Int) (cl ar:Int) (O:List Int) (hlen:ae.length≤1000000) (hO:O.length≤1000000):zQ Tryz.prog 69 [(xF ae cl ar).x (bT O)] .fr (.bool (fu ae.length O)):=by
 have hA:=(xF ae cl ar).one (eb.bT O).ok;simp only [br.x,xF] at hA ⊢;obtain ⟨m,hm⟩:∃ m,ae.length=m:=⟨_,rfl⟩
 obtain ⟨fl,bJ⟩:∃ fl,ae.map dp=fl:=⟨_,rfl⟩
 have ji:fl.length=m:=by rw [← bJ,zx];exact hm
 rw [hm] at hlen ⊢;rw [bJ] at hA ⊢;clear bJ hm;by_cases oP:O=[]
 ·subst oP;change [_,_,_,_,_,_,_,_,_,_,_,_,_,FV.nil,_].all FV.one=true at hA;show zQ _ _ [.agg [_,_,_,_,_,_,_,_,_,_,_,_,_,FV.nil,_]] _ _;refine zj 91 Tryz.func69 Tryz.ntmps69 rfl ?_;change FW _ _ _ ⟨[(0,_)],[]⟩;refine yG ?_;refine zu.bn (yh rfl rfl hA rfl rfl) rfl rfl ?_;refine za ?_;refine FW.loop (fun _:Unit=>⟨[(1,.ptr 101 0 0 0),(3,.int .i64 0),(4,.int .i64 fl.length),(5,.int .i64 0)],[(101,⟨0,.own,75,15,[[.int .i64 1,.int .i64 0,.int .i64 0,.int .i64 0,.int .i64 0,.int .i64 0,.list 5 [],.list 8 [],.list 1 [],.list 4 fl,.int .i64 1,.int .i64 cl,.int .i64 ar,.nil,.list 3 []]]⟩)]⟩) (fun _=>True) (fun _=>0) () trivial ?_ ?_
  ·exact (aC.cv [⟨101,some 1,1,⟨0,.own,75,15,[[.int .i64 1,.int .i64 0,.int .i64 0,.int .i64 0,.int .i64 0,.int .i64 0,.list 5 [],.list 8 [],.list 1 [],.list 4 fl,.int .i64 1,.int .i64 cl,.int .i64 ar,.nil,.list 3 []]]⟩⟩] zn zt)
  intro _ _;refine za ?_;refine FW.loop (fun _:Unit=>⟨[(1,.ptr 101 0 0 0),(3,.int .i64 0),(4,.int .i64 fl.length),(7,.int .i64 0)],[(101,⟨0,.own,75,15,[[.int .i64 1,.int .i64 0,.int .i64 0,.int .i64 0,.int .i64 0,.int .i64 0,.list 5 [],.list 8 [],.list 1 [],.list 4 fl,.int .i64 1,.int .i64 cl,.int .i64 ar,.nil,.list 3 []]]⟩)]⟩) (fun _=>True) (fun _=>0) () trivial ?_ ?_
  ·exact (aC.cv [⟨101,some 101,0,⟨0,.own,75,15,[[.int .i64 1,.int .i64 0,.int .i64 0,.int .i64 0,.int .i64 0,.int .i64 0,.list 5 [],.list 8 [],.list 1 [],.list 4 fl,.int .i64 1,.int .i64 cl,.int .i64 ar,.nil,.list 3 []]]⟩⟩] zn zt)
  intro _ _;refine za ?_;exact FW.ret ⟨.inl rfl,zg rfl rfl rfl rfl⟩
 ·have cn:bT O=.list 1 (O.map yw):=by unfold bT;rw [if_neg oP]
  rw [cn] at hA ⊢;refine zj 91 Tryz.func69 Tryz.ntmps69 rfl ?_;change FW _ _ _ ⟨[(0,_)],[]⟩;refine yG ?_;refine zu.bn (yh rfl rfl hA rfl rfl) rfl rfl ?_;refine za ?_;refine FW.loop (fun i:Nat=>⟨[(1,.ptr 101 0 0 0),(3,.int .i64 0),(4,.int .i64 fl.length),(5,.int .i64 i)],[(101,⟨0,.own,75,15,[[.int .i64 1,.int .i64 0,.int .i64 0,.int .i64 0,.int .i64 0,.int .i64 0,.list 5 [],.list 8 [],.list 1 [],.list 4 fl,.int .i64 1,.int .i64 cl,.int .i64 ar,.list 1 (O.map yw),.list 3 []]]⟩)]⟩) (fun i=>i≤O.length∧∀ j,j<i→0≤nth O j∧nth O j<m) (fun i=>O.length - i) 0 ⟨zN _,fun j h=>absurd h (Nat.not_lt_zero j)⟩ ?_ ?_
  ·exact (aC.cv [⟨101,some 1,1,⟨0,.own,75,15,[[.int .i64 1,.int .i64 0,.int .i64 0,.int .i64 0,.int .i64 0,.int .i64 0,.list 5 [],.list 8 [],.list 1 [],.list 4 fl,.int .i64 1,.int .i64 cl,.int .i64 ar,.list 1 (O.map yw),.list 3 []]]⟩⟩] zn zt)
  rintro i ⟨hi,bA⟩;refine za ?_;refine FW.cond rfl (fun h=>?_) (fun h=>?_)
  ·have aM:i<O.length:=by have:=of_decide_eq_true h;omega
   clear h;refine za ?_;have cU:¬ (0≤nth O i∧nth O i<m)→false=fu m O:=fun hn=>by
    refine (List.all_eq_false.2 ⟨nth O i,Ym aM,?_⟩).symm;simpa using fun h=>Int.not_lt.1 fun h2=>hn ⟨h,h2⟩
   refine yd (fun h=>?_) (fun h=>?_)
   ·rw [h,← cU (fun hn=>by have:=of_decide_eq_true h;omega)];refine za ?_;exact FW.ret ⟨.inl rfl,zg rfl rfl rfl rfl⟩
   ·refine za ?_;refine FW.cond rfl (fun h2=>?_) (fun h2=>?_)
    ·rw [← cU (fun hn=>by have:=of_decide_eq_true h2;omega)];refine za ?_;exact FW.ret ⟨.inl rfl,zg rfl rfl rfl rfl⟩
    ·refine za ?_;have h:=of_decide_eq_false h;have h2:=of_decide_eq_false h2;refine ⟨i+1,⟨by omega,fun j hj=>?_⟩,by omega,?_⟩
     ·by_cases qQ:j=i
      ·subst qQ;omega
      ·exact bA j zc
     ·exact (aC.cv [⟨101,some 101,0,⟨0,.own,75,15,[[.int .i64 1,.int .i64 0,.int .i64 0,.int .i64 0,.int .i64 0,.int .i64 0,.list 5 [],.list 8 [],.list 1 [],.list 4 fl,.int .i64 1,.int .i64 cl,.int .i64 ar,.list 1 (O.map yw),.list 3 []]]⟩⟩] zn zt)
  ·have he:i=O.length:=by have:=of_decide_eq_false h;omega
   have hr:fu m O=true:=by
    unfold fu;refine zG.2 fun a ha=>?_;obtain ⟨j,hj,rfl⟩:=Vo.1 ha;have:=bA j zc;rw [Zc hj] at this;simp only [zC,decide_eq_true_eq];exact this
   rw [hr];refine za ?_;refine FW.loop (fun _:Unit=>⟨[(1,.ptr 101 0 0 0),(3,.int .i64 0),(4,.int .i64 fl.length),(7,.int .i64 0)],[(101,⟨0,.own,75,15,[[.int .i64 1,.int .i64 0,.int .i64 0,.int .i64 0,.int .i64 0,.int .i64 0,.list 5 [],.list 8 [],.list 1 [],.list 4 fl,.int .i64 1,.int .i64 cl,.int .i64 ar,.list 1 (O.map yw),.list 3 []]]⟩)]⟩) (fun _=>True) (fun _=>0) () trivial ?_ ?_
   ·exact (aC.cv [⟨101,some 101,0,⟨0,.own,75,15,[[.int .i64 1,.int .i64 0,.int .i64 0,.int .i64 0,.int .i64 0,.int .i64 0,.list 5 [],.list 8 [],.list 1 [],.list 4 fl,.int .i64 1,.int .i64 cl,.int .i64 ar,.list 1 (O.map yw),.list 3 []]]⟩⟩] zn zt)
   intro _ _;refine za ?_;exact FW.ret ⟨.inl rfl,zg rfl rfl rfl rfl⟩
def fZ (ae O:List Int) (cl ar:Int):Bool:=if cl=1 then decide (nth O 0=0) && decide (nth ae 0=ar) else decide (ar=0) && decide (ae.length=0)
theorem VJ (ae:List Int) (ar:Int) (od:FV) (n:Nat) (cn:eb od n):zQ Tryz.prog 70 [(xF ae 0 ar).x od] .fr (.bool (fZ ae [] 0 ar)):=by
 have hA:=(xF ae 0 ar).one cn.ok;simp only [br.x,xF] at hA ⊢;obtain ⟨fl,bJ⟩:∃ fl,ae.map dp=fl:=⟨_,rfl⟩
 have hp:fZ ae [] 0 ar=(decide (ar=0) && decide ((fl.length:Int)=0)):=by
  unfold fZ;rw [if_neg zb,← bJ,zx];congr 1;exact decide_eq_decide.2 zc
 rw [hp];rw [bJ] at hA ⊢;clear bJ hp;rcases cn with ⟨rfl,rfl⟩|⟨es,rfl,rfl⟩
 all_goals (
  refine zj 523 Tryz.func70 Tryz.ntmps70 rfl ?_;change FW _ _ _ ⟨[(0,_)],[]⟩;refine yG ?_;refine zu.bn (yh rfl rfl hA rfl rfl) rfl rfl ?_;refine za ?_;refine zw (es:=[[.int .i64 1],[.int .i64 2]]) rfl rfl rfl (by refine zY.int rfl rfl ?_;refine zY.int rfl rfl ?_;exact zY.nil) rfl rfl rfl rfl rfl ?_;refine za ?_;refine FW.cond rfl (fun h=>?_) (fun h=>?_)
  (·
    have h:decide (ar≠0)=true:=h;have h:=of_decide_eq_true h;rw [decide_eq_false h,Bool.false_and];refine za ?_;exact FW.ret ⟨.inl rfl,zg rfl rfl rfl rfl⟩)
  have h:decide (ar≠0)=false:=h;have h:ar=0:=Decidable.byContradiction fun hn=>absurd hn (of_decide_eq_false h);rw [decide_eq_true h,Bool.true_and];refine za ?_;exact FW.ret ⟨.inl rfl,zg rfl rfl rfl rfl⟩)
theorem VK (c a:Int) (r:List Int) (ar:Int):zQ Tryz.prog 70 [(xF (c::r) 1 ar).x (.list 1 [[.int .i64 a]])] .fr (.bool (decide (a=0) && decide (c=ar))):=by
 have hA:=(xF (c::r) 1 ar).one (od:=.list 1 [[.int .i64 a]]) rfl;simp only [br.x,xF] at hA ⊢;refine zj 523 Tryz.func70 Tryz.ntmps70 rfl ?_;change FW _ _ _ ⟨[(0,_)],[]⟩;refine yG ?_;refine zu.bn (yh rfl rfl hA rfl rfl) rfl rfl ?_;refine za ?_;refine zw (es:=[[.int .i64 1],[.int .i64 2]]) rfl rfl rfl (by refine zY.int rfl rfl ?_;refine zY.int rfl rfl ?_;exact zY.nil) rfl rfl rfl rfl rfl ?_;refine yp ?_;refine nW (fun h=>?_) (fun h=>?_)
 ·rw [h];refine zp ?_;refine ⟨by kernel_rfl,?_⟩;skip;exact FW.ret ⟨.inl rfl,zg rfl rfl (congrArg FV.bool (by simp at h;simp [h])) rfl⟩
 ·rw [h];refine zp ?_;refine ⟨by kernel_rfl,?_⟩;skip;exact FW.ret ⟨.inl rfl,zg rfl rfl (congrArg FV.bool (by simp at h;simp [h])) rfl⟩
theorem nS {ae O:List Int} (h:dP 1 O.length=true) (hr:fu ae.length O=true):∃ a c r,O=[a]∧ae=c::r:=by
 have hl:O.length=1:=by simpa [dP] using h
 obtain ⟨a,rfl⟩:=Xs.1 hl;cases ae with
 | nil => simp [fu] at hr; omega
 | cons c r => exact ⟨a, c, r, rfl, rfl⟩
theorem UD (ae O:List Int) (cl ar:Int) (bO:cl=0∨cl=1∨cl=2) (h:dP cl O.length=true) (hr:fu ae.length O=true):zQ Tryz.prog 70 [(xF ae cl ar).x (bT O)] .fr (.bool (fZ ae O cl ar)):=by
 rcases bO with rfl|rfl|rfl
 ·exact VJ ae ar _ _ (eb.bT O)
 ·obtain ⟨a,c,r,rfl,rfl⟩:=nS h hr;exact VK c a r ar
 ·simp [dP] at h
theorem sG:zQ Tryz.prog 34 [.int .i64 1] .sh .nil:=tG 1 zb zb
def gu (ae O:List Int) (cl ar:Int):Int:=if dP cl O.length then (if fu ae.length O then (if fZ ae O cl ar then 0 else 31) else 30) else 30
theorem VI (ae O:List Int) (cl ar:Int) (bO:cl=0∨cl=1∨cl=2) (hlen:ae.length≤1000000) (hO:O.length≤1000000):zQ Tryz.prog 23 [(xF ae cl ar).x (bT O)] .fr (.int .i64 (gu ae O cl ar)):=by
 have hk:=sG;have hs:=sL ae cl ar _ _ (eb.bT O) bO;have hr:=sK ae cl ar O hlen hO;have hp:=UD ae O cl ar bO;unfold gu;generalize dP cl O.length=b1 at hs hp ⊢;generalize fu ae.length O=b2 at hr hp ⊢;generalize fZ ae O cl ar=b3 at hp ⊢;have hA:=(xF ae cl ar).one (eb.bT O).ok;simp only [br.x,xF] at hA hs hr hp ⊢;generalize ae.map dp=fl at hA hs hr hp ⊢;generalize bT O=od at hA hs hr hp ⊢;refine zj 47 Tryz.func23 Tryz.ntmps23 rfl ?_;change FW _ _ _ ⟨[(0,_)],[]⟩;refine yG ?_;refine zu.bn (yh rfl rfl hA rfl rfl) rfl rfl ?_;refine za ?_;refine ZT hk (by repeat (first|exact zh.nil|refine zh.cons zi ?_)) rfl rfl ?_;refine za ?_;refine zy hs (by repeat (first|exact zh.nil|refine zh.cons zi ?_)) rfl rfl ?_;cases b1
 ·refine za ?_;exact FW.ret ⟨.inl rfl,zg rfl rfl rfl rfl⟩
 refine za ?_;refine zy hr (by repeat (first|exact zh.nil|refine zh.cons zi ?_)) rfl rfl ?_;cases b2
 ·refine za ?_;exact FW.ret ⟨.inl rfl,zg rfl rfl rfl rfl⟩
 refine za ?_;refine zy (hp rfl rfl) (by repeat (first|exact zh.nil|refine zh.cons zi ?_)) rfl rfl ?_;cases b3
 ·refine za ?_;exact FW.ret ⟨.inl rfl,zg rfl rfl rfl rfl⟩
 refine za ?_;exact FW.ret ⟨.inl rfl,zg rfl rfl rfl rfl⟩
theorem xr (ae O:List Int) (cl ar:Int) (bO:cl=0∨cl=1∨cl=2) (hlen:ae.length≤1000000) (hO:O.length≤100000):zQ Tryz.prog 8 [(xF ae cl ar).c,(xF ae cl ar).e,(xF ae cl ar).v (bT O)] .fr (.int .i64 (gu ae O cl ar)):=by
 have ck:=ZA (xF ae cl ar) O [] rfl hO zb (by show (ae.map dp).length≤_;rw [zx];exact hlen) (zN _) (zN _);have hi:(!((O++cN []).any (gx (xF ae cl ar))))=fu ae.length O:=by
  rw [show cN []=[] from rfl,Zh,List.not_any_eq_all_not];unfold fu;congr 1;funext a;have h1:lI (xF ae cl ar)=0:=rfl;have h2:lg (xF ae cl ar)=(ae.length:Int) - 1:=by
   show ((ae.map dp).length:Int) - 1=_;rw [zx]
  unfold gx;rw [h1,h2,Bool.not_or];congr 1
  ·by_cases h:a<0 <;> simp [h] <;> omega
  ·by_cases h:a > (ae.length:Int) - 1 <;> simp [h] <;> omega
 rw [hi] at ck;have hk:1≤(xF ae cl ar).k∧(xF ae cl ar).k≤8:=⟨(by decide:(1:Int)≤1),(by decide:(1:Int)≤8)⟩
 have hd:(jA (xF ae cl ar).k=.nil∧true=true)∨(jA (xF ae cl ar).k=.list 1 ((gj (xF ae cl ar).k).map yw)∧gj (xF ae cl ar).k≠[]∧zQ Tryz.prog 20 [.int .i64 (xF ae cl ar).k,.list 8 (xF ae cl ar).ops] .fr (.bool true)):=.inl ⟨rfl,rfl⟩;have hE:gu ae O cl ar=if true && (dP cl O.length && fu ae.length O) then (if fZ ae O cl ar then 0 else 31) else 30:=by
  unfold gu;cases dP cl O.length <;> cases fu ae.length O <;> rfl
 rcases bO with rfl|rfl|rfl
 ·have hz:=Yq (xF ae 0 ar) (bT O) O.length (eb.bT O) 0 0;rw [show (decide ((O.length:Int)=0) && decide (((xF ae 0 ar).ed.length:Int)=0))=dP 0 O.length by simp [dP,xF]] at hz;have hp:=sm (xF ae 0 ar) (bT O) (eb.bT O).ok;rw [show (decide (((xF ae 0 ar).fl.length:Int)=0) && decide ((xF ae 0 ar).ar=0))=fZ ae O 0 ar by rw [Bool.eq_iff_iff];simp [fZ,xF,and_comm];exact fun _=>⟨fun h=>of_decide_eq_true h,fun h=>decide_eq_true h⟩] at hp;exact xx (xF ae 0 ar) (bT O) (eb.bT O).ok hk (show bq 0 by decide) true hd true (fun h=>by cases h) _ _ _ [] (fun _=>zH (i:=0) rfl) _ _ _ (fun _=>hz) (fun _ _=>ck) (fun _ _ _=>hp) _ (fun h=>by cases h) (fun _=>hE)
 ·have hz:=Yq (xF ae 1 ar) (bT O) O.length (eb.bT O) 1 0;rw [show (decide ((O.length:Int)=1) && decide (((xF ae 1 ar).ed.length:Int)=0))=dP 1 O.length by simp [dP,xF];omega] at hz;exact xx (xF ae 1 ar) (bT O) (eb.bT O).ok hk (show bq 1 by decide) true hd true (fun h=>by cases h) _ 41 _ [] (fun _=>zH (i:=1) rfl) _ _ (fZ ae O 1 ar) (fun _=>hz) (fun _ _=>ck) (fun _ h1 h2=>by
   obtain ⟨a,c,r,rfl,rfl⟩:=nS h1 h2;exact sq (xF (c::r) 1 ar) a c r rfl) _ (fun h=>by cases h) (fun _=>hE)
 ·exact xx (xF ae 2 ar) (bT O) (eb.bT O).ok hk (show bq 2 by decide) true hd false (fun _=>show ∀ p∈xQ,¬ (p.1=1∧p.2.1=2) by decide) 0 0 [] [] (fun h=>by cases h) true true true (fun h=>by cases h) (fun h=>by cases h) (fun h=>by cases h) _ (fun h=>by cases h) (fun _=>by simp [hE,dP])
theorem VT (ae O:List Int) (cl ar:Int) (bO:cl=0∨cl=1∨cl=2) (hlen:ae.length≤1000000) (hO:O.length≤100000):zQ Tryz.prog 9 [(xF ae cl ar).c,(xF ae cl ar).e,(xF ae cl ar).v (bT O)] .fr (.bool true):=by
 have hP:=xr ae O cl ar bO hlen hO;have hR:=VI ae O cl ar bO hlen zc;generalize gu ae O cl ar=E at hP hR;simp only [br.c,br.e,br.v,br.x,xF] at hP hR ⊢;generalize ae.map dp=fl at hP hR ⊢;have cn:=eb.bT O;generalize bT O=od at cn hP hR ⊢;rcases cn with ⟨rfl,_⟩|⟨es,rfl,_⟩
 all_goals (
  refine zj 17 Tryz.func9 Tryz.ntmps9 rfl ?_;change FW _ _ _ ⟨[(0,_),(1,_),(2,_)],[]⟩;refine yp ?_;refine xT hP (by repeat (first|exact zh.nil|refine zh.cons zi ?_)) rfl rfl ?_;refine zp ?_;refine xT hR (by repeat (first|exact zh.nil|refine zh.cons zi ?_)) rfl rfl ?_;refine zp ?_;refine ⟨by kernel_rfl,?_⟩;skip;exact FW.ret ⟨.inl rfl,zg rfl rfl (congrArg FV.bool (decide_eq_true rfl)) rfl⟩)
theorem uU (n:Int):yo n 3=0∨yo n 3=1∨yo n 3=2:=by
 have:=XP (n:=n) (aL:=3) zc;have:=VU (n:=n) (aL:=3) zc;omega
def XM (K:List Int) (rc ra:Int) (pz:FV):Prop:=zQ Tryz.prog 8 [.agg [.int .i64 1,.int .i64 0,.int .i64 0,.int .i64 0,.int .i64 0,.int .i64 0,.list 5 []],.agg [.list 8 [],.list 1 [],.list 4 (K.map dp)],.agg [.int .i64 1,.int .i64 rc,.int .i64 ra,pz,.list 3 []]] .fr (.int .i64 0)
theorem sZ {K O:List Int} {cl ar:Int} (h:gu K O cl ar=0):(K=[]∧cl=0∧ar=0)∨∃ c r,K=c::r∧cl=1∧ar=c:=by
 unfold gu at h;by_cases h1:dP cl O.length=true
 ·rw [if_pos h1] at h;by_cases h2:fu K.length O=true
  ·rw [if_pos h2] at h;by_cases h3:fZ K O cl ar=true
   ·unfold dP at h1;rw [Vj,zC,zC] at h1;unfold fZ at h3;rcases h1 with ⟨h1,_⟩|⟨h1,h4⟩
    ·obtain rfl:=of_decide_eq_true h1;rw [if_neg zb,zC] at h3;exact .inl ⟨xJ (of_decide_eq_true h3.2),rfl,of_decide_eq_true h3.1⟩
    ·obtain rfl:=of_decide_eq_true h1;rw [if_pos rfl,zC] at h3;obtain ⟨a,c,r,rfl,rfl⟩:=nS (by simpa [dP] using of_decide_eq_true h4) h2;have h5:c=ar:=of_decide_eq_true h3.2;exact .inr ⟨c,r,rfl,rfl,h5.symm⟩
   ·rw [if_neg h3] at h;omega
  ·rw [if_neg h2] at h;omega
 ·rw [if_neg h1] at h;omega
theorem s3 (c:Int) (r:List Int):gu (c::r) [0] 1 c=0:=by
 simp [gu,dP,fu,fZ,nth]
theorem vR:XM [] 0 0 .nil:=xr [] [] 0 0 (.inl rfl) (zN _) (zN _)
theorem vS (c:Int) (r:List Int) (h:(c::r).length≤1000000):XM (c::r) 1 c (.list 1 [[.int .i64 0]]):=by
 have h:=xr (c::r) [0] 1 c (.inr (.inl rfl)) h zb;rw [s3] at h;exact h
theorem ZX (ae:List Int) (bQ ar:Int) (order:List Int) (mV:∀ x∈ae,bq x) (hlen:ae.length≤9223372036854775807) (jM:bq bQ) (wj:bq ar) (jX:∀ x∈order,bq x) (lA:order.length≤9223372036854775807):zQ Tryz.prog 3 [.list 1 (ae.map yw),.int .i64 bQ,.int .i64 ar,.list 1 (order.map yw)] .fr (.bool true):=by
 obtain ⟨K,hK⟩:∃ K,ae.take 5=K:=⟨_,rfl⟩
 have wh:K.length=min 5 ae.length:=by rw [← hK,zT]
 have iY:∀ i,i<K.length→K.take (i+1)=K.take i++[nth ae i]:=fun i hi=>by
  have h2:i<ae.length:=by omega
  rw [Zj hi,Zc h2];subst hK;rw [List.getElem_take]
 have oN:0<K.length→∃ r,K=nth ae 0::r:=fun h=>by
  subst hK;cases ae with
  | nil => simp at h
  | cons c r => exact ⟨r.take 4, rfl⟩
 have h1:=XQ bQ 3 jM zb zb;have bO:=uU bQ;generalize yo bQ 3=cl at h1 bO;have fE:=s4 order K.length jX lA zc;have kq:(UB order K.length).length≤100000:=by unfold UB;rw [zx,zT];omega
 generalize UB order K.length=O at fE kq;refine zj 87 Tryz.func3 Tryz.ntmps3 rfl ?_;change FW _ _ _ ⟨[(0,.list 1 (ae.map yw)),(1,.int .i64 bQ),(2,.int .i64 ar),(3,.list 1 (order.map yw))],[]⟩;refine za ?_;refine FW.le ?_ (aC.pA (i:=9) rfl);refine FW.mono (Q:=fun e s'=>e=.exit 0∧aC s' ⟨[(0,.list 1 (ae.map yw)),(1,.int .i64 bQ),(2,.int .i64 ar),(3,.list 1 (order.map yw)),(9,.ptr 109 0 0 0)],[(109,⟨0,.aw,27,3,[[.nil,.nil,.own 105 0 0 K.length]]⟩),(105,⟨0,.own,31,4,K.map dp⟩)]⟩) ?_ ?_
 ·refine FW.loop (fun i:Nat=>⟨[(0,.list 1 (ae.map yw)),(1,.int .i64 bQ),(2,.int .i64 ar),(3,.list 1 (order.map yw)),(9,.ptr 109 0 0 0),(10,.int .i64 i)],[(109,⟨0,.aw,27,3,[[.nil,.nil,.own 105 0 0 (K.take i).length]]⟩),(105,⟨0,.own,31,4,(K.take i).map dp⟩)]⟩) (fun i=>i≤K.length) (fun i=>K.length - i) 0 (zN _) ?_ ?_
  ·show aC _ ⟨[(0,.list 1 (ae.map yw)),(1,.int .i64 bQ),(2,.int .i64 ar),(3,.list 1 (order.map yw)),(9,.ptr 109 0 0 0),(10,.int .i64 0)],[(109,⟨0,.aw,27,3,[[.nil,.nil,.own 105 0 0 0]]⟩),(105,⟨0,.own,31,4,[]⟩)]⟩;exact (aC.cv [⟨109,some 9,1,⟨0,.aw,27,3,[[.nil,.nil,.own 105 0 0 0]]⟩⟩,⟨105,none,0,⟨0,.own,31,4,[]⟩⟩] zn zt)
  intro i hi;have iG:(K.take i).length=i:=by rw [zT];omega
  have dH:i=K.length→K.take i=K:=fun e=>by rw [e,ZO]
  have iY:=iY i;generalize K.take i=A at iG iY dH;refine za ?_;refine yd (fun h=>?_) (fun h=>?_)
  ·have aM:i<ae.length:=by simpa using h
   rw [h];clear h;refine za ?_;refine FW.cond rfl (fun h=>?_) (fun h=>?_)
   ·have h:decide ((i:Int)<5)=true:=h;have h5:i<5:=by have:=of_decide_eq_true h;omega
    clear h;have iY:=iY zc;obtain ⟨x,j2⟩:∃ x,nth ae i=x:=⟨_,rfl⟩
    rw [j2] at iY;refine yp ?_;refine UE rfl rfl rfl rfl rfl rfl rfl ?_;refine zp ?_;refine WX (d:=0) rfl rfl ⟨_,_,_,rfl⟩ (yz rfl zb) (fun i v n e=>by injection e with e1 e2 e3 e4;subst e1;subst e2;exact yz rfl zb) rfl rfl rfl rfl (by show 2<3;decide) rfl rfl ?_;refine zB.nil ⟨by kernel_rfl,?_⟩;refine za ?_;refine ⟨i+1,by omega,by omega,?_⟩;rw [iY,j2,show (A++[x]).length=A.length+1 by simp,xM];exact (aC.cv [⟨109,some 109,0,⟨0,.aw,27,3,[[.nil,.nil,.own 105 0 0 (A.length+1)]]⟩⟩,⟨105,some 32,0+1,⟨0,.own,31,4,A.map dp++[x].map dp⟩⟩] zn zt)
   ·have h:decide ((i:Int)<5)=false:=h;have he:i=K.length:=by have:=of_decide_eq_false h;omega
    rw [dH he];refine za ?_;exact ⟨rfl,(aC.cv [⟨109,some 109,0,⟨0,.aw,27,3,[[.nil,.nil,.own 105 0 0 K.length]]⟩⟩,⟨105,some 105,0,⟨0,.own,31,4,K.map dp⟩⟩] zn zt)⟩
  ·have he:i=K.length:=by simp at h;omega
   rw [h,dH he];refine za ?_;exact ⟨rfl,(aC.cv [⟨109,some 109,0,⟨0,.aw,27,3,[[.nil,.nil,.own 105 0 0 K.length]]⟩⟩,⟨105,some 105,0,⟨0,.own,31,4,K.map dp⟩⟩] zn zt)⟩
 rintro e s' ⟨rfl,hle⟩;refine FW.le (s':=⟨[(0,.list 1 (ae.map yw)),(1,.int .i64 bQ),(2,.int .i64 ar),(3,.list 1 (order.map yw)),(9,.ptr 109 0 0 0)],[(109,⟨0,.aw,27,3,[[.nil,.nil,.own 105 0 0 K.length]]⟩),(105,⟨0,.own,31,4,K.map dp⟩)]⟩) ?_ hle;clear hle;have iJ:=(eb.bT O).ok;have jG:[bT O,FV.nil].all FV.one=true:=by simp only [Zg,Yw,show (bT O).one=true from iJ];rfl
 have jH:[FV.int .i64 1,.int .i64 cl,.int .i64 ar,bT O,.nil].all FV.one=true:=by simp only [Zg,Yw,show (bT O).one=true from iJ];rfl
 have hP:=xr K O cl ar bO zc kq;have hG:=VT K O cl ar bO zc kq;have hz:=fun h:gu K O cl ar=0=>sZ h;generalize gu K O cl ar=E at hP hz;simp only [br.c,br.e,br.v,xF] at hP hG;generalize bT O=od at fE iJ jG jH hP hG;refine FW.le ?_ (aC.e9 (r:=[.nil,.nil,.own 105 0 0 K.length]) (es:=K.map dp) 109 105 2 zb rfl rfl (by show some _=some _;rw [zx]) rfl rfl);refine FW.le (s':=⟨[(0,.list 1 (ae.map yw)),(1,.int .i64 bQ),(2,.int .i64 ar),(3,.list 1 (order.map yw)),(9,.ptr 109 0 0 0)],[(109,⟨0,.own,27,3,[[.nil,.nil,.list 4 (K.map dp)]]⟩)]⟩) ?_ (aC.cv [⟨109,some 109,0,⟨0,.own,27,3,[[.nil,.nil,.list 4 (K.map dp)]]⟩⟩] zn zt);refine yp ?_;refine xT h1 (by repeat (first|exact zh.nil|refine zh.cons zi ?_)) rfl rfl ?_;refine zp ?_;refine zF fE (by repeat (first|exact zh.nil|refine zh.cons zi ?_)) rfl rfl ?_;refine zp ?_;refine xn.agg rfl rfl jG rfl (Xo _ _) rfl ?_;refine xn.nil ?_;show zB _ _ _ ⟨(43,.agg [.int .i64 1,.int .i64 cl,.int .i64 ar,od,.nil])::_,_⟩ _ _
 (repeat (first|refine zB.bn (Zl rfl rfl rfl rfl rfl) rfl rfl ?_))
 refine zB.dU (xu rfl rfl jH rfl rfl rfl rfl rfl) rfl ?_;refine zp ?_;refine ⟨by kernel_rfl,?_⟩;clear jG jH;refine FW.le (s':=⟨[(0,.list 1 (ae.map yw)),(9,.ptr 109 0 0 0),(11,.ptr 111 0 0 0),(12,.ptr 112 0 0 0)],[(109,⟨0,.own,27,3,[[.nil,.nil,.list 4 (K.map dp)]]⟩),(111,⟨0,.own,36,7,[[.int .i64 1,.int .i64 0,.int .i64 0,.int .i64 0,.int .i64 0,.int .i64 0,.nil]]⟩),(112,⟨0,.own,43,5,[[.int .i64 1,.int .i64 cl,.int .i64 ar,od,.nil]]⟩)]⟩) ?_ (aC.cv [⟨109,some 109,0,⟨0,.own,27,3,[[.nil,.nil,.list 4 (K.map dp)]]⟩⟩,⟨111,some 11,1,⟨0,.own,36,7,[[.int .i64 1,.int .i64 0,.int .i64 0,.int .i64 0,.int .i64 0,.int .i64 0,.nil]]⟩⟩,⟨112,some 12,1,⟨0,.own,43,5,[[.int .i64 1,.int .i64 cl,.int .i64 ar,od,.nil]]⟩⟩] zn zt);refine za ?_;refine FW.join (fun z:Int×Int×FV=>⟨[(9,.ptr 109 0 0 0),(11,.ptr 111 0 0 0),(12,.ptr 112 0 0 0),(13,.ptr 113 0 0 0)],[(109,⟨0,.own,27,3,[[.nil,.nil,.list 4 (K.map dp)]]⟩),(111,⟨0,.own,36,7,[[.int .i64 1,.int .i64 0,.int .i64 0,.int .i64 0,.int .i64 0,.int .i64 0,.nil]]⟩),(112,⟨0,.own,43,5,[[.int .i64 1,.int .i64 cl,.int .i64 ar,od,.nil]]⟩),(113,⟨0,.own,43,5,[[.int .i64 1,.int .i64 z.1,.int .i64 z.2.1,z.2.2,.nil]]⟩)]⟩) (fun z=>XM K z.1 z.2.1 z.2.2∧(E=0→cl=z.1∧ar=z.2.1)) ?_ ?_
 ·refine FW.cond rfl (fun h=>?_) (fun h=>?_)
  ·have h:0<K.length:=by have:=of_decide_eq_true h;omega
   obtain ⟨r,hr⟩:=oN h;have l8:0<ae.length:=by omega
   have hR:XM K 1 (nth ae 0) (.list 1 [[.int .i64 0]]):=by
    rw [hr];exact vS _ r (by rw [← hr];omega)
   have rM:E=0→cl=1∧ar=nth ae 0:=fun e=>by
    rcases hz e with ⟨h0,_⟩|⟨c,r',h0,h1,h2⟩
    ·rw [h0] at hr;cases hr
    ·rw [h0] at hr;injection hr with hr _
     exact ⟨h1,h2.trans hr⟩
   (repeat (first|refine FW.region ?_|refine zu.aj (xj rfl) rfl rfl ?_|refine zu.aj (xP rfl rfl rfl zV (by first|exact zW zc|rfl) rfl rfl) rfl rfl ?_|refine zu.aj (Zx rfl rfl rfl rfl rfl rfl zV) rfl rfl ?_))
   refine zw (es:=[[.int .i64 0]]) rfl rfl rfl (by refine zY.int rfl rfl ?_;exact zY.nil) rfl rfl rfl rfl rfl ?_;refine za ?_;exact ⟨rfl,(1,nth ae 0,.list 1 [[.int .i64 0]]),⟨hR,rM⟩,(aC.cv [⟨109,some 109,0,⟨0,.own,27,3,[[.nil,.nil,.list 4 (K.map dp)]]⟩⟩,⟨111,some 111,0,⟨0,.own,36,7,[[.int .i64 1,.int .i64 0,.int .i64 0,.int .i64 0,.int .i64 0,.int .i64 0,.nil]]⟩⟩,⟨112,some 112,0,⟨0,.own,43,5,[[.int .i64 1,.int .i64 cl,.int .i64 ar,od,.nil]]⟩⟩,⟨113,some 13,1,⟨0,.own,43,5,[[.int .i64 1,.int .i64 1,.int .i64 (nth ae 0),.list 1 [[.int .i64 0]],.nil]]⟩⟩] zn zt)⟩
  ·have h:¬ 0<K.length:=by have:=of_decide_eq_false h;omega
   have oO:K=[]:=xJ zc;have nJ:E=0→cl=0∧ar=0:=fun e=>by
    rcases hz e with ⟨_,h0⟩|⟨c,r,h0,_⟩
    ·exact h0
    ·rw [oO] at h0;cases h0
   refine za ?_;exact ⟨rfl,(0,0,.nil),⟨by rw [oO];exact vR,nJ⟩,(aC.cv [⟨109,some 109,0,⟨0,.own,27,3,[[.nil,.nil,.list 4 (K.map dp)]]⟩⟩,⟨111,some 111,0,⟨0,.own,36,7,[[.int .i64 1,.int .i64 0,.int .i64 0,.int .i64 0,.int .i64 0,.int .i64 0,.nil]]⟩⟩,⟨112,some 112,0,⟨0,.own,43,5,[[.int .i64 1,.int .i64 cl,.int .i64 ar,od,.nil]]⟩⟩,⟨113,some 13,1,⟨0,.own,43,5,[[.int .i64 1,.int .i64 0,.int .i64 0,.nil,.nil]]⟩⟩] zn zt)⟩
 rintro ⟨rc,ra,pz⟩ ⟨hR,hE⟩;dsimp only at hR hE ⊢;unfold XM at hR;clear hz fE oN iY hK iJ;refine za ?_;refine zy hR (by repeat (first|exact zh.nil|refine zh.cons (by exact Ve.sub rfl rfl (by repeat (first|exact FV.le.refl _|exact FV.le.nil _|refine FV.le.agg ?_|refine FV.le.bG ?_|exact ea.nil|refine ea.cons ?_ ?_|exact FV.le.undef _))) ?_)) rfl rfl ?_;refine za ?_;refine zy hG (by repeat (first|exact zh.nil|refine zh.cons (by exact Ve.sub rfl rfl (by repeat (first|exact FV.le.refl _|exact FV.le.nil _|refine FV.le.agg ?_|refine FV.le.bG ?_|exact ea.nil|refine ea.cons ?_ ?_|exact FV.le.undef _))) ?_)) rfl ⟨_,_,rfl,rfl,rfl⟩ ?_;refine za ?_;refine zy hP (by repeat (first|exact zh.nil|refine zh.cons (by exact Ve.sub rfl rfl (by repeat (first|exact FV.le.refl _|exact FV.le.nil _|refine FV.le.agg ?_|refine FV.le.bG ?_|exact ea.nil|refine ea.cons ?_ ?_|exact FV.le.undef _))) ?_)) rfl rfl ?_;refine za ?_;refine yd (fun h=>?_) (fun h=>?_)
 ·obtain ⟨h2,h3⟩:=hE (of_decide_eq_true h);rw [h];refine za ?_;refine yd (fun h4=>absurd h2 (of_decide_eq_true h4)) (fun h4=>?_);rw [h4];refine za ?_;refine FW.cond rfl (fun h5=>absurd h3 (of_decide_eq_true (p:=ar≠ra) h5)) (fun _=>?_);refine za ?_;refine zy Xb (by repeat (first|exact zh.nil)) rfl rfl ?_;refine za ?_;exact FW.ret ⟨.inl rfl,zg rfl rfl rfl rfl⟩
 ·rw [h];refine za ?_;refine zy Xb (by repeat (first|exact zh.nil)) rfl rfl ?_;refine za ?_;exact FW.ret ⟨.inl rfl,zg rfl rfl rfl rfl⟩
end Go.Proofs.YtedkppfghdipdaaGreatDoor
