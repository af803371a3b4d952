/-
  Some texts as one: FmRef03, TopoRef, FmWalks, CycRef, FmLives03, EdgeCongr, FmCau9.
-/
import Derived.Test.YtmnmakhpjgjdaaaZR
import Derived.Test.YtmnmakhpjgjdaaaZK
import Derived.Test.YtmnmakhpjgjdaaaZL
import Derived.Test.YtmnmakhpjgjdaaaZFmCyc2
import Derived.Test.YtmnmakhpjgjdaaaZFmCau6
namespace Go.Proofs.Ytmnmakhpjgjdaaa
set_option linter.unusedVariables false
set_option maxHeartbeats 16000000
section
open Go.RowKit
theorem zku (E:List (Nat×Nat)):∀ e∈E.map edf,FV.flat.flats e=true:=fun e he=>by
 obtain ⟨q,_,rfl⟩:=List.mem_map.1 he;rfl
def ZW (E:List (Nat×Nat)) (a b:Int):Bool:=E.any fun e=>decide ((e.1:Int)=a) && decide ((e.2:Int)=b)
theorem zi0 (E:List (Nat×Nat)) (a b:Int) (hE:E.length≤1000000):zX Try.prog 80 [.list 2 (E.map edf),.int .i64 a,.int .i64 b] .fr (.bool (ZW E a b)):=by
 refine zX.of_body (c:=(xx Try.prog zE zt 30)) ⟨Try.func80,rfl,Try.ntmps80,by kernel_rfl⟩ zH zw rfl ?_;change FW _ _ _ ⟨[(0,.list 2 (E.map edf)),(1,.int .i64 a),(2,.int .i64 b)],[]⟩;refine zb ?_;refine FW.loop (fun i:Nat=>⟨[(0,.list 2 (E.map edf)),(1,.int .i64 a),(2,.int .i64 b),(7,.int .i64 i)],[]⟩) (fun i=>i≤E.length∧ZW (E.take i) a b=false) (fun i=>E.length - i) 0 ⟨Nat.zero_le _,rfl⟩ (FLe.cv [] zB zd) ?_;rintro i ⟨hi,hno⟩;refine zb ?_;refine FW.cond rfl (fun h=>?_) (fun h=>?_)
 ·have hlt:i<E.length:=by simpa using h
  clear h;have hst:ZW (E.take (i+1)) a b=(decide (((nth E i).1:Int)=a) && decide (((nth E i).2:Int)=b)):=by
   unfold ZW at hno ⊢;rw [List.take_succ_eq_append_getElem hlt,List.any_append,hno,← nth_eq hlt];simp
  obtain ⟨⟨x,y⟩,he⟩:∃ e,nth E i=e:=⟨_,rfl⟩
  rw [he] at hst;refine zb ?_;rw [he];skip;refine zP (fun h1=>?_) (fun h1=>?_)
  ·refine zb ?_;rw [he];skip;refine FW.cond rfl (fun h2=>?_) (fun h2=>?_)
   ·refine zb ?_;have:ZW E a b=true:=by
     unfold ZW;refine List.any_eq_true.2 ⟨nth E i,zC hlt,?_⟩;rw [he];simp at h1 h2;simp [h1,h2]
    exact FW.ret ⟨.inl rfl,zF rfl rfl (by rw [this];rfl) rfl⟩
   ·refine zb ?_;refine ⟨i+1,⟨by omega,?_⟩,by omega,(FLe.cv [] zB zd)⟩;rw [hst];simp at h2;simp [h2]
  ·refine zb ?_;refine ⟨i+1,⟨by omega,?_⟩,by omega,(FLe.cv [] zB zd)⟩;rw [hst];simp at h1;simp [h1]
 ·have hi:i=E.length:=by simp at h;omega
  subst hi;rw [List.take_length] at hno;refine zb ?_;exact FW.ret ⟨.inl rfl,zF rfl rfl (by rw [hno];rfl) rfl⟩
def zpC (e:Nat×Nat):Nat×Nat:=(min e.1 e.2,max e.1 e.2)
def zkz (E:List (Nat×Nat)):Nat→List (Nat×Nat)
 | 0 => E
 | k+1 => if k % 7=6 then zkz E k else (zkz E k).set k (zpC (nth (zkz E k) k))
theorem zeX (E:List (Nat×Nat)):∀ k,(zkz E k).length=E.length
 | 0 => rfl
 | k+1 => by
  unfold zkz;split
  ·exact zeX E k
  ·rw [List.length_set];exact zeX E k
def YL (E:List (Nat×Nat)) (v:Int) (out:List Int):Bool:=E.all fun e=>!decide ((e.2:Int)=v) || ziR out e.1
theorem zjt (E:List (Nat×Nat)) (v:Int) (out:List Int) (hE:E.length≤1000000) (ho:out.length≤1000000):zX Try.prog 69 [.list 2 (E.map edf),.int .i64 v,.list 1 (out.map zD)] .fr (.bool (YL E v out)):=by
 refine zX.of_body (c:=(xx Try.prog zE zt 31)) ⟨Try.func69,rfl,Try.ntmps69,by kernel_rfl⟩ zH zw rfl ?_;change FW _ _ _ ⟨[(0,.list 2 (E.map edf)),(1,.int .i64 v),(2,.list 1 (out.map zD))],[]⟩;refine zb ?_;refine FW.loop (fun i:Nat=>⟨[(0,.list 2 (E.map edf)),(1,.int .i64 v),(2,.list 1 (out.map zD)),(7,.int .i64 i)],[]⟩) (fun i=>i≤E.length∧YL (E.take i) v out=true) (fun i=>E.length - i) 0 ⟨Nat.zero_le _,rfl⟩ (FLe.cv [] zB zd) ?_;rintro i ⟨hi,hno⟩;refine zb ?_;refine FW.cond rfl (fun h=>?_) (fun h=>?_)
 ·have hlt:i<E.length:=by simpa using h
  clear h;have hst:YL (E.take (i+1)) v out=(!decide (((nth E i).2:Int)=v) || ziR out (nth E i).1):=by
   unfold YL at hno ⊢;rw [List.take_succ_eq_append_getElem hlt,List.all_append,hno,← nth_eq hlt];simp
  have hbad:(!decide (((nth E i).2:Int)=v) || ziR out (nth E i).1)=false→YL E v out=false:=fun hb=>by
   unfold YL;refine List.all_eq_false.2 ⟨nth E i,zC hlt,?_⟩;rw [hb];decide
  refine zb ?_;refine zP (fun h1=>?_) (fun h1=>?_)
  ·refine zb ?_;refine zS (zhE out (nth E i).1 za) (by repeat (first|exact zu.nil|refine zu.cons zm ?_)) rfl ⟨_,_,rfl,rfl,rfl⟩ ?_;refine zb ?_;refine FW.cond rfl (fun h2=>?_) (fun h2=>?_)
   ·refine zb ?_;exact FW.ret ⟨.inl rfl,zF rfl rfl (by rw [hbad (by rw [h1];simpa using h2)];rfl) rfl⟩
   ·refine zb ?_;refine ⟨i+1,⟨by omega,?_⟩,by omega,(FLe.cv [] zB zd)⟩;rw [hst,h1];simpa using h2
  ·refine zb ?_;refine ⟨i+1,⟨by omega,?_⟩,by omega,(FLe.cv [] zB zd)⟩;rw [hst,h1];rfl
 ·have hi:i=E.length:=by simp at h;omega
  subst hi;rw [List.take_length] at hno;refine zb ?_;exact FW.ret ⟨.inl rfl,zF rfl rfl (by rw [hno];rfl) rfl⟩
def zga (p:Nat→Bool) (n:Nat):Nat→Int
 | 0 => -1
 | k+1 => if p (n - (k+1))=true then ((n - (k+1):Nat):Int) else zga p n k
theorem zhP (p:Nat→Bool) (n:Nat):∀ k,-1≤zga p n k∧zga p n k≤n
 | 0 => by unfold zga; omega
 | k+1 => by
  have:=zhP p n k;unfold zga;split <;> omega
def WD (E:List (Nat×Nat)) (out:List Int) (v:Nat):Bool:=!ziR out v && YL E v out
def rtK (E:List (Nat×Nat)) (n:Nat):Nat→List Int→Option (List Int)
 | 0, out => some out
 | k+1, out => if zga (WD E out) n n<0 then none else rtK E n k (out ++ [zga (WD E out) n n])
def zpr:Option (List Int)→FV
 | none => .tup [.list 1 [], .bool false]
 | some l => .tup [.list 1 (l.map zD), .bool true]
theorem zjn (n:Nat) (E:List (Nat×Nat)) (hn:n≤1000) (hE:E.length≤1000000):zX Try.prog 51 [.int .i64 n,.list 2 (E.map edf)] .sh (zpr (rtK E n n [])):=by
 obtain ⟨R,hR⟩:∃ R,rtK E n n []=R:=⟨_,rfl⟩
 rw [hR];have hres:(zpr R).hand=none:=by cases R <;> rfl
 refine zX.of_body (c:=(xx Try.prog zE zt 37)) ⟨Try.func51,rfl,Try.ntmps51,by kernel_rfl⟩ zH zw hres ?_;change FW _ _ _ ⟨[(0,.int .i64 n),(1,.list 2 (E.map edf))],[]⟩;refine zb ?_;refine FW.loop (fun out:List Int=>⟨[(0,.int .i64 n),(1,.list 2 (E.map edf)),(6,.own 100 0 0 out.length)],[(100,⟨0,.own,3,1,out.map zD⟩)]⟩) (fun out=>∃ k,out.length+k=n∧rtK E n k out=R) (fun out=>n - out.length) [] ⟨n,by simp,hR⟩ ?_ ?_
 ·exact (FLe.cv [⟨100,none,0,⟨0,.own,3,1,[]⟩⟩] zf zd)
 clear hR;rintro out ⟨k,hk,hR⟩;refine zb ?_;refine FW.cond rfl (fun h=>?_) (fun h=>?_)
 ·obtain ⟨k,rfl⟩:∃ k',k=k'+1:=⟨k - 1,by simp at h;omega⟩
  clear h;unfold rtK at hR;refine zb ?_;refine FW.loop (fun j:Nat=>⟨[(0,.int .i64 n),(1,.list 2 (E.map edf)),(6,.own 100 0 0 out.length),(7,.int .i64 (zga (WD E out) n j)),(8,.int .i64 ((n:Int) - 1 - j))],[(100,⟨0,.own,3,1,out.map zD⟩)]⟩) (fun j=>j≤n) (fun j=>n - j) 0 (Nat.zero_le _) ?_ ?_
  ·exact (FLe.cv [⟨100,some 100,0,⟨0,.own,3,1,out.map zD⟩⟩] zf zd)
  intro j hj;refine zb ?_;refine FW.cond rfl (fun h=>?_) (fun h=>?_)
  ·have hlt:j<n:=by simp at h;omega
   clear h;obtain ⟨v,hv⟩:∃ v,n - (j+1)=v:=⟨_,rfl⟩
   have hvi:(n:Int) - 1 - j=v:=by omega
   have hst:zga (WD E out) n (j+1)=if (!ziR out v && YL E v out)=true then (v:Int) else zga (WD E out) n j:=by
    show (if WD E out (n - (j+1))=true then ((n - (j+1):Nat):Int) else _)=_;rw [hv];rfl
   obtain ⟨L,hL⟩:∃ L,zga (WD E out) n j=L:=⟨_,rfl⟩
   rw [hL] at hst ⊢;rw [hvi];refine zb ?_;refine zS (zhE out v za) YZ rfl rfl ?_;refine zb ?_;refine zP (fun h1=>?_) (fun h1=>?_)
   ·refine zb ?_;refine zS (zjt E v out hE za) YZ rfl ⟨_,_,rfl,rfl,rfl⟩ ?_;refine zb ?_;rw [h1,Bool.true_and] at hst;refine FW.cond rfl (fun h2=>?_) (fun h2=>?_)
    ·rw [h2,if_pos rfl] at hst;refine zb ?_;refine ⟨j+1,by omega,by omega,?_⟩;rw [hst];exact (FLe.cv [⟨100,some 100,0,⟨0,.own,3,1,out.map zD⟩⟩] zf zd)
    ·rw [h2,if_neg zg] at hst;refine zb ?_;refine ⟨j+1,by omega,by omega,?_⟩;rw [hst];exact (FLe.cv [⟨100,some 100,0,⟨0,.own,3,1,out.map zD⟩⟩] zf zd)
   ·rw [h1,Bool.false_and,if_neg zg] at hst;refine zb ?_;refine ⟨j+1,by omega,by omega,?_⟩;rw [hst];exact (FLe.cv [⟨100,some 100,0,⟨0,.own,3,1,out.map zD⟩⟩] zf zd)
  ·obtain rfl:j=n:=by simp at h;omega
   clear h hj;have hLr:=zhP (WD E out) j j;obtain ⟨L,hL⟩:∃ L,zga (WD E out) j j=L:=⟨_,rfl⟩
   rw [hL] at hR hLr ⊢;refine zb ?_;refine FW.cond rfl (fun h=>?_) (fun h=>?_)
   ·rw [if_pos (by simpa using h)] at hR;subst hR;refine zb ?_;refine FW.le (s':=⟨[(4,.list 1 []),(5,.bool false)],[]⟩) ?_ (FLe.cv [] zB zd);exact FW.ret ⟨.inl rfl,.sh (.cons (.tmp 4 rfl rfl) (.cons (.tmp 5 rfl rfl) .nil)) rfl rfl⟩
   ·rw [if_neg (by simpa using h)] at hR;refine zb ?_;refine ⟨out++[L],⟨k,by simp;omega,hR⟩,by simp;omega,?_⟩;rw [List.length_append,List.map_append];exact (FLe.cv [⟨100,some 35,0+1,⟨0,.own,3,1,out.map zD++[L].map zD⟩⟩] zf zd)
 ·obtain rfl:k=0:=by simp at h;omega
  unfold rtK at hR;subst hR;refine zb ?_;refine FW.le ?_ (FLe.share 4 rfl rfl zc);exact FW.ret ⟨.inl rfl,.sh (.cons (.tmp 4 rfl rfl) (.cons (.tmp 5 rfl rfl) .nil)) rfl rfl⟩
end
theorem zfq (p:Nat→Bool) (n:Nat):∀ k,k≤n→(zga p n k = -1∧∀ v,n - k≤v→v<n→p v=false)∨∃ v,zga p n k=(v:Nat)∧n - k≤v∧v<n∧p v=true∧∀ u,n - k≤u→u<v→p u=false
 | 0, _ => .inl ⟨rfl, fun v h1 h2 => by omega⟩
 | k+1,hk=>by
  have ih:=zfq p n k za;unfold zga;by_cases hp:p (n - (k+1))=true
  ·rw [if_pos hp];exact .inr ⟨_,rfl,Nat.le_refl _,by omega,hp,fun u h1 h2=>by omega⟩
  ·rw [if_neg hp];have hp' : p (n - (k+1))=false:=by simpa using hp
   rcases ih with ⟨e,h⟩|⟨v,e,h1,h2,h3,h4⟩
   ·refine .inl ⟨e,fun v q1 q2=>?_⟩;by_cases hv:v=n - (k+1)
    ·subst hv;exact hp'
    ·exact h v za q2
   ·refine .inr ⟨v,e,by omega,h2,h3,fun u q1 q2=>?_⟩;by_cases hv:u=n - (k+1)
    ·subst hv;exact hp'
    ·exact h4 u za q2
theorem zlt {n:Nat} {E:List (Nat×Nat)} (h:InN n E) (out:List Int) (v:Nat):YL E v out=true↔zf9 n E out v=0:=by
 unfold YL zf9;rw [List.all_eq_true,List.countP_eq_zero];constructor
 ·intro hr u hu hc;simp only [Bool.and_eq_true,decide_eq_true_eq] at hc;obtain ⟨e,he,h1,h2⟩:=xn.1 hc.2;have:=hr e he;subst h1;have h3:((e.2:Nat):Int)=(v:Int):=h2;rw [h3] at this;unfold ziR at this;simp at this;exact hc.1 this
 ·intro hc e he;have hin:=h e he;by_cases hv:((e.2:Nat):Int)=v
  ·have:=hc e.1 (List.mem_range.2 hin.1);simp only [Bool.and_eq_true,decide_eq_true_eq,not_and] at this;unfold ziR;by_cases hm:((e.1:Nat):Int)∈out
   ·simp [hm]
   ·exact absurd (xn.2 ⟨e,he,rfl,hv⟩) (this hm)
  ·simp [hv]
theorem TI.next {n:Nat} {E:List (Nat×Nat)} (hE:InN n E) {s:zel} (h:TI n E s) (v:Nat) (hv:v<n):WD E s.out v=true↔(v:Int)∈s.h:=by
 rw [h.hM,Int.toNat_natCast,h.cnt v hv];unfold WD ziR;rw [Bool.and_eq_true,zlt hE];constructor
 ·rintro ⟨h1,h2⟩;exact ⟨by omega,by simpa using h1,by omega⟩
 ·rintro ⟨_,h1,h2⟩;exact ⟨by simpa using h1,by omega⟩
theorem zie {n:Nat} {E:List (Nat×Nat)} (hE:InN n E):∀ (k f:Nat) (s:zel),TI n E s→s.out.length+k=n→n<s.out.length+f→rtK E n k s.out=if (yg E f s).out.length<n then none else some (yg E f s).out
 | k, 0, s, h, _, hf => by have := h.le; omega
 | k, f+1,s,h,hk,hf=>by
  have hl:=zfq (WD E s.out) n n (Nat.le_refl _);by_cases h0:s.h=[]
  ·rw [VL E (f+1) s h0];cases k with
   | zero =>
    rw [if_neg za];rfl
   | succ k=>
    rw [if_pos za];unfold rtK;rcases hl with ⟨e,_⟩|⟨v,e,_,h2,h3,_⟩
    ·rw [if_pos za]
    ·have:=(h.next hE v h2).1 h3;rw [h0] at this;cases this
  ·obtain ⟨q,hq⟩:∃ q,s.h.length=q+1:=⟨s.h.length - 1,by have:=List.length_pos_iff.2 h0;omega⟩
   obtain ⟨v,hv,hvn,hvo,hm0,hmin,hD,hN,hR⟩:=h.first hq;have hvh:(v:Int)∈s.h:=by
    rw [h.hM];exact ⟨by omega,hvo,by rw [Int.toNat_natCast];exact hm0⟩
   have hso:(yS E s).out=s.out++[(v:Int)]:=by
    unfold yS;dsimp only;rw [show s.h.length - 1=q by omega,hv]
   have e1:yg E (f+1) s=yg E f (yS E s):=if_neg h0;cases k with
   | zero =>
    have:=YH hN hR;simp at this;omega
   | succ k=>
    have hlv:zga (WD E s.out) n n=v:=by
     rcases hl with ⟨_,hno⟩|⟨u,e,_,h2,h3,h4⟩
     ·have:=hno v za hvn;rw [(h.next hE v hvn).2 hvh] at this;cases this
     ·have hu:=(h.next hE u h2).1 h3;have hle:=hmin _ hu;rcases Nat.lt_or_ge v u with hlt|hge
      ·have:=h4 v za hlt;rw [(h.next hE v hvn).2 hvh] at this;cases this
      ·rw [e];omega
    unfold rtK;rw [hlv,if_neg za,← hso,e1];exact zie hE k f (yS E s) (h.step hE h0) (by rw [XU];omega) (by rw [XU];omega)
theorem zoe {n:Nat} {E:List (Nat×Nat)} (hE:InN n E):rtK E n n []=if (yM n E).length<n then none else some (yM n E):=
 zie hE n (n+1) (yx n E) (TI.start hE) (Nat.zero_add n) (by show n<0+(n+1);omega)
section
open Go.RowKit
def Uc:List Int→List Int→Bool
 | x :: a, y :: b => if x=y then Uc a b else decide (x<y)
 | [], b => decide (0<b.length)
 | _ :: _, [] => false
theorem zi1 {a b:List Int} {i:Nat} (ha:i<a.length) (hb:i<b.length):Uc (a.drop i) (b.drop i)=if nth a i=nth b i then Uc (a.drop (i+1)) (b.drop (i+1)) else decide (nth a i<nth b i):=by
 rw [List.drop_eq_getElem_cons ha,List.drop_eq_getElem_cons hb,nth_eq ha,nth_eq hb];rfl
theorem zfm {a b:List Int} {i:Nat} (hi:i≤a.length) (h:¬ (i<a.length∧i<b.length)) (hb:i≤b.length):Uc (a.drop i) (b.drop i)=decide ((a.length:Int)<b.length):=by
 rcases Nat.lt_or_ge i a.length with h1|h1
 ·have h2:b.length=i:=by omega
  rw [show b.drop i=[] from List.drop_of_length_le za,List.drop_eq_getElem_cons h1];show false=_;simp;omega
 ·rw [List.drop_of_length_le h1];show decide (0<(b.drop i).length)=_;rw [List.length_drop];rcases Nat.lt_or_ge i b.length with h2|h2
  ·simp;omega
  ·simp;omega
theorem zkZ (a b:List Int) (ha:a.length≤1000000) (hb:b.length≤1000000):zX Try.prog 81 [.list 1 (a.map zD),.list 1 (b.map zD)] .fr (.bool (Uc a b)):=by
 refine zX.of_body (c:=(xx Try.prog zE zt 41)) ⟨Try.func81,rfl,Try.ntmps81,by kernel_rfl⟩ zH zw rfl ?_;change FW _ _ _ ⟨[(0,.list 1 (a.map zD)),(1,.list 1 (b.map zD))],[]⟩;refine zb ?_;refine FW.loop (fun i:Nat=>⟨[(0,.list 1 (a.map zD)),(1,.list 1 (b.map zD)),(5,.int .i64 i)],[]⟩) (fun i=>i≤a.length∧i≤b.length∧Uc (a.drop i) (b.drop i)=Uc a b) (fun i=>a.length - i) 0 ⟨Nat.zero_le _,Nat.zero_le _,rfl⟩ (FLe.cv [] zB zd) ?_;rintro i ⟨hi,hj,hR⟩;obtain ⟨R,hRR⟩:∃ R,Uc a b=R:=⟨_,rfl⟩
 rw [hRR] at hR ⊢;refine zb ?_;refine zP (fun h1=>?_) (fun h1=>?_)
 ·have h1' : i<a.length:=by simpa using h1
  refine zb ?_;refine FW.cond rfl (fun h2=>?_) (fun h2=>?_)
  ·have h2' : i<b.length:=by simpa using h2
   rw [zi1 h1' h2'] at hR;refine zQ ?_;refine ⟨by kernel_rfl,?_⟩;skip;refine FW.cond rfl (fun h3=>?_) (fun h3=>?_)
   ·rw [if_neg (by simpa using h3)] at hR;refine zQ ?_;refine ⟨by kernel_rfl,?_⟩;skip;exact FW.ret ⟨.inl rfl,zF rfl rfl (congrArg FV.bool hR) rfl⟩
   ·rw [if_pos (by simpa using h3)] at hR;refine zb ?_;exact ⟨i+1,⟨by omega,by omega,hR⟩,by omega,(FLe.cv [] zB zd)⟩
  ·rw [zfm hi (fun q=>by simp at h2;omega) hj] at hR;refine zb ?_;exact FW.ret ⟨.inl rfl,zF rfl rfl (congrArg FV.bool hR) rfl⟩
 ·rw [zfm hi (fun q=>by simp at h1;omega) hj] at hR;refine zb ?_;exact FW.ret ⟨.inl rfl,zF rfl rfl (congrArg FV.bool hR) rfl⟩
def zej:List Int→FV
 | [] => .nil
 | x :: l => .list 1 ((x :: l).map zD)
def Yv (l:List Int):List FV:=[zej l]
def xe (out:List (List Int)) (tg ab k v w:Nat):List Int:=if k=1 then (if w=tg then [(v:Int)] else []) else if ab<w∧nth out w≠[] then (v:Int)::nth out w else []
def zbN (E:List (Nat×Nat)) (out:List (List Int)) (tg ab k v:Nat) (cur:List Int) (w:Nat):List Int:=
 if ZW E v w=true∧xe out tg ab k v w≠[]∧(cur=[]∨Uc (xe out tg ab k v w) cur=true) then xe out tg ab k v w else cur
def zeE (E:List (Nat×Nat)) (out:List (List Int)) (tg ab k v j:Nat):List Int:=(List.range j).foldl (zbN E out tg ab k v) []
def xW (E:List (Nat×Nat)) (out:List (List Int)) (tg ab k n i:Nat):List (List Int):=(List.range n).map fun v=>if v<i then zeE E out tg ab k v n else []
def yc (E:List (Nat×Nat)) (tg ab n:Nat):Nat→List (List Int)
 | 0 => List.replicate n []
 | k+1 => xW E (yc E tg ab n k) tg ab (k+1) n n
theorem Wl (E:List (Nat×Nat)) (out:List (List Int)) (tg ab k n i:Nat):(xW E out tg ab k n i).length=n:=by simp [xW]
theorem Xl (E:List (Nat×Nat)) (tg ab n:Nat):∀ k,(yc E tg ab n k).length=n
 | 0 => by simp [yc]
 | k+1 => Wl _ _ _ _ _ _ _
theorem zdi {out:List (List Int)} {tg ab k v w B:Nat} (h:∀ r∈out,r.length≤B):(xe out tg ab k v w).length≤B+1:=by
 have hn:(nth out w).length≤B:=by
  rcases Nat.lt_or_ge w out.length with hw|hw
  ·exact h _ (zC hw)
  ·have:nth out w=[]:=by unfold nth;rw [List.getD_eq_getElem?_getD,List.getElem?_eq_none hw];rfl
   rw [this];exact Nat.zero_le _
 unfold xe;split
 ·split <;> simp
 ·split
  ·simp;omega
  ·simp
theorem zdu {E:List (Nat×Nat)} {out:List (List Int)} {tg ab k v B:Nat} (h:∀ r∈out,r.length≤B):∀ j,(zeE E out tg ab k v j).length≤B+1
 | 0 => Nat.zero_le _
 | j+1=>by
  have e:zeE E out tg ab k v (j+1)=zbN E out tg ab k v (zeE E out tg ab k v j) j:=by
   unfold zeE;rw [List.range_succ,List.foldl_append];rfl
  rw [e];unfold zbN;split
  ·exact zdi h
  ·exact zdu h j
theorem Ut (E:List (Nat×Nat)) (tg ab n:Nat):∀ k,∀ r∈yc E tg ab n k,r.length≤k
 | 0 => fun r hr => by rw [List.eq_of_mem_replicate hr]; exact Nat.le_refl _
 | k+1 => fun r hr => by
  obtain ⟨v,_,rfl⟩:=List.mem_map.1 hr;split
  ·exact zdu (Ut E tg ab n k) n
  ·simp
theorem zeF (E:List (Nat×Nat)) (out:List (List Int)) (tg ab k v j:Nat):zeE E out tg ab k v (j+1)=zbN E out tg ab k v (zeE E out tg ab k v j) j:=by
 unfold zeE;rw [List.range_succ,List.foldl_append];rfl
theorem zi9 (E:List (Nat×Nat)) (out:List (List Int)) (tg ab k n i:Nat):(xW E out tg ab k n i).set i (zeE E out tg ab k i n)=xW E out tg ab k n (i+1):=by
 unfold xW;rw [VC];refine List.map_congr_left fun v _=>?_;by_cases e:v=i
 ·subst e;rw [if_pos rfl,if_pos za]
 ·rw [if_neg e];by_cases h:v<i
  ·rw [if_pos h,if_pos za]
  ·rw [if_neg h,if_neg za]
theorem zi8 {E:List (Nat×Nat)} {out:List (List Int)} {tg ab k n i:Nat} (h:i<n):nth (xW E out tg ab k n i) i=[]:=by
 rw [nth_eq (by rw [Wl];exact h)];simp [xW]
theorem zjX (n:Nat) (E:List (Nat×Nat)) (tg ab len:Nat) (hn:n≤1000) (hE:E.length≤1000000) (ht:tg≤1000) (hab:ab≤1000) (hlen:len≤1000):zX Try.prog 67 [.int .i64 n,.list 2 (E.map edf),.int .i64 tg,.int .i64 ab,.int .i64 len] .sh (.list 1 ((yc E tg ab n len).map Yv)):=by
 refine zX.of_body (c:=(xx Try.prog zE zt 97)) ⟨Try.func67,rfl,Try.ntmps67,by kernel_rfl⟩ zH zw rfl ?_;change FW _ _ _ ⟨[(0,.int .i64 n),(1,.list 2 (E.map edf)),(2,.int .i64 tg),(3,.int .i64 ab),(4,.int .i64 len)],[]⟩;refine zb ?_;refine FW.loop (fun k:Nat=>⟨[(0,.int .i64 n),(1,.list 2 (E.map edf)),(2,.int .i64 tg),(3,.int .i64 ab),(4,.int .i64 len),(11,.list 1 ((yc E tg ab n k).map Yv)),(12,.int .i64 (k+1:Nat))],[]⟩) (fun k=>k≤len) (fun k=>len - k) 0 (Nat.zero_le _) ?_ ?_
 ·rw [show List.replicate n [FV.nil]=(yc E tg ab n 0).map Yv by show _=(List.replicate n []).map Yv;rw [List.map_replicate];rfl];refine (FLe.share 11 rfl rfl (by rw [List.length_map,Xl])).trans ?_;exact (FLe.cv [] zB zd)
 intro k hk;have hwl:=Xl E tg ab n k;have hwr:=Ut E tg ab n k;have hws:yc E tg ab n (k+1)=xW E (yc E tg ab n k) tg ab (k+1) n n:=rfl;refine zb ?_;refine FW.cond rfl (fun h=>?_) (fun h=>?_)
 ·have hlt:k<len:=by simp at h;omega
  clear h;obtain ⟨O,hO⟩:∃ O,yc E tg ab n k=O:=⟨_,rfl⟩
  rw [hO] at hwl hwr hws ⊢;obtain ⟨kk,hkk⟩:∃ kk,k+1=kk:=⟨_,rfl⟩
  rw [hkk] at hws ⊢;refine zb ?_;rw [show List.replicate n [FV.nil]=(xW E O tg ab kk n 0).map Yv by
   unfold xW;rw [List.map_map,zbl];exact List.map_congr_left fun v _=>by simp [Yv,zej]]
  refine FW.loop (fun v:Nat=>⟨[(0,.int .i64 n),(1,.list 2 (E.map edf)),(2,.int .i64 tg),(3,.int .i64 ab),(4,.int .i64 len),(11,.list 1 (O.map Yv)),(12,.int .i64 kk),(13,.own 100 0 0 n),(14,.int .i64 v)],[(100,⟨0,.own,22,1,(xW E O tg ab kk n v).map Yv⟩)]⟩) (fun v=>v≤n) (fun v=>n - v) 0 (Nat.zero_le _) ?_ ?_
  ·exact (FLe.cv [⟨100,some 25,0+1,⟨0,.own,22,1,(xW E O tg ab kk n 0).map Yv⟩⟩] zf zd)
  intro v hv;refine zb ?_;refine FW.cond rfl (fun h=>?_) (fun h=>?_)
  ·have hvn:v<n:=by simpa using h
   clear h;have hX0:=zi8 (E:=E) (out:=O) (tg:=tg) (ab:=ab) (k:=kk) hvn;have hXs:=zi9 E O tg ab kk n v;have hXl:=Wl E O tg ab kk n v;generalize xW E O tg ab kk n v=X at hX0 hXs hXl;refine zb ?_;refine FW.loop (fun w:Nat=>⟨[(0,.int .i64 n),(1,.list 2 (E.map edf)),(2,.int .i64 tg),(3,.int .i64 ab),(4,.int .i64 len),(11,.list 1 (O.map Yv)),(12,.int .i64 kk),(13,.own 100 0 0 n),(14,.int .i64 v),(15,.int .i64 w)],[(100,⟨0,.own,22,1,(X.set v (zeE E O tg ab kk v w)).map Yv⟩)]⟩) (fun w=>w≤n) (fun w=>n - w) 0 (Nat.zero_le _) ?_ ?_
   ·show FLe _ ⟨[(0,.int .i64 n),(1,.list 2 (E.map edf)),(2,.int .i64 tg),(3,.int .i64 ab),(4,.int .i64 len),(11,.list 1 (O.map Yv)),(12,.int .i64 kk),(13,.own 100 0 0 n),(14,.int .i64 v),(15,.int .i64 0)],[(100,⟨0,.own,22,1,(X.set v []).map Yv⟩)]⟩;rw [show X.set v []=X by rw [← hX0,nth_eq za];exact List.set_getElem_self _];exact (FLe.cv [⟨100,some 100,0,⟨0,.own,22,1,X.map Yv⟩⟩] zf zd)
   intro w hw;have hcl:=zdu (E:=E) (tg:=tg) (ab:=ab) (k:=kk) (v:=v) hwr w;have hcs:=zeF E O tg ab kk v w;obtain ⟨C,hC⟩:∃ C,zeE E O tg ab kk v w=C:=⟨_,rfl⟩
   rw [hC] at hcs hcl ⊢;have hYn:nth (X.set v C) v=C:=zM za;have hYl:(X.set v C).length=n:=by rw [List.length_set];exact hXl
   have hYs:∀ C',(X.set v C).set v C'=X.set v C':=fun C'=>by rw [List.set_set]
   obtain ⟨Y,hY⟩:∃ Y,X.set v C=Y:=⟨_,rfl⟩
   rw [hY] at hYn hYl hYs ⊢;refine zb ?_;refine FW.cond rfl (fun h=>?_) (fun h=>?_)
   ·have hwn:w<n:=by simpa using h
    clear h;refine zb ?_;refine zS (zi0 E v w hE) (by repeat (first|exact zu.nil|refine zu.cons zm ?_)) rfl rfl ?_;refine zb ?_;refine FW.cond rfl (fun h=>?_) (fun h=>?_)
    ·have hld:ZW E v w=false:=by simpa using h
     have hst:zbN E O tg ab kk v C w=C:=by unfold zbN;rw [if_neg (fun q=>by rw [hld] at q;cases q.1)]
     rw [hst] at hcs;refine zb ?_;refine ⟨w+1,by omega,by omega,?_⟩;rw [hcs,hY];exact (FLe.cv [⟨100,some 100,0,⟨0,.own,22,1,Y.map Yv⟩⟩] zf zd)
    ·have hld:ZW E v w=true:=by simpa using h
     clear h;refine FW.skip ?_;refine FW.seq ?_;refine FW.region ?_;refine zV rfl rfl rfl ?_;refine zn.nil ?_;refine FW.seq ?_;refine FW.join (fun _:Unit=>⟨[(0,.int .i64 n),(1,.list 2 (E.map edf)),(2,.int .i64 tg),(3,.int .i64 ab),(4,.int .i64 len),(11,.list 1 (O.map Yv)),(12,.int .i64 kk),(13,.own 100 0 0 n),(14,.int .i64 v),(15,.int .i64 w),(16,zej (if kk=1∧w=tg then [(v:Int)] else []))],[(100,⟨0,.own,22,1,Y.map Yv⟩)]⟩) (fun _=>True) ?_ (fun _ _=>?_)
     ·refine zb ?_;refine zP (fun h1=>?_) (fun h1=>?_)
      ·refine zb ?_;refine FW.cond rfl (fun h2=>?_) (fun h2=>?_)
       ·refine zb ?_;refine ⟨rfl,(),trivial,?_⟩;rw [if_pos ⟨by simp at h1;omega,by simp at h2;omega⟩];refine (FLe.share 16 rfl rfl (by rfl)).trans ?_;show FLe _ ⟨[(0,.int .i64 n),(1,.list 2 (E.map edf)),(2,.int .i64 tg),(3,.int .i64 ab),(4,.int .i64 len),(11,.list 1 (O.map Yv)),(12,.int .i64 kk),(13,.own 100 0 0 n),(14,.int .i64 v),(15,.int .i64 w),(16,.list 1 [[.int .i64 v]])],[(100,⟨0,.own,22,1,Y.map Yv⟩)]⟩;exact (FLe.cv [⟨100,some 100,0,⟨0,.own,22,1,Y.map Yv⟩⟩] zf zd)
       ·refine zb ?_;refine ⟨rfl,(),trivial,?_⟩;rw [if_neg (fun q=>by simp at h2;omega)];show FLe _ ⟨[(0,.int .i64 n),(1,.list 2 (E.map edf)),(2,.int .i64 tg),(3,.int .i64 ab),(4,.int .i64 len),(11,.list 1 (O.map Yv)),(12,.int .i64 kk),(13,.own 100 0 0 n),(14,.int .i64 v),(15,.int .i64 w),(16,.nil)],[(100,⟨0,.own,22,1,Y.map Yv⟩)]⟩;exact (FLe.cv [⟨100,some 100,0,⟨0,.own,22,1,Y.map Yv⟩⟩] zf zd)
      ·refine zb ?_;refine ⟨rfl,(),trivial,?_⟩;rw [if_neg (fun q=>by simp at h1;omega)];show FLe _ ⟨[(0,.int .i64 n),(1,.list 2 (E.map edf)),(2,.int .i64 tg),(3,.int .i64 ab),(4,.int .i64 len),(11,.list 1 (O.map Yv)),(12,.int .i64 kk),(13,.own 100 0 0 n),(14,.int .i64 v),(15,.int .i64 w),(16,.nil)],[(100,⟨0,.own,22,1,Y.map Yv⟩)]⟩;exact (FLe.cv [⟨100,some 100,0,⟨0,.own,22,1,Y.map Yv⟩⟩] zf zd)
     refine FW.seq ?_;refine FW.join (fun _:Unit=>⟨[(0,.int .i64 n),(1,.list 2 (E.map edf)),(2,.int .i64 tg),(3,.int .i64 ab),(4,.int .i64 len),(11,.list 1 (O.map Yv)),(12,.int .i64 kk),(13,.own 100 0 0 n),(14,.int .i64 v),(15,.int .i64 w),(16,zej (xe O tg ab kk v w))],[(100,⟨0,.own,22,1,Y.map Yv⟩)]⟩) (fun _=>True) ?_ (fun _ _=>?_)
     ·obtain ⟨W1,hW1⟩:∃ W1,zej (if kk=1∧w=tg then [(v:Int)] else [])=W1:=⟨_,rfl⟩
      have hh1:W1=.nil∨W1=.list 1 [[.int .i64 v]]:=by rw [← hW1];split;exact .inr rfl;exact .inl rfl
      rw [hW1];refine zb ?_;refine zP (fun h1=>?_) (fun h1=>?_)
      ·have hk1:¬ kk=1:=by simp at h1;omega
       unfold xe;rw [if_neg hk1];refine zb ?_;refine zP (fun h2=>?_) (fun h2=>?_)
       ·have haw:ab<w:=by simp at h2;omega
        have hol:(nth O w).length≤k:=hwr _ (zC za);refine zb ?_;rcases hOw:nth O w with _|⟨x,r⟩
        ·refine zb ?_;refine ⟨rfl,(),trivial,?_⟩;rw [if_neg (fun q=>q.2 rfl)];rw [if_neg (fun q=>hk1 q.1)] at hW1;subst hW1;exact (FLe.cv [⟨100,some 100,0,⟨0,.own,22,1,Y.map Yv⟩⟩] zf zd)
        ·rw [hOw] at hol;have hrl:r.length+1≤k:=hol;have hpos:decide ((((x::r).length:Nat):Int) > 0)=true:=by simp
         refine zb ?_;rw [hpos];refine zb ?_;rw [hOw];refine zb ?_;refine ⟨rfl,(),trivial,?_⟩;rw [if_pos ⟨haw,List.cons_ne_nil _ _⟩];refine (FLe.share 16 rfl rfl (by rfl)).trans ?_;obtain ⟨Q,hQ⟩:∃ Q,[[FV.int .i64 (v:Int)]]++(x::r).map zD=Q:=⟨_,rfl⟩
         rw [show zej ((v:Int)::x::r)=.list 1 Q by rw [← hQ];rfl,hQ];exact (FLe.cv [⟨100,some 100,0,⟨0,.own,22,1,Y.map Yv⟩⟩] zf zd)
       ·refine zb ?_;refine ⟨rfl,(),trivial,?_⟩;rw [if_neg (fun q=>by simp at h2;omega)];rw [if_neg (fun q=>hk1 q.1)] at hW1;subst hW1;exact (FLe.cv [⟨100,some 100,0,⟨0,.own,22,1,Y.map Yv⟩⟩] zf zd)
      ·have hk1:kk=1:=by simp at h1;omega
       refine zb ?_;refine ⟨rfl,(),trivial,?_⟩;have:zej (xe O tg ab kk v w)=W1:=by
        unfold xe;rw [if_pos hk1,← hW1];by_cases e:w=tg
        ·rw [if_pos e,if_pos ⟨hk1,e⟩]
        ·rw [if_neg e,if_neg (fun q=>e q.2)]
       rw [this];clear this hW1;rcases hh1 with rfl|rfl
       ·exact (FLe.cv [⟨100,some 100,0,⟨0,.own,22,1,Y.map Yv⟩⟩] zf zd)
       ·exact (FLe.cv [⟨100,some 100,0,⟨0,.own,22,1,Y.map Yv⟩⟩] zf zd)
     ·have hst:zbN E O tg ab kk v C w=if xe O tg ab kk v w≠[]∧(C=[]∨Uc (xe O tg ab kk v w) C=true) then xe O tg ab kk v w else C:=by
       unfold zbN;by_cases q:xe O tg ab kk v w≠[]∧(C=[]∨Uc (xe O tg ab kk v w) C=true)
       ·rw [if_pos ⟨hld,q⟩,if_pos q]
       ·rw [if_neg (fun q2=>q q2.2),if_neg q]
      rw [hst] at hcs;have hWl:(xe O tg ab kk v w).length≤k+1:=zdi hwr;rcases hW:xe O tg ab kk v w with _|⟨x,r⟩
      ·rw [hW,if_neg (fun q=>q.1 rfl)] at hcs;refine zb ?_;refine ⟨w+1,by omega,by omega,?_⟩;rw [hcs,hY];exact (FLe.cv [⟨100,some 100,0,⟨0,.own,22,1,Y.map Yv⟩⟩] zf zd)
      ·rw [hW] at hcs hWl;have hpos:decide ((((x::r).length:Nat):Int) > 0)=true:=by simp
       refine zb ?_;rw [hpos];refine zb ?_;rw [hYn];rcases C with _|⟨y,s⟩
       ·rw [if_pos ⟨List.cons_ne_nil _ _,.inl rfl⟩] at hcs;refine zb ?_;rw [show (Yv (nth Y v)).set 0 (zej (x::r))=Yv (x::r) from rfl,← List.map_set,hYs];refine ⟨w+1,by omega,by omega,?_⟩;rw [hcs];obtain ⟨Q,hQ⟩:∃ Q,(X.set v (x::r)).map Yv=Q:=⟨_,rfl⟩
        rw [hQ];exact (FLe.cv [⟨100,some 100,0,⟨0,.own,22,1,Q⟩⟩] zf zd)
       ·refine zb ?_;rw [hYn];refine zS (zkZ (x::r) (y::s) za za) (by repeat (first|exact zu.nil|refine zu.cons zm ?_)) rfl ⟨_,_,rfl,rfl,rfl⟩ ?_;refine zb ?_;refine FW.cond rfl (fun h1=>?_) (fun h1=>?_)
        ·rw [if_pos ⟨List.cons_ne_nil _ _,.inr h1⟩] at hcs;refine zb ?_;rw [show (Yv (nth Y v)).set 0 (zej (x::r))=Yv (x::r) from rfl,← List.map_set,hYs];refine ⟨w+1,by omega,by omega,?_⟩;rw [hcs];obtain ⟨Q,hQ⟩:∃ Q,(X.set v (x::r)).map Yv=Q:=⟨_,rfl⟩
         rw [hQ];exact (FLe.cv [⟨100,some 100,0,⟨0,.own,22,1,Q⟩⟩] zf zd)
        ·rw [if_neg (fun q=>by rcases q.2 with q|q;cases q;rw [h1] at q;cases q)] at hcs;refine zb ?_;refine ⟨w+1,by omega,by omega,?_⟩;rw [hcs,hY];exact (FLe.cv [⟨100,some 100,0,⟨0,.own,22,1,Y.map Yv⟩⟩] zf zd)
   ·obtain rfl:w=n:=by simp at h;omega
    rw [hC] at hXs;refine zb ?_;refine ⟨v+1,by omega,by omega,?_⟩;rw [← hXs,hY];exact (FLe.cv [⟨100,some 100,0,⟨0,.own,22,1,Y.map Yv⟩⟩] zf zd)
  ·obtain rfl:v=n:=by simp at h;omega
   refine zb ?_;refine ⟨k+1,by omega,by omega,?_⟩;rw [hkk,hws];have hNl:=Wl E O tg ab kk v v;generalize xW E O tg ab kk v v=N at hNl;refine (FLe.share 11 rfl rfl (by rw [List.length_map,hNl])).trans ?_;exact (FLe.cv [] zB zd)
 ·obtain rfl:k=len:=by simp at h;omega
  refine zb ?_;exact FW.ret ⟨.inl rfl,.sh (.cons (.tmp 10 rfl rfl) .nil) rfl rfl⟩
def Xy (E:List (Nat×Nat)) (n len s:Nat):List Int:=nth (yc E s s n len) s
def Zi (E:List (Nat×Nat)) (n len:Nat):Nat→Nat→List Int
 | 0, _ => []
 | k+1, s => if Xy E n len s=[] then Zi E n len k (s+1) else Xy E n len s
def Yq (E:List (Nat×Nat)) (n:Nat):Nat→Nat→List Int
 | 0, _ => []
 | k+1, len => if Zi E n len n 0=[] then Yq E n k (len+1) else Zi E n len n 0
def xE (E:List (Nat×Nat)) (n:Nat):List Int:=Yq E n n 1
theorem zgZ (n:Nat) (E:List (Nat×Nat)) (hn:n≤900) (hE:E.length≤1000000):zX Try.prog 46 [.int .i64 n,.list 2 (E.map edf)] .sh (.list 1 ((xE E n).map zD)):=by
 obtain ⟨R,hR⟩:∃ R,xE E n=R:=⟨_,rfl⟩
 rw [hR];refine zX.of_body (c:=(xx Try.prog zE zt 31)) ⟨Try.func46,rfl,Try.ntmps46,by kernel_rfl⟩ zH zw rfl ?_;change FW _ _ _ ⟨[(0,.int .i64 n),(1,.list 2 (E.map edf))],[]⟩;refine zb ?_;refine FW.loop (fun k:Nat=>⟨[(0,.int .i64 n),(1,.list 2 (E.map edf)),(5,.int .i64 (k+1:Nat))],[]⟩) (fun k=>k≤n∧Yq E n (n - k) (k+1)=R) (fun k=>n - k) 0 ⟨Nat.zero_le _,hR⟩ (FLe.cv [] zB zd) ?_;clear hR;rintro k ⟨hk,hR⟩;refine zb ?_;refine FW.cond rfl (fun h=>?_) (fun h=>?_)
 ·have hlt:k<n:=by simp at h;omega
  clear h;rw [show n - k=(n - (k+1))+1 by omega] at hR;unfold Yq at hR;obtain ⟨len,hlen⟩:∃ len,k+1=len:=⟨_,rfl⟩
  rw [hlen] at hR ⊢;obtain ⟨A,hA⟩:∃ A,Zi E n len n 0=A:=⟨_,rfl⟩
  rw [hA] at hR;refine zb ?_;refine FW.loop (fun s:Nat=>⟨[(0,.int .i64 n),(1,.list 2 (E.map edf)),(5,.int .i64 len),(6,.int .i64 s)],[]⟩) (fun s=>s≤n∧Zi E n len (n - s) s=A) (fun s=>n - s) 0 ⟨Nat.zero_le _,hA⟩ (FLe.cv [] zB zd) ?_;clear hA;rintro s ⟨hs,hS⟩;refine zb ?_;refine FW.cond rfl (fun h=>?_) (fun h=>?_)
  ·have hsn:s<n:=by simpa using h
   clear h;rw [show n - s=(n - (s+1))+1 by omega] at hS;unfold Zi at hS;refine zb ?_;refine yl (zjX n E s s len za hE za za za) (by repeat (first|exact zu.nil|refine zu.cons zm ?_)) rfl rfl ?_;have hwl:=Xl E s s n len;have hwr:=Ut E s s n len;have hca:Xy E n len s=nth (yc E s s n len) s:=rfl;generalize yc E s s n len=W at hwl hwr hca;have hrl:(nth W s).length≤len:=hwr _ (zC za);refine zb ?_;rcases hWs:nth W s with _|⟨x,r⟩
   ·rw [hWs] at hca;rw [hca,if_pos rfl] at hS;refine zb ?_;exact ⟨s+1,⟨by omega,hS⟩,by omega,(FLe.cv [] zB zd)⟩
   ·rw [hWs] at hca;rw [hca,if_neg (List.cons_ne_nil _ _)] at hS;rw [← hS,if_neg (List.cons_ne_nil _ _)] at hR;have hpos:decide ((((x::r).length:Nat):Int) > 0)=true:=by simp
    refine zb ?_;rw [hpos];refine zb ?_;rw [← hR];exact FW.ret ⟨.inl rfl,.sh (.cons (.tmp 4 rfl rfl) .nil) rfl rfl⟩
  ·obtain rfl:s=n:=by simp at h;omega
   rw [Nat.sub_self] at hS;have hA0:A=[]:=hS.symm;rw [if_pos hA0] at hR;refine zb ?_;exact ⟨k+1,⟨by omega,by rw [hlen];exact hR⟩,by omega,(FLe.cv [] zB zd)⟩
 ·obtain rfl:k=n:=by simp at h;omega
  rw [Nat.sub_self] at hR;subst hR;refine zb ?_;refine FW.le (s':=⟨[(4,.list 1 [])],[]⟩) ?_ (FLe.cv [] zB zd);exact FW.ret ⟨.inl rfl,.sh (.cons (.tmp 4 rfl rfl) .nil) rfl rfl⟩
end
theorem ziZ {E:List (Nat×Nat)} {a b:Nat}:ZW E a b=true↔(b:Int)∈zy E a:=by
 unfold ZW;rw [List.any_eq_true,xn];constructor
 ·rintro ⟨e,he,h⟩;simp only [Bool.and_eq_true,decide_eq_true_eq] at h;exact ⟨e,he,by omega,h.2⟩
 ·rintro ⟨e,he,h1,h2⟩;exact ⟨e,he,by simp only [Bool.and_eq_true,decide_eq_true_eq];omega⟩
def Wx (n:Nat) (E:List (Nat×Nat)) (s:Nat):Nat→Nat→Prop
 | 0, _ => False
 | 1, v => (s:Int) ∈ zy E v
 | k+2, v => ∃ w:Nat, w<n ∧ (w:Int) ∈ zy E v ∧ s<w ∧ Wx n E s (k+1) w
def znk (E:List (Nat×Nat)) (O:List (List Int)) (tg ab k v w:Nat):Prop:=ZW E v w=true∧xe O tg ab k v w≠[]
theorem Wb {E:List (Nat×Nat)} {O:List (List Int)} {s k v:Nat} (hh:∀ w,nth O w≠[]→∃ r,nth O w=(w:Int)::r):∀ j,(zeE E O s s k v j=[]∧∀ w,w<j→¬ znk E O s s k v w)∨∃ w,w<j∧znk E O s s k v w∧(∀ u,u<w→¬ znk E O s s k v u)∧zeE E O s s k v j=xe O s s k v w
 | 0 => .inl ⟨rfl, fun w hw => by omega⟩
 | j + 1=>by
  rw [zeF];rcases Wb (E:=E) (O:=O) (s:=s) (k:=k) (v:=v) hh j with ⟨e,h⟩|⟨w,h1,h2,h3,e⟩
  ·rw [e];unfold zbN;by_cases hc:znk E O s s k v j
   ·rw [if_pos ⟨hc.1,hc.2,.inl rfl⟩];exact .inr ⟨j,Nat.lt_succ_self _,hc,fun u hu=>h u hu,rfl⟩
   ·rw [if_neg (fun q=>hc ⟨q.1,q.2.1⟩)];refine .inl ⟨rfl,fun w hw=>?_⟩;by_cases hwj:w=j
    ·subst hwj;exact hc
    ·exact h w za
  ·rw [e];refine .inr ⟨w,by omega,h2,h3,?_⟩;unfold zbN;refine if_neg fun q=>?_;obtain ⟨q1,q2,q3⟩:=q;rcases q3 with q3|q3
   ·exact h2.2 q3
   ·have hw2:=h2.2;unfold xe at q2 q3 hw2;by_cases hk:k=1
    ·rw [if_pos hk] at q2 hw2;rw [if_pos hk,if_pos hk] at q3;by_cases e1:j=s
     ·by_cases e2:w=s
      ·omega
      ·rw [if_neg e2] at hw2;exact hw2 rfl
     ·rw [if_neg e1] at q2;exact q2 rfl
    ·rw [if_neg hk] at q2 hw2;rw [if_neg hk,if_neg hk] at q3;by_cases e1:s<j∧nth O j≠[]
     ·by_cases e2:s<w∧nth O w≠[]
      ·rw [if_pos e1,if_pos e2] at q3;obtain ⟨r1,f1⟩:=hh j e1.2;obtain ⟨r2,f2⟩:=hh w e2.2;rw [f1,f2] at q3;unfold Uc at q3;rw [if_pos rfl] at q3;unfold Uc at q3;rw [if_neg za] at q3;simp at q3;omega
      ·rw [if_neg e2] at hw2;exact hw2 rfl
     ·rw [if_neg e1] at q2;exact q2 rfl
theorem zbT {E:List (Nat×Nat)} {s n k v:Nat} (hv:v<n):nth (yc E s s n (k+1)) v=zeE E (yc E s s n k) s s (k+1) v n:=by
 have e:yc E s s n (k+1)=(List.range n).map fun v=>if v<n then zeE E (yc E s s n k) s s (k+1) v n else []:=rfl
 rw [e,nth_eq (by simpa using hv)];simp [hv]
theorem Uu {E:List (Nat×Nat)} {s n:Nat}:∀ (k w:Nat),nth (yc E s s n k) w≠[]→w<n∧∃ r,nth (yc E s s n k) w=(w:Int)::r
 | 0, w, h => by
  refine absurd ?_ h;rcases Nat.lt_or_ge w n with hw|hw
  ·rw [nth_eq (by simpa [yc] using hw)];simp [yc]
  ·unfold nth;rw [List.getD_eq_getElem?_getD,List.getElem?_eq_none (by simpa [yc] using hw)];rfl
 | k + 1,w,h=>by
  have hw:w<n:=by
   rcases Nat.lt_or_ge w n with hw|hw
   ·exact hw
   ·refine absurd ?_ h;unfold nth;rw [List.getD_eq_getElem?_getD,List.getElem?_eq_none (by rw [Xl];exact hw)];rfl
  refine ⟨hw,?_⟩;rw [zbT hw] at h ⊢;rcases Wb (E:=E) (s:=s) (k:=k+1) (v:=w) (fun u hu=>(Uu k u hu).2) n with ⟨e,_⟩|⟨u,_,hc,_,e⟩
  ·exact absurd e h
  ·rw [e];have h2:=hc.2;unfold xe at h2 ⊢;split at h2
   ·split at h2
    ·rename_i h3 h4;rw [if_pos h3,if_pos h4];exact ⟨_,rfl⟩
    ·exact absurd rfl h2
   ·split at h2
    ·rename_i h3 h4;rw [if_neg h3,if_pos h4];exact ⟨_,rfl⟩
    ·exact absurd rfl h2
theorem XY {E:List (Nat×Nat)} {s n k v w:Nat}:znk E (yc E s s n k) s s (k+1) v w↔(w:Int)∈zy E v∧if k=0 then w=s else s<w∧nth (yc E s s n k) w≠[]:=by
 unfold znk;rw [ziZ];refine and_congr Iff.rfl ?_;unfold xe;by_cases hk:k=0
 ·subst hk;rw [if_pos rfl,if_pos rfl];by_cases e:w=s
  ·rw [if_pos e];simp [e]
  ·rw [if_neg e];simp [e]
 ·rw [if_neg za,if_neg hk];by_cases e:s<w∧nth (yc E s s n k) w≠[]
  ·rw [if_pos e];simp [e.1,e.2]
  ·rw [if_neg e];constructor
   ·intro q;exact absurd rfl q
   ·intro q;exact absurd q e
theorem YT {n:Nat} {E:List (Nat×Nat)} (h:InN n E) {s:Nat} (hs:s<n):∀ (k v:Nat),v<n→(nth (yc E s s n (k+1)) v≠[]↔Wx n E s (k+1) v)
 | k,v,hv=>by
  rw [zbT hv];have hex:zeE E (yc E s s n k) s s (k+1) v n≠[]↔∃ w,w<n∧znk E (yc E s s n k) s s (k+1) v w:=by
   rcases Wb (E:=E) (s:=s) (k:=k+1) (v:=v) (fun u hu=>(Uu k u hu).2) n with ⟨e,hno⟩|⟨u,h1,hc,_,e⟩
   ·constructor
    ·intro q;exact absurd e q
    ·rintro ⟨w,h1,h2⟩;exact absurd h2 (hno w h1)
   ·constructor
    ·intro _;exact ⟨u,h1,hc⟩
    ·intro _;rw [e];exact hc.2
  rw [hex];cases k with
  | zero=>
   constructor
   ·rintro ⟨w,_,hc⟩;obtain ⟨c1,c2⟩:=XY.1 hc;rw [if_pos rfl] at c2;subst c2;exact c1
   ·intro hm;exact ⟨s,hs,XY.2 ⟨hm,by rw [if_pos rfl]⟩⟩
  | succ k=>
   constructor
   ·rintro ⟨w,hw,hc⟩;obtain ⟨c1,c2⟩:=XY.1 hc;rw [if_neg za] at c2;exact ⟨w,hw,c1,c2.1,(YT h hs k w hw).1 c2.2⟩
   ·rintro ⟨w,hw,hm,hsw,hx⟩;exact ⟨w,hw,XY.2 ⟨hm,by rw [if_neg za];exact ⟨hsw,(YT h hs k w hw).2 hx⟩⟩⟩
section
variable {n:Nat} {E:List (Nat×Nat)} (h:InN n E) {s:Nat} (hs:s<n)
include h hs
theorem Wx.dist:∀ (k w:Nat),w<n→s<w→Wx n E s (k+1) w→0≤nth (zY n E s) w∧nth (zY n E s) w≤(k+1:Nat)
 | 0, w, hw, hsw, hx => by
  have h0:=zhq h hs;have:=VU h hs hs hw (show (s:Int)∈zy E w from hx) hsw za;omega
 | k+1, w, hw, hsw, hx => by
  obtain ⟨u,hu,hm,hsu,hxu⟩:=hx;have h1:=Wx.dist k u hu hsu hxu;have:=VU h hs hu hw hm hsw h1.1;omega
theorem zdx:∀ (k w:Nat),w<n→nth (zY n E s) w=(k+1:Nat)→s<w∧Wx n E s (k+1) w
 | 0, w, hw, hd => by
  refine ⟨Vh h hs hw za,?_⟩;obtain ⟨u,hu,hm,hdu⟩:=zaB h hs hw za;have:u=s:=zcn h hs hu za;subst this;exact hm
 | k+1, w, hw, hd => by
  refine ⟨Vh h hs hw za,?_⟩;obtain ⟨u,hu,hm,hdu⟩:=zaB h hs hw za;obtain ⟨h1,h2⟩:=zdx k u hu za;exact ⟨u,hu,hm,h1,h2⟩
end
theorem zbL (d:List Int) (st:Int):∀ (row:List Int) (len:Int),0≤len→(0<len→row.foldl (yr d st) len≤len∧0<row.foldl (yr d st) len)∧∀ w∈row,st≤w→0≤nth d w.toNat→0<row.foldl (yr d st) len∧row.foldl (yr d st) len≤nth d w.toNat+1
 | [], len, _ => ⟨fun h => ⟨Int.le_refl _, h⟩, fun w hw => by cases hw⟩
 | x::row,len,h0=>by
  rw [List.foldl_cons];have hs:0≤yr d st len x∧(0<len→yr d st len x≤len∧0<yr d st len x)∧(st≤x→0≤nth d x.toNat→0<yr d st len x∧yr d st len x≤nth d x.toNat+1):=by
   unfold yr;split <;> rename_i hc
   ·refine ⟨by omega,fun _=>?_,fun _ _=>by omega⟩;rcases hc.2 with h|h <;> omega
   ·refine ⟨h0,fun _=>by omega,fun h1 h2=>?_⟩;have:¬ (len=0∨nth d x.toNat+1<len):=fun q=>hc ⟨⟨h1,h2⟩,q⟩;omega
  obtain ⟨i1,i2⟩:=zbL d st row (yr d st len x) hs.1;refine ⟨fun h=>?_,fun w hw h1 h2=>?_⟩
  ·have:=hs.2.1 h;have:=i1 this.2;omega
  ·rcases List.mem_cons.1 hw with rfl|hw
   ·have h3:=hs.2.2 h1 h2;have:=i1 h3.1;omega
   ·exact i2 w hw h1 h2
theorem WT {d:List Int} {st:Int} {row:List Int} {w:Int} (hw:w∈row) (h1:st≤w) (h2:0≤nth d w.toNat):0<xa d st row∧xa d st row≤nth d w.toNat+1:=(zbL d st row 0 (Int.le_refl _)).2 w hw h1 h2
theorem UD (p:Int→Bool) (r:List Int):∀ (k i j:Nat),Xp p r k i=(j:Int)→∀ q,i≤q→q<j→p (nth r q)=false
 | 0, i, j, h, q, _, _ => by
  have:(-1:Int)=j:=h;omega
 | k+1,i,j,h,q,h1,h2=>by
  unfold Xp at h;by_cases hp:p (nth r i)=true
  ·rw [if_pos hp] at h;omega
  ·rw [if_neg hp] at h;by_cases e:q=i
   ·subst e;simpa using hp
   ·exact UD p r k (i+1) j h q za h2
section
variable {n:Nat} {E:List (Nat×Nat)} (h:InN n E) {s:Nat} (hs:s<n)
include h hs
theorem zcI {L:Nat} (hx:Wx n E s (L+1) s):0<xa (zY n E s) s (zy E s)∧xa (zY n E s) s (zy E s)≤(L+1:Nat):=by
 cases L with
 | zero =>
  have h0:=zhq h hs;have:=WT (d:=zY n E s) (st:=s) (show (s:Int)∈zy E s from hx) (Int.le_refl _) (by rw [Int.toNat_natCast];omega);rw [Int.toNat_natCast] at this;omega
 | succ L =>
  obtain ⟨w,hw,hm,hsw,hxw⟩:=hx;have hd:=Wx.dist h hs L w hw hsw hxw;have:=WT (d:=zY n E s) (st:=s) hm za (by rw [Int.toNat_natCast];omega);rw [Int.toNat_natCast] at this;omega
theorem zdj {L:Nat} (hL:xa (zY n E s) s (zy E s)=(L+1:Nat)):Wx n E s (L+1) s:=by
 rcases Ud (zY n E s) s (zy E s) with e|⟨w,hw,h1,h2,h3⟩
 ·omega
 ·have hin:=yA h hw;obtain ⟨w,rfl⟩:∃ w' : Nat,w=w':=⟨w.toNat,by omega⟩
  rw [Int.toNat_natCast] at h2 h3;cases L with
  | zero =>
   have:w=s:=zcn h hs za za;subst this;exact hw
  | succ L =>
   obtain ⟨k1,k2⟩:=zdx h hs L w za za;exact ⟨w,by omega,hw,k1,k2⟩
theorem zih:∀ (k v:Nat),v<n→Wx n E s (k+1) v→(∀ w:Nat,(w:Int)∈zy E v→s<w→0≤nth (zY n E s) w→(k:Int)≤nth (zY n E s) w)→nth (yc E s s n (k+1)) v=(v:Int)::Yk E (zY n E s) s k v
 | k, v, hv,hx,hmin=>by
  have hne:=(YT h hs k v hv).2 hx;rw [zbT hv] at hne ⊢;rcases Wb (E:=E) (s:=s) (k:=k+1) (v:=v) (fun u hu=>(Uu k u hu).2) n with ⟨e,_⟩|⟨u,hu,hc,hfirst,e⟩
  ·exact absurd e hne
  ·rw [e];obtain ⟨c1,c2⟩:=XY.1 hc;cases k with
   | zero =>
    rw [if_pos rfl] at c2;unfold xe;rw [if_pos rfl,if_pos c2];rfl
   | succ k=>
    rw [if_neg za] at c2;have hxu:=(YT h hs k u hu).1 c2.2;have hdu:=Wx.dist h hs k u hu c2.1 hxu;have hmu:=hmin u c1 c2.1 hdu.1;have hdu' : nth (zY n E s) u=(k+1:Nat):=by omega
    have hon:WU (zY n E s) s (k+1:Nat) u=true:=by
     unfold WU;rw [decide_eq_true_eq,Int.toNat_natCast];exact ⟨by omega,hdu'⟩
    obtain ⟨j,hj,hfx,hpj⟩:=WQ c1 hon;have hin:=yA h (zC hj);obtain ⟨x,hxn⟩:∃ x:Nat,nth (zy E v) j=x:=⟨(nth (zy E v) j).toNat,by omega⟩
    have hux:u=x:=by
     rw [hxn] at hpj hin;unfold WU at hpj;rw [decide_eq_true_eq,Int.toNat_natCast] at hpj;have hxm:(x:Int)∈zy E v:=by rw [← hxn];exact zC hj
     obtain ⟨_,hwx⟩:=zdx h hs k x za hpj.2;have hcx:znk E (yc E s s n (k+1)) s s (k+1+1) v x:=XY.2 ⟨hxm,by rw [if_neg za];exact ⟨by omega,(YT h hs k x za).2 hwx⟩⟩;rcases Nat.lt_trichotomy u x with hlt|heq|hgt
     ·-- u stands ahead of x in the row,and UE takes the first
      obtain ⟨q,hq,hqu⟩:=List.getElem_of_mem c1;have hqj:q<j:=by
       rcases Nat.lt_or_ge q j with q1|q1
       ·exact q1
       ·have hasc:=List.pairwise_iff_getElem.1 (zf4 E v);rcases Nat.lt_or_ge j q with q2|q2
        ·have:=hasc j q hj hq q2;rw [← nth_eq hj,hxn,hqu] at this;omega
        ·obtain rfl:q=j:=by omega
         rw [nth_eq hq,hqu] at hxn;omega
      have:=UD (WU (zY n E s) s (k+1:Nat)) (zy E v) (zy E v).length 0 j hfx q (Nat.zero_le _) hqj;rw [nth_eq hq,hqu] at this;rw [hon] at this;cases this
     ·exact heq
     ·exact absurd hcx (hfirst x hgt)
    have hstep:xL E (zY n E s) s (k+1:Nat) v=u:=by
     unfold xL;rw [hfx,Int.toNat_natCast,hxn,hux,Int.toNat_natCast]
    show xe (yc E s s n (k+1)) s s (k+1+1) v u=(v:Int)::Yk E (zY n E s) s (k+1) v;unfold xe;rw [if_neg za,if_pos c2];have ih:=zih k u hu hxu fun w hw hsw h0=>by
     have hwin:=yA h hw;have:=VU h hs (u:=w) (v:=u) za hu hw c2.1 h0;omega
    rw [ih];show _=(v:Int)::((xL E (zY n E s) s (k+1:Nat) v:Nat):Int)::Yk E (zY n E s) s k (xL E (zY n E s) s (k+1:Nat) v);rw [hstep]
end
theorem zi3 (d:List Int) (st:Int) (row:List Int):0≤xa d st row:=by
 rcases Ud d st row with e|⟨w,_,_,h2,h3⟩ <;> omega
def lenOf (n:Nat) (E:List (Nat×Nat)) (s:Nat):Int:=xa (zY n E s) s (zy E s)
section
variable {n:Nat} {E:List (Nat×Nat)} (h:InN n E)
include h
theorem zdK {s:Nat} (hs:s<n) (h0:lenOf n E s≠0):∃ K:Nat,lenOf n E s=(K+1:Nat)∧K<n∧Xy E n (K+1) s=(s:Int)::Yk E (zY n E s) s K s:=by
 obtain ⟨K,hK,hKn,_⟩:=Xf h hs h0;refine ⟨K,hK,hKn,zih h hs K s hs (zdj h hs hK) fun w hw hsw hd=>?_⟩;have:=WT (d:=zY n E s) (st:=s) hw za (by rw [Int.toNat_natCast];exact hd);rw [Int.toNat_natCast,hK] at this;omega
theorem zei {s L:Nat} (hs:s<n) (h0:Xy E n (L+1) s≠[]):0<lenOf n E s∧lenOf n E s≤(L+1:Nat):=zcI h hs ((YT h hs L s hs).1 h0)
theorem zaa:∀ i,i≤n→(zen n E i=[]∧∀ s,s<i→lenOf n E s=0)∨∃ s0 K,s0<i∧lenOf n E s0=((K+1:Nat):Int)∧zen n E i=(s0:Int)::Yk E (zY n E s0) s0 K s0∧(∀ s,s<i→lenOf n E s≠0→((K+1:Nat):Int)≤lenOf n E s)∧∀ s,s<s0→lenOf n E s≠0→((K+1:Nat):Int)<lenOf n E s
 | 0, _ => .inl ⟨rfl, fun s hs => by omega⟩
 | i + 1,hi=>by
  rw [zaC];have hL:xa (zY n E i) i (zy E i)=lenOf n E i:=rfl;have hnn:0≤lenOf n E i:=zi3 _ _ _;unfold WN;dsimp only;rw [hL];rcases zaa i za with ⟨e,hz⟩|⟨s0,K,h1,h2,e,h4,h5⟩
  ·rw [e];by_cases h0:lenOf n E i=0
   ·rw [if_pos (.inl h0)];refine .inl ⟨rfl,fun s hs=>?_⟩;by_cases hsi:s=i
    ·subst hsi;exact h0
    ·exact hz s za
   ·rw [if_neg (by rintro (q|q);exact h0 q;exact q.1 rfl)];obtain ⟨K,hK,_,_⟩:=zdK h za h0;refine .inr ⟨i,K,Nat.lt_succ_self _,hK,by rw [hK,Int.toNat_natCast];rfl,fun s hs hne=>?_,fun s hs hne=>absurd (hz s hs) hne⟩;by_cases hsi:s=i
    ·subst hsi;omega
    ·exact absurd (hz s za) hne
  ·have hlen:(zen n E i).length=K+1:=by rw [e,List.length_cons,VN]
   by_cases hc:lenOf n E i=0∨(zen n E i≠[]∧((zen n E i).length:Int)≤lenOf n E i)
   ·rw [if_pos hc];refine .inr ⟨s0,K,by omega,h2,e,fun s hs hne=>?_,h5⟩;by_cases hsi:s=i
    ·subst hsi;rcases hc with q|q
     ·exact absurd q hne
     ·rw [hlen] at q;exact q.2
    ·exact h4 s za hne
   ·rw [if_neg hc];have h0:lenOf n E i≠0:=fun q=>hc (.inl q);have hlt:lenOf n E i<((K+1:Nat):Int):=by
     have:¬ ((zen n E i).length:Int)≤lenOf n E i:=fun q=>hc (.inr ⟨by rw [e];exact List.cons_ne_nil _ _,q⟩);rw [hlen] at this;omega
    obtain ⟨K',hK,_,_⟩:=zdK h za h0;refine .inr ⟨i,K',Nat.lt_succ_self _,hK,by rw [hK,Int.toNat_natCast];rfl,fun s hs hne=>?_,fun s hs hne=>?_⟩
    ·by_cases hsi:s=i
     ·subst hsi;omega
     ·have:=h4 s za hne;omega
    ·have:=h4 s hs hne;omega
end
theorem VV {E:List (Nat×Nat)} {n len:Nat}:∀ (k s:Nat),(∀ u,s≤u→u<s+k→Xy E n len u=[])→Zi E n len k s=[]
 | 0, _, _ => rfl
 | k+1, s, h => by
  unfold Zi;rw [if_pos (h s (Nat.le_refl _) za)];exact VV k (s+1) fun u h1 h2=>h u za za
theorem Uz {E:List (Nat×Nat)} {n len s0:Nat} (h0:Xy E n len s0≠[]):∀ (k s:Nat),s≤s0→s0<s+k→(∀ u,s≤u→u<s0→Xy E n len u=[])→Zi E n len k s=Xy E n len s0
 | 0, s, h1, h2, _ => by omega
 | k+1,s,h1,h2,h=>by
  unfold Zi;by_cases e:s=s0
  ·subst e;rw [if_neg h0]
  ·rw [if_pos (h s (Nat.le_refl _) za)];exact Uz h0 k (s+1) za za fun u q1 q2=>h u za q2
theorem zaD {E:List (Nat×Nat)} {n:Nat}:∀ (k len:Nat),(∀ l,len≤l→l<len+k→Zi E n l n 0=[])→Yq E n k len=[]
 | 0, _, _ => rfl
 | k+1, len, h => by
  unfold Yq;rw [if_pos (h len (Nat.le_refl _) za)];exact zaD k (len+1) fun u h1 h2=>h u za za
theorem Vj {E:List (Nat×Nat)} {n l0:Nat} (h0:Zi E n l0 n 0≠[]):∀ (k len:Nat),len≤l0→l0<len+k→(∀ l,len≤l→l<l0→Zi E n l n 0=[])→Yq E n k len=Zi E n l0 n 0
 | 0, len, h1, h2, _ => by omega
 | k+1,len,h1,h2,h=>by
  unfold Yq;by_cases e:len=l0
  ·subst e;rw [if_neg h0]
  ·rw [if_pos (h len (Nat.le_refl _) za)];exact Vj h0 k (len+1) za za fun u q1 q2=>h u za q2
theorem zab {n:Nat} {E:List (Nat×Nat)} (h:InN n E):zeY n E=xE E n:=by
 rcases zaa h n (Nat.le_refl _) with ⟨e,hz⟩|⟨s0,K,h1,h2,e,h4,h5⟩
 ·show zen n E n=_;rw [e];refine (zaD n 1 fun l hl1 hl2=>VV n 0 fun u _ hu=>?_).symm;obtain ⟨l,rfl⟩:∃ l',l=l'+1:=⟨l - 1,by omega⟩
  by_cases hc:Xy E n (l+1) u=[]
  ·exact hc
  ·have:=zei h za hc;have:=hz u za;omega
 ·show zen n E n=_;rw [e];obtain ⟨K',hK',hKn,hw⟩:=zdK h h1 za;obtain rfl:K'=K:=by omega
  have hne:Xy E n (K'+1) s0≠[]:=by rw [hw];exact List.cons_ne_nil _ _
  have hrow:Zi E n (K'+1) n 0=Xy E n (K'+1) s0:=Uz hne n 0 (Nat.zero_le _) za fun u _ hu=>by
   by_cases hc:Xy E n (K'+1) u=[]
   ·exact hc
   ·have q:=zei h za hc;have:=h5 u hu za;omega
  unfold xE;rw [Vj (l0:=K'+1) (by rw [hrow];exact hne) n 1 za za fun l hl1 hl2=>VV n 0 fun u _ hu=>?_,hrow,hw];obtain ⟨l,rfl⟩:∃ l',l=l'+1:=⟨l - 1,by omega⟩
  by_cases hc:Xy E n (l+1) u=[]
  ·exact hc
  ·have q:=zei h za hc;have:=h4 u za za;omega
section
open Go.RowKit
theorem zgr (n:Nat) (E:List (Nat×Nat)) (hn:n≤14) (hE:E.length≤1000) (hin:InN n E):zX Try.prog 56 [.int .i64 n,.list 2 (E.map edf)] .sh (.list 1 ((xE E n).map zD)):=by
 rw [← zab hin];exact ziw n E hn hE hin
end
section
variable {E E' : List (Nat×Nat)} (h:∀ e,e∈E↔e∈E')
include h
theorem zgL:ZW E=ZW E':=by
 funext a b;unfold ZW;rw [Bool.eq_iff_iff,List.any_eq_true,List.any_eq_true];exact ⟨fun ⟨e,he,hp⟩=>⟨e,(h e).1 he,hp⟩,fun ⟨e,he,hp⟩=>⟨e,(h e).2 he,hp⟩⟩
theorem zg1:YL E=YL E':=by
 funext a b;unfold YL;rw [Bool.eq_iff_iff,List.all_eq_true,List.all_eq_true];exact ⟨fun H e he=>H e ((h e).2 he),fun H e he=>H e ((h e).1 he)⟩
theorem zbS (tg ab n:Nat):∀ k,yc E tg ab n k=yc E' tg ab n k
 | 0 => rfl
 | k+1 => by
  show xW E _ _ _ _ _ _=xW E' _ _ _ _ _ _;rw [zbS tg ab n k];unfold xW zeE zbN;rw [zgL h]
theorem zgm (n len s:Nat):Xy E n len s=Xy E' n len s:=by unfold Xy;rw [zbS h]
theorem Uy (n len:Nat):∀ k s,Zi E n len k s=Zi E' n len k s
 | 0, _ => rfl
 | k+1, s => by
  show (if _ then _ else _)=(if _ then _ else _)
  rw [zgm h,Uy n len k]
theorem Vi (n:Nat):∀ k len,Yq E n k len=Yq E' n k len
 | 0, _ => rfl
 | k+1, len => by
  show (if _ then _ else _)=(if _ then _ else _)
  rw [Uy h,Vi n k]
theorem XI (n:Nat):xE E n=xE E' n:=Vi h n n 1
theorem zbE (n:Nat):∀ k out,rtK E n k out=rtK E' n k out
 | 0, _ => rfl
 | k+1, out => by
  have e:WD E out=WD E' out:=by funext v;unfold WD;rw [zg1 h]
  show (if _ then _ else _)=(if _ then _ else _)
  rw [e,zbE n k]
end
section
open Go.RowKit
def znS (sz:Nat):List (List FV)→FV
 | [] => .nil
 | e :: es => .list sz (e :: es)
def YS (ck cls arg:Int) (ord:List Nat) (ed:List EdC):List FV:=[.int .i64 ck,.int .i64 cls,.int .i64 arg,znS 1 (ord.map yp),znS 3 (ed.map EdC.fv)]
def zfL (l:List OpV):FV:=zjv l (.list 1 ((zO l l.length).map yp)) (.list 1 ((List.range l.length).map fun q=>[xk (KC l q)]))
def zjT (l:List OpV):FV:=match WY l with
 | some i => .tup [.agg (YS 0 2 (nth l i).key [i] []), .bool true]
 | none => .tup [.agg (YS 0 0 0 [] []), .bool false]
theorem xi {α:Type} [Inhabited α] {p:α→Bool} {l:List α} {j:Nat} (h:∀ i,i<j→p (nth l i)=false) (hj:j<l.length) (hp:p (nth l j)=true):l.find? p=some (nth l j):=by
 rw [nth_eq hj] at hp ⊢;have:l=l.take j++l[j]::l.drop (j+1):=by rw [← List.drop_eq_getElem_cons hj,List.take_append_drop]
 rw [List.find?_eq_some_iff_append];refine ⟨hp,l.take j,l.drop (j+1),this,fun a ha=>?_⟩;obtain ⟨i,hi,rfl⟩:=List.getElem_of_mem ha;have hij:i<j:=by rw [List.length_take] at hi;omega
 have:=h i hij;rw [nth_eq za] at this;rw [List.getElem_take,this];rfl
theorem xO {α:Type} [Inhabited α] {p:α→Bool} {l:List α} (h:∀ i,i<l.length→p (nth l i)=false):l.find? p=none:=by
 rw [List.find?_eq_none];intro x hx;obtain ⟨i,hi,rfl⟩:=List.getElem_of_mem hx;have:=h i hi;rw [nth_eq hi] at this;simp [this]
theorem zl5 (l:List OpV) (hl:l.length≤1000) (hin:∀ o∈l,Ve o):zX Try.prog 32 [zfL l] .sh (zjT l):=by
 obtain ⟨F3,hF3⟩:∃ F3,F3=FV.list 1 ((List.range l.length).map fun q=>[xk (KC l q)]):=⟨_,rfl⟩
 obtain ⟨I,hI⟩:∃ I,I=zO l l.length:=⟨_,rfl⟩
 have hfr:=fun i hi=>zaT l (.list 1 (I.map yp)) F3 rfl (by rw [hF3];rfl) i hi za hin;have hIl:I.length≤l.length:=by rw [hI];exact YB l l.length
 have hIm:∀ j,j<I.length→nth I j<l.length:=fun j hj=>by have:=zC hj;rw [hI] at this ⊢;exact xt this
 unfold zfL;rw [← hF3,← hI];obtain ⟨R,hR⟩:∃ R,zjT l=R:=⟨_,rfl⟩
 have hRh:R.hand=none:=by rw [← hR];unfold zjT;split <;> rfl
 rw [hR];have hyes:∀ j,j<I.length→(∀ i,i<j→XS l (nth I i)=false)→XS l (nth I j)=true→R=.tup [.agg (YS 0 2 (nth l (nth I j)).key [nth I j] []),.bool true]:=fun j h1 h2 h3=>by
  rw [← hR];unfold zjT WY;rw [← hI,xi h2 h1 h3]
 have hno:(∀ i,i<I.length→XS l (nth I i)=false)→R=.tup [.agg (YS 0 0 0 [] []),.bool false]:=fun h=>by
  rw [← hR];unfold zjT WY;rw [← hI,xO h]
 clear hR;refine zX.of_body (c:=(xx Try.prog zE zt 51)) ⟨Try.func32,rfl,Try.ntmps32,by kernel_rfl⟩ (by simp [FV.hand,zjv]) zw hRh ?_;unfold zjv at hfr ⊢;change FW _ _ _ ⟨[(0,.eptr 4 [[.list 8 (l.map OpV.fv),.list 1 (I.map yp),.smap (yG l l.length),F3]] 0 0)],[]⟩;refine zb ?_;refine FW.loop (fun j:Nat=>⟨[(0,.eptr 4 [[.list 8 (l.map OpV.fv),.list 1 (I.map yp),.smap (yG l l.length),F3]] 0 0),(2,.ptr 102 0 0 0),(12,.list 1 (I.map yp)),(13,.int .i64 I.length),(14,.int .i64 j)],[(102,⟨0,.own,36,5,[[.int .i64 0,.int .i64 0,.int .i64 0,.nil,.nil]]⟩)]⟩) (fun j=>j≤I.length∧∀ i,i<j→XS l (nth I i)=false) (fun j=>I.length - j) 0 ⟨Nat.zero_le _,fun i hi=>absurd hi (Nat.not_lt_zero _)⟩ ?_ ?_
 ·exact (FLe.cv [⟨102,some 2,0+1,⟨0,.own,36,5,[[.int .i64 0,.int .i64 0,.int .i64 0,.nil,.nil]]⟩⟩] zf zd)
 rintro j ⟨hj,hpre⟩;refine zb ?_;refine FW.cond rfl (fun h=>?_) (fun h=>?_)
 ·have hjl:j<I.length:=by simpa using h
  clear h;have hyes:=hyes j hjl hpre;have hnext:XS l (nth I j)=false→∀ i,i<j+1→XS l (nth I i)=false:=fun h i hi=>by
   rcases Nat.lt_succ_iff_lt_or_eq.1 hi with h'|rfl
   ·exact hpre i h'
   ·exact h
  have hii:=hIm j hjl;obtain ⟨i,hi⟩:∃ i,nth I j=i:=⟨_,rfl⟩
  rw [hi] at hii hyes hnext;have hfr:=hfr i hii;have htb:XS l i=(decide ((nth l i).k=0) && decide ((nth l i).res≠0) && (yR l i).isNone):=rfl;unfold ziE at hfr;obtain ⟨o,ho⟩:∃ o,nth l i=o:=⟨_,rfl⟩
  rw [ho] at htb hyes;generalize yR l i=C at hfr htb;refine zb ?_;rw [hi];skip;rw [ho];skip;refine zS hfr (by repeat (first|exact zu.nil|refine zu.cons zm ?_)) rfl rfl ?_;refine zb ?_;refine zP (fun h1=>?_) (fun h1=>?_)
  ·refine zb ?_;refine zP (fun h2=>?_) (fun h2=>?_)
   ·refine zb ?_;refine FW.cond rfl (fun h3=>?_) (fun h3=>?_)
    ·have hCn:C.isNone=true:=by cases C with|none=>rfl|some w=>cases h3
     rw [hyes (by rw [htb,h1,h2,hCn];rfl)]
     (repeat (first|refine FW.seq ?_|refine FW.region ?_|refine zG rfl rfl rfl ?_|refine VG rfl rfl rfl rfl rfl rfl zg rfl rfl ?_|refine ZJ rfl rfl rfl rfl rfl xG rfl rfl rfl rfl rfl ?_|refine YM rfl rfl rfl rfl rfl rfl rfl rfl ?_))
     refine zn.le ?_ (FLe.share 46 rfl rfl rfl);refine zb ?_;exact FW.ret ⟨.inl rfl,.sh (.cons (zL rfl rfl rfl rfl rfl rfl zg) (.cons (.tmp 3 rfl rfl) .nil)) rfl rfl⟩
    ·have hCn:C.isNone=false:=by cases C with|none=>cases h3|some w=>rfl
     refine zb ?_;refine ⟨j+1,⟨by omega,hnext ?_⟩,by omega,(FLe.cv [⟨102,some 102,0,⟨0,.own,36,5,[[.int .i64 0,.int .i64 0,.int .i64 0,.nil,.nil]]⟩⟩] zf zd)⟩;rw [htb,hCn,Bool.and_false]
   ·refine zb ?_;refine ⟨j+1,⟨by omega,hnext ?_⟩,by omega,(FLe.cv [⟨102,some 102,0,⟨0,.own,36,5,[[.int .i64 0,.int .i64 0,.int .i64 0,.nil,.nil]]⟩⟩] zf zd)⟩;rw [htb,h2,Bool.and_false,Bool.false_and]
  ·refine zb ?_;refine ⟨j+1,⟨by omega,hnext ?_⟩,by omega,(FLe.cv [⟨102,some 102,0,⟨0,.own,36,5,[[.int .i64 0,.int .i64 0,.int .i64 0,.nil,.nil]]⟩⟩] zf zd)⟩;rw [htb,h1,Bool.false_and,Bool.false_and]
 ·have hje:j=I.length:=by simp at h;omega
  subst hje;rw [hno hpre];refine zb ?_;exact FW.ret ⟨.inl rfl,.sh (.cons (zL rfl rfl rfl rfl rfl rfl zg) (.cons (.tmp 3 rfl rfl) .nil)) rfl rfl⟩
end
end Go.Proofs.Ytmnmakhpjgjdaaa
