/-
  Some texts as one: FmRef03, TopoRef, FmWalks, FmCyc2.
-/
import Derived.Test.YtlnehfplfoikaaaZG
import Derived.Test.YtlnehfplfoikaaaZK
import Derived.Test.YtlnehfplfoikaaaZL
namespace Go.Proofs.Ytlnehfplfoikaaa
set_option linter.unusedVariables false
set_option maxHeartbeats 16000000
section
open Go.RowKit
def ZN (E:List (Nat×Nat)) (a b:Int):Bool:=E.any fun e=>decide ((e.1:Int)=a) && decide ((e.2:Int)=b)
theorem zez (E:List (Nat×Nat)) (a b:Int) (hE:E.length≤1000000):zY Try.prog 56 [.list 2 (E.map edf),.int .i64 a,.int .i64 b] .fr (.bool (ZN E a b)):=by
 refine zY.of_body (c:=(xa Try.prog zD zq 30)) ⟨Try.func56,rfl,Try.ntmps56,by kernel_rfl⟩ zC zp rfl ?_;change FW _ _ _ ⟨[(0,.list 2 (E.map edf)),(1,.int .i64 a),(2,.int .i64 b)],[]⟩;refine za ?_;refine FW.loop (fun i:Nat=>⟨[(0,.list 2 (E.map edf)),(1,.int .i64 a),(2,.int .i64 b),(7,.int .i64 i)],[]⟩) (fun i=>i≤E.length∧ZN (E.take i) a b=false) (fun i=>E.length - i) 0 ⟨Nat.zero_le _,rfl⟩ (FLe.cv [] zu zd) ?_;rintro i ⟨hi,hno⟩;refine za ?_;refine FW.cond rfl (fun h=>?_) (fun h=>?_)
 ·have hlt:i<E.length:=by simpa using h
  clear h;have hst:ZN (E.take (i+1)) a b=(decide (((nth E i).1:Int)=a) && decide (((nth E i).2:Int)=b)):=by
   unfold ZN at hno ⊢;rw [List.take_succ_eq_append_getElem hlt,List.any_append,hno,← nth_eq hlt];simp
  obtain ⟨⟨x,y⟩,he⟩:∃ e,nth E i=e:=⟨_,rfl⟩
  rw [he] at hst;refine za ?_;rw [he];skip;refine zJ (fun h1=>?_) (fun h1=>?_)
  ·refine za ?_;rw [he];skip;refine FW.cond rfl (fun h2=>?_) (fun h2=>?_)
   ·refine za ?_;have:ZN E a b=true:=by
     unfold ZN;refine List.any_eq_true.2 ⟨nth E i,zL hlt,?_⟩;rw [he];simp at h1 h2;simp [h1,h2]
    exact FW.ret ⟨.inl rfl,zm rfl rfl (by rw [this];rfl) rfl⟩
   ·refine za ?_;refine ⟨i+1,⟨by omega,?_⟩,by omega,(FLe.cv [] zu zd)⟩;rw [hst];simp at h2;simp [h2]
  ·refine za ?_;refine ⟨i+1,⟨by omega,?_⟩,by omega,(FLe.cv [] zu zd)⟩;rw [hst];simp at h1;simp [h1]
 ·have hi:i=E.length:=by simp at h;omega
  subst hi;rw [List.take_length] at hno;refine za ?_;exact FW.ret ⟨.inl rfl,zm rfl rfl (by rw [hno];rfl) rfl⟩
def zjD (e:Nat×Nat):Nat×Nat:=(min e.1 e.2,max e.1 e.2)
def zfN (E:List (Nat×Nat)):Nat→List (Nat×Nat)
 | 0 => E
 | k+1 => if k % 7=6 then zfN E k else (zfN E k).set k (zjD (nth (zfN E k) k))
theorem zbt (E:List (Nat×Nat)):∀ k,(zfN E k).length=E.length
 | 0 => rfl
 | k+1 => by
  unfold zfN;split
  ·exact zbt E k
  ·rw [List.length_set];exact zbt E k
def YG (E:List (Nat×Nat)) (v:Int) (out:List Int):Bool:=E.all fun e=>!decide ((e.2:Int)=v) || zew out e.1
theorem zeR (E:List (Nat×Nat)) (v:Int) (out:List Int) (hE:E.length≤1000000) (ho:out.length≤1000000):zY Try.prog 47 [.list 2 (E.map edf),.int .i64 v,.list 1 (out.map zj)] .fr (.bool (YG E v out)):=by
 refine zY.of_body (c:=(xa Try.prog zD zq 31)) ⟨Try.func47,rfl,Try.ntmps47,by kernel_rfl⟩ zC zp rfl ?_;change FW _ _ _ ⟨[(0,.list 2 (E.map edf)),(1,.int .i64 v),(2,.list 1 (out.map zj))],[]⟩;refine za ?_;refine FW.loop (fun i:Nat=>⟨[(0,.list 2 (E.map edf)),(1,.int .i64 v),(2,.list 1 (out.map zj)),(7,.int .i64 i)],[]⟩) (fun i=>i≤E.length∧YG (E.take i) v out=true) (fun i=>E.length - i) 0 ⟨Nat.zero_le _,rfl⟩ (FLe.cv [] zu zd) ?_;rintro i ⟨hi,hno⟩;refine za ?_;refine FW.cond rfl (fun h=>?_) (fun h=>?_)
 ·have hlt:i<E.length:=by simpa using h
  clear h;have hst:YG (E.take (i+1)) v out=(!decide (((nth E i).2:Int)=v) || zew out (nth E i).1):=by
   unfold YG at hno ⊢;rw [List.take_succ_eq_append_getElem hlt,List.all_append,hno,← nth_eq hlt];simp
  have hbad:(!decide (((nth E i).2:Int)=v) || zew out (nth E i).1)=false→YG E v out=false:=fun hb=>by
   unfold YG;refine List.all_eq_false.2 ⟨nth E i,zL hlt,?_⟩;rw [hb];decide
  refine za ?_;refine zJ (fun h1=>?_) (fun h1=>?_)
  ·refine za ?_;refine zV (zdE out (nth E i).1 zb) (by repeat (first|exact zx.nil|refine zx.cons zt ?_)) rfl ⟨_,_,rfl,rfl,rfl⟩ ?_;refine za ?_;refine FW.cond rfl (fun h2=>?_) (fun h2=>?_)
   ·refine za ?_;exact FW.ret ⟨.inl rfl,zm rfl rfl (by rw [hbad (by rw [h1];simpa using h2)];rfl) rfl⟩
   ·refine za ?_;refine ⟨i+1,⟨by omega,?_⟩,by omega,(FLe.cv [] zu zd)⟩;rw [hst,h1];simpa using h2
  ·refine za ?_;refine ⟨i+1,⟨by omega,?_⟩,by omega,(FLe.cv [] zu zd)⟩;rw [hst,h1];rfl
 ·have hi:i=E.length:=by simp at h;omega
  subst hi;rw [List.take_length] at hno;refine za ?_;exact FW.ret ⟨.inl rfl,zm rfl rfl (by rw [hno];rfl) rfl⟩
def zcs (p:Nat→Bool) (n:Nat):Nat→Int
 | 0 => -1
 | k+1 => if p (n - (k+1))=true then ((n - (k+1):Nat):Int) else zcs p n k
theorem zdL (p:Nat→Bool) (n:Nat):∀ k,-1≤zcs p n k∧zcs p n k≤n
 | 0 => by unfold zcs; omega
 | k+1 => by
  have:=zdL p n k;unfold zcs;split <;> omega
def XN (E:List (Nat×Nat)) (out:List Int) (v:Nat):Bool:=!zew out v && YG E v out
def rtK (E:List (Nat×Nat)) (n:Nat):Nat→List Int→Option (List Int)
 | 0, out => some out
 | k+1, out => if zcs (XN E out) n n<0 then none else rtK E n k (out ++ [zcs (XN E out) n n])
def zjd:Option (List Int)→FV
 | none => .tup [.list 1 [], .bool false]
 | some l => .tup [.list 1 (l.map zj), .bool true]
theorem zeL (n:Nat) (E:List (Nat×Nat)) (hn:n≤1000) (hE:E.length≤1000000):zY Try.prog 23 [.int .i64 n,.list 2 (E.map edf)] .sh (zjd (rtK E n n [])):=by
 obtain ⟨R,hR⟩:∃ R,rtK E n n []=R:=⟨_,rfl⟩
 rw [hR];have hres:(zjd R).hand=none:=by cases R <;> rfl
 refine zY.of_body (c:=(xa Try.prog zD zq 37)) ⟨Try.func23,rfl,Try.ntmps23,by kernel_rfl⟩ zC zp hres ?_;change FW _ _ _ ⟨[(0,.int .i64 n),(1,.list 2 (E.map edf))],[]⟩;refine za ?_;refine FW.loop (fun out:List Int=>⟨[(0,.int .i64 n),(1,.list 2 (E.map edf)),(6,.own 100 0 0 out.length)],[(100,⟨0,.own,3,1,out.map zj⟩)]⟩) (fun out=>∃ k,out.length+k=n∧rtK E n k out=R) (fun out=>n - out.length) [] ⟨n,by simp,hR⟩ ?_ ?_
 ·exact (FLe.cv [⟨100,none,0,⟨0,.own,3,1,[]⟩⟩] zf zd)
 clear hR;rintro out ⟨k,hk,hR⟩;refine za ?_;refine FW.cond rfl (fun h=>?_) (fun h=>?_)
 ·obtain ⟨k,rfl⟩:∃ k',k=k'+1:=⟨k - 1,by simp at h;omega⟩
  clear h;unfold rtK at hR;refine za ?_;refine FW.loop (fun j:Nat=>⟨[(0,.int .i64 n),(1,.list 2 (E.map edf)),(6,.own 100 0 0 out.length),(7,.int .i64 (zcs (XN E out) n j)),(8,.int .i64 ((n:Int) - 1 - j))],[(100,⟨0,.own,3,1,out.map zj⟩)]⟩) (fun j=>j≤n) (fun j=>n - j) 0 (Nat.zero_le _) ?_ ?_
  ·exact (FLe.cv [⟨100,some 100,0,⟨0,.own,3,1,out.map zj⟩⟩] zf zd)
  intro j hj;refine za ?_;refine FW.cond rfl (fun h=>?_) (fun h=>?_)
  ·have hlt:j<n:=by simp at h;omega
   clear h;obtain ⟨v,hv⟩:∃ v,n - (j+1)=v:=⟨_,rfl⟩
   have hvi:(n:Int) - 1 - j=v:=by omega
   have hst:zcs (XN E out) n (j+1)=if (!zew out v && YG E v out)=true then (v:Int) else zcs (XN E out) n j:=by
    show (if XN E out (n - (j+1))=true then ((n - (j+1):Nat):Int) else _)=_;rw [hv];rfl
   obtain ⟨L,hL⟩:∃ L,zcs (XN E out) n j=L:=⟨_,rfl⟩
   rw [hL] at hst ⊢;rw [hvi];refine za ?_;refine zV (zdE out v zb) yN rfl rfl ?_;refine za ?_;refine zJ (fun h1=>?_) (fun h1=>?_)
   ·refine za ?_;refine zV (zeR E v out hE zb) yN rfl ⟨_,_,rfl,rfl,rfl⟩ ?_;refine za ?_;rw [h1,Bool.true_and] at hst;refine FW.cond rfl (fun h2=>?_) (fun h2=>?_)
    ·rw [h2,if_pos rfl] at hst;refine za ?_;refine ⟨j+1,by omega,by omega,?_⟩;rw [hst];exact (FLe.cv [⟨100,some 100,0,⟨0,.own,3,1,out.map zj⟩⟩] zf zd)
    ·rw [h2,if_neg zg] at hst;refine za ?_;refine ⟨j+1,by omega,by omega,?_⟩;rw [hst];exact (FLe.cv [⟨100,some 100,0,⟨0,.own,3,1,out.map zj⟩⟩] zf zd)
   ·rw [h1,Bool.false_and,if_neg zg] at hst;refine za ?_;refine ⟨j+1,by omega,by omega,?_⟩;rw [hst];exact (FLe.cv [⟨100,some 100,0,⟨0,.own,3,1,out.map zj⟩⟩] zf zd)
  ·obtain rfl:j=n:=by simp at h;omega
   clear h hj;have hLr:=zdL (XN E out) j j;obtain ⟨L,hL⟩:∃ L,zcs (XN E out) j j=L:=⟨_,rfl⟩
   rw [hL] at hR hLr ⊢;refine za ?_;refine FW.cond rfl (fun h=>?_) (fun h=>?_)
   ·rw [if_pos (by simpa using h)] at hR;subst hR;refine za ?_;refine FW.le (s':=⟨[(4,.list 1 []),(5,.bool false)],[]⟩) ?_ (FLe.cv [] zu zd);exact FW.ret ⟨.inl rfl,.sh (.cons (.tmp 4 rfl rfl) (.cons (.tmp 5 rfl rfl) .nil)) rfl rfl⟩
   ·rw [if_neg (by simpa using h)] at hR;refine za ?_;refine ⟨out++[L],⟨k,by simp;omega,hR⟩,by simp;omega,?_⟩;rw [List.length_append,List.map_append];exact (FLe.cv [⟨100,some 35,0+1,⟨0,.own,3,1,out.map zj++[L].map zj⟩⟩] zf zd)
 ·obtain rfl:k=0:=by simp at h;omega
  unfold rtK at hR;subst hR;refine za ?_;refine FW.le ?_ (FLe.share 4 rfl rfl zc);exact FW.ret ⟨.inl rfl,.sh (.cons (.tmp 4 rfl rfl) (.cons (.tmp 5 rfl rfl) .nil)) rfl rfl⟩
end
theorem zbM (p:Nat→Bool) (n:Nat):∀ k,k≤n→(zcs p n k = -1∧∀ v,n - k≤v→v<n→p v=false)∨∃ v,zcs p n k=(v:Nat)∧n - k≤v∧v<n∧p v=true∧∀ u,n - k≤u→u<v→p u=false
 | 0, _ => .inl ⟨rfl, fun v h1 h2 => by omega⟩
 | k+1,hk=>by
  have ih:=zbM p n k zb;unfold zcs;by_cases hp:p (n - (k+1))=true
  ·rw [if_pos hp];exact .inr ⟨_,rfl,Nat.le_refl _,by omega,hp,fun u h1 h2=>by omega⟩
  ·rw [if_neg hp];have hp' : p (n - (k+1))=false:=by simpa using hp
   rcases ih with ⟨e,h⟩|⟨v,e,h1,h2,h3,h4⟩
   ·refine .inl ⟨e,fun v q1 q2=>?_⟩;by_cases hv:v=n - (k+1)
    ·subst hv;exact hp'
    ·exact h v zb q2
   ·refine .inr ⟨v,e,by omega,h2,h3,fun u q1 q2=>?_⟩;by_cases hv:u=n - (k+1)
    ·subst hv;exact hp'
    ·exact h4 u zb q2
theorem zgr {n:Nat} {E:List (Nat×Nat)} (h:InN n E) (out:List Int) (v:Nat):YG E v out=true↔zcq n E out v=0:=by
 unfold YG zcq;rw [List.all_eq_true,List.countP_eq_zero];constructor
 ·intro hr u hu hc;simp only [Bool.and_eq_true,decide_eq_true_eq] at hc;obtain ⟨e,he,h1,h2⟩:=yB.1 hc.2;have:=hr e he;subst h1;have h3:((e.2:Nat):Int)=(v:Int):=h2;rw [h3] at this;unfold zew at this;simp at this;exact hc.1 this
 ·intro hc e he;have hin:=h e he;by_cases hv:((e.2:Nat):Int)=v
  ·have:=hc e.1 (List.mem_range.2 hin.1);simp only [Bool.and_eq_true,decide_eq_true_eq,not_and] at this;unfold zew;by_cases hm:((e.1:Nat):Int)∈out
   ·simp [hm]
   ·exact absurd (yB.2 ⟨e,he,rfl,hv⟩) (this hm)
  ·simp [hv]
theorem TI.next {n:Nat} {E:List (Nat×Nat)} (hE:InN n E) {s:zaX} (h:TI n E s) (v:Nat) (hv:v<n):XN E s.out v=true↔(v:Int)∈s.h:=by
 rw [h.hM,Int.toNat_natCast,h.cnt v hv];unfold XN zew;rw [Bool.and_eq_true,zgr hE];constructor
 ·rintro ⟨h1,h2⟩;exact ⟨by omega,by simpa using h1,by omega⟩
 ·rintro ⟨_,h1,h2⟩;exact ⟨by simpa using h1,by omega⟩
theorem zd1 {n:Nat} {E:List (Nat×Nat)} (hE:InN n E):∀ (k f:Nat) (s:zaX),TI n E s→s.out.length+k=n→n<s.out.length+f→rtK E n k s.out=if (zZ E f s).out.length<n then none else some (zZ E f s).out
 | k, 0, s, h, _, hf => by have := h.le; omega
 | k, f+1,s,h,hk,hf=>by
  have hl:=zbM (XN E s.out) n n (Nat.le_refl _);by_cases h0:s.h=[]
  ·rw [Xz E (f+1) s h0];cases k with
   | zero =>
    rw [if_neg zb];rfl
   | succ k=>
    rw [if_pos zb];unfold rtK;rcases hl with ⟨e,_⟩|⟨v,e,_,h2,h3,_⟩
    ·rw [if_pos zb]
    ·have:=(h.next hE v h2).1 h3;rw [h0] at this;cases this
  ·obtain ⟨q,hq⟩:∃ q,s.h.length=q+1:=⟨s.h.length - 1,by have:=List.length_pos_iff.2 h0;omega⟩
   obtain ⟨v,hv,hvn,hvo,hm0,hmin,hD,hN,hR⟩:=h.first hq;have hvh:(v:Int)∈s.h:=by
    rw [h.hM];exact ⟨by omega,hvo,by rw [Int.toNat_natCast];exact hm0⟩
   have hso:(yF E s).out=s.out++[(v:Int)]:=by
    unfold yF;dsimp only;rw [show s.h.length - 1=q by omega,hv]
   have e1:zZ E (f+1) s=zZ E f (yF E s):=if_neg h0;cases k with
   | zero =>
    have:=xr hN hR;simp at this;omega
   | succ k=>
    have hlv:zcs (XN E s.out) n n=v:=by
     rcases hl with ⟨_,hno⟩|⟨u,e,_,h2,h3,h4⟩
     ·have:=hno v zb hvn;rw [(h.next hE v hvn).2 hvh] at this;cases this
     ·have hu:=(h.next hE u h2).1 h3;have hle:=hmin _ hu;rcases Nat.lt_or_ge v u with hlt|hge
      ·have:=h4 v zb hlt;rw [(h.next hE v hvn).2 hvh] at this;cases this
      ·rw [e];omega
    unfold rtK;rw [hlv,if_neg zb,← hso,e1];exact zd1 hE k f (yF E s) (h.step hE h0) (by rw [Yf];omega) (by rw [Yf];omega)
theorem zdh {n:Nat} {E:List (Nat×Nat)} (hE:InN n E):rtK E n n []=if (yq n E).length<n then none else some (yq n E):=
 zd1 hE n (n+1) (yn n E) (TI.start hE) (Nat.zero_add n) (by show n<0+(n+1);omega)
section
open Go.RowKit
def XL:List Int→List Int→Bool
 | x :: a, y :: b => if x=y then XL a b else decide (x<y)
 | [], b => decide (0<b.length)
 | _ :: _, [] => false
theorem zeA {a b:List Int} {i:Nat} (ha:i<a.length) (hb:i<b.length):XL (a.drop i) (b.drop i)=if nth a i=nth b i then XL (a.drop (i+1)) (b.drop (i+1)) else decide (nth a i<nth b i):=by
 rw [List.drop_eq_getElem_cons ha,List.drop_eq_getElem_cons hb,nth_eq ha,nth_eq hb];rfl
theorem zbK {a b:List Int} {i:Nat} (hi:i≤a.length) (h:¬ (i<a.length∧i<b.length)) (hb:i≤b.length):XL (a.drop i) (b.drop i)=decide ((a.length:Int)<b.length):=by
 rcases Nat.lt_or_ge i a.length with h1|h1
 ·have h2:b.length=i:=by omega
  rw [show b.drop i=[] from List.drop_of_length_le zb,List.drop_eq_getElem_cons h1];show false=_;simp;omega
 ·rw [List.drop_of_length_le h1];show decide (0<(b.drop i).length)=_;rw [List.length_drop];rcases Nat.lt_or_ge i b.length with h2|h2
  ·simp;omega
  ·simp;omega
theorem zga (a b:List Int) (ha:a.length≤1000000) (hb:b.length≤1000000):zY Try.prog 57 [.list 1 (a.map zj),.list 1 (b.map zj)] .fr (.bool (XL a b)):=by
 refine zY.of_body (c:=(xa Try.prog zD zq 41)) ⟨Try.func57,rfl,Try.ntmps57,by kernel_rfl⟩ zC zp rfl ?_;change FW _ _ _ ⟨[(0,.list 1 (a.map zj)),(1,.list 1 (b.map zj))],[]⟩;refine za ?_;refine FW.loop (fun i:Nat=>⟨[(0,.list 1 (a.map zj)),(1,.list 1 (b.map zj)),(5,.int .i64 i)],[]⟩) (fun i=>i≤a.length∧i≤b.length∧XL (a.drop i) (b.drop i)=XL a b) (fun i=>a.length - i) 0 ⟨Nat.zero_le _,Nat.zero_le _,rfl⟩ (FLe.cv [] zu zd) ?_;rintro i ⟨hi,hj,hR⟩;obtain ⟨R,hRR⟩:∃ R,XL a b=R:=⟨_,rfl⟩
 rw [hRR] at hR ⊢;refine za ?_;refine zJ (fun h1=>?_) (fun h1=>?_)
 ·have h1' : i<a.length:=by simpa using h1
  refine za ?_;refine FW.cond rfl (fun h2=>?_) (fun h2=>?_)
  ·have h2' : i<b.length:=by simpa using h2
   rw [zeA h1' h2'] at hR;refine yf ?_;refine ⟨by kernel_rfl,?_⟩;skip;refine FW.cond rfl (fun h3=>?_) (fun h3=>?_)
   ·rw [if_neg (by simpa using h3)] at hR;refine yf ?_;refine ⟨by kernel_rfl,?_⟩;skip;exact FW.ret ⟨.inl rfl,zm rfl rfl (congrArg FV.bool hR) rfl⟩
   ·rw [if_pos (by simpa using h3)] at hR;refine za ?_;exact ⟨i+1,⟨by omega,by omega,hR⟩,by omega,(FLe.cv [] zu zd)⟩
  ·rw [zbK hi (fun q=>by simp at h2;omega) hj] at hR;refine za ?_;exact FW.ret ⟨.inl rfl,zm rfl rfl (congrArg FV.bool hR) rfl⟩
 ·rw [zbK hi (fun q=>by simp at h1;omega) hj] at hR;refine za ?_;exact FW.ret ⟨.inl rfl,zm rfl rfl (congrArg FV.bool hR) rfl⟩
def zaV:List Int→FV
 | [] => .nil
 | x :: l => .list 1 ((x :: l).map zj)
def Zi (l:List Int):List FV:=[zaV l]
def yP (out:List (List Int)) (tg ab k v w:Nat):List Int:=if k=1 then (if w=tg then [(v:Int)] else []) else if ab<w∧nth out w≠[] then (v:Int)::nth out w else []
def Uz (E:List (Nat×Nat)) (out:List (List Int)) (tg ab k v:Nat) (cur:List Int) (w:Nat):List Int:=
 if ZN E v w=true∧yP out tg ab k v w≠[]∧(cur=[]∨XL (yP out tg ab k v w) cur=true) then yP out tg ab k v w else cur
def zcr (E:List (Nat×Nat)) (out:List (List Int)) (tg ab k v j:Nat):List Int:=(List.range j).foldl (Uz E out tg ab k v) []
def xO (E:List (Nat×Nat)) (out:List (List Int)) (tg ab k n i:Nat):List (List Int):=(List.range n).map fun v=>if v<i then zcr E out tg ab k v n else []
def yc (E:List (Nat×Nat)) (tg ab n:Nat):Nat→List (List Int)
 | 0 => List.replicate n []
 | k+1 => xO E (yc E tg ab n k) tg ab (k+1) n n
theorem Yu (E:List (Nat×Nat)) (out:List (List Int)) (tg ab k n i:Nat):(xO E out tg ab k n i).length=n:=by simp [xO]
theorem ZI (E:List (Nat×Nat)) (tg ab n:Nat):∀ k,(yc E tg ab n k).length=n
 | 0 => by simp [yc]
 | k+1 => Yu _ _ _ _ _ _ _
theorem zai {out:List (List Int)} {tg ab k v w B:Nat} (h:∀ r∈out,r.length≤B):(yP out tg ab k v w).length≤B+1:=by
 have hn:(nth out w).length≤B:=by
  rcases Nat.lt_or_ge w out.length with hw|hw
  ·exact h _ (zL hw)
  ·have:nth out w=[]:=by unfold nth;rw [List.getD_eq_getElem?_getD,List.getElem?_eq_none hw];rfl
   rw [this];exact Nat.zero_le _
 unfold yP;split
 ·split <;> simp
 ·split
  ·simp;omega
  ·simp
theorem zar {E:List (Nat×Nat)} {out:List (List Int)} {tg ab k v B:Nat} (h:∀ r∈out,r.length≤B):∀ j,(zcr E out tg ab k v j).length≤B+1
 | 0 => Nat.zero_le _
 | j+1=>by
  have e:zcr E out tg ab k v (j+1)=Uz E out tg ab k v (zcr E out tg ab k v j) j:=by
   unfold zcr;rw [List.range_succ,List.foldl_append];rfl
  rw [e];unfold Uz;split
  ·exact zai h
  ·exact zar h j
theorem Wa (E:List (Nat×Nat)) (tg ab n:Nat):∀ k,∀ r∈yc E tg ab n k,r.length≤k
 | 0 => fun r hr => by rw [List.eq_of_mem_replicate hr]; exact Nat.le_refl _
 | k+1 => fun r hr => by
  obtain ⟨v,_,rfl⟩:=List.mem_map.1 hr;split
  ·exact zar (Wa E tg ab n k) n
  ·simp
theorem zbd (E:List (Nat×Nat)) (out:List (List Int)) (tg ab k v j:Nat):zcr E out tg ab k v (j+1)=Uz E out tg ab k v (zcr E out tg ab k v j) j:=by
 unfold zcr;rw [List.range_succ,List.foldl_append];rfl
theorem zeI (E:List (Nat×Nat)) (out:List (List Int)) (tg ab k n i:Nat):(xO E out tg ab k n i).set i (zcr E out tg ab k i n)=xO E out tg ab k n (i+1):=by
 unfold xO;rw [Vw];refine List.map_congr_left fun v _=>?_;by_cases e:v=i
 ·subst e;rw [if_pos rfl,if_pos zb]
 ·rw [if_neg e];by_cases h:v<i
  ·rw [if_pos h,if_pos zb]
  ·rw [if_neg h,if_neg zb]
theorem zeH {E:List (Nat×Nat)} {out:List (List Int)} {tg ab k n i:Nat} (h:i<n):nth (xO E out tg ab k n i) i=[]:=by
 rw [nth_eq (by rw [Yu];exact h)];simp [xO]
theorem zfl (n:Nat) (E:List (Nat×Nat)) (tg ab len:Nat) (hn:n≤1000) (hE:E.length≤1000000) (ht:tg≤1000) (hab:ab≤1000) (hlen:len≤1000):zY Try.prog 48 [.int .i64 n,.list 2 (E.map edf),.int .i64 tg,.int .i64 ab,.int .i64 len] .sh (.list 1 ((yc E tg ab n len).map Zi)):=by
 refine zY.of_body (c:=(xa Try.prog zD zq 97)) ⟨Try.func48,rfl,Try.ntmps48,by kernel_rfl⟩ zC zp rfl ?_;change FW _ _ _ ⟨[(0,.int .i64 n),(1,.list 2 (E.map edf)),(2,.int .i64 tg),(3,.int .i64 ab),(4,.int .i64 len)],[]⟩;refine za ?_;refine FW.loop (fun k:Nat=>⟨[(0,.int .i64 n),(1,.list 2 (E.map edf)),(2,.int .i64 tg),(3,.int .i64 ab),(4,.int .i64 len),(11,.list 1 ((yc E tg ab n k).map Zi)),(12,.int .i64 (k+1:Nat))],[]⟩) (fun k=>k≤len) (fun k=>len - k) 0 (Nat.zero_le _) ?_ ?_
 ·rw [show List.replicate n [FV.nil]=(yc E tg ab n 0).map Zi by show _=(List.replicate n []).map Zi;rw [List.map_replicate];rfl];refine (FLe.share 11 rfl rfl (by rw [List.length_map,ZI])).trans ?_;exact (FLe.cv [] zu zd)
 intro k hk;have hwl:=ZI E tg ab n k;have hwr:=Wa E tg ab n k;have hws:yc E tg ab n (k+1)=xO E (yc E tg ab n k) tg ab (k+1) n n:=rfl;refine za ?_;refine FW.cond rfl (fun h=>?_) (fun h=>?_)
 ·have hlt:k<len:=by simp at h;omega
  clear h;obtain ⟨O,hO⟩:∃ O,yc E tg ab n k=O:=⟨_,rfl⟩
  rw [hO] at hwl hwr hws ⊢;obtain ⟨kk,hkk⟩:∃ kk,k+1=kk:=⟨_,rfl⟩
  rw [hkk] at hws ⊢;refine za ?_;rw [show List.replicate n [FV.nil]=(xO E O tg ab kk n 0).map Zi by
   unfold xO;rw [List.map_map,zbU];exact List.map_congr_left fun v _=>by simp [Zi,zaV]]
  refine FW.loop (fun v:Nat=>⟨[(0,.int .i64 n),(1,.list 2 (E.map edf)),(2,.int .i64 tg),(3,.int .i64 ab),(4,.int .i64 len),(11,.list 1 (O.map Zi)),(12,.int .i64 kk),(13,.own 100 0 0 n),(14,.int .i64 v)],[(100,⟨0,.own,22,1,(xO E O tg ab kk n v).map Zi⟩)]⟩) (fun v=>v≤n) (fun v=>n - v) 0 (Nat.zero_le _) ?_ ?_
  ·exact (FLe.cv [⟨100,some 25,0+1,⟨0,.own,22,1,(xO E O tg ab kk n 0).map Zi⟩⟩] zf zd)
  intro v hv;refine za ?_;refine FW.cond rfl (fun h=>?_) (fun h=>?_)
  ·have hvn:v<n:=by simpa using h
   clear h;have hX0:=zeH (E:=E) (out:=O) (tg:=tg) (ab:=ab) (k:=kk) hvn;have hXs:=zeI E O tg ab kk n v;have hXl:=Yu E O tg ab kk n v;generalize xO E O tg ab kk n v=X at hX0 hXs hXl;refine za ?_;refine FW.loop (fun w:Nat=>⟨[(0,.int .i64 n),(1,.list 2 (E.map edf)),(2,.int .i64 tg),(3,.int .i64 ab),(4,.int .i64 len),(11,.list 1 (O.map Zi)),(12,.int .i64 kk),(13,.own 100 0 0 n),(14,.int .i64 v),(15,.int .i64 w)],[(100,⟨0,.own,22,1,(X.set v (zcr E O tg ab kk v w)).map Zi⟩)]⟩) (fun w=>w≤n) (fun w=>n - w) 0 (Nat.zero_le _) ?_ ?_
   ·show FLe _ ⟨[(0,.int .i64 n),(1,.list 2 (E.map edf)),(2,.int .i64 tg),(3,.int .i64 ab),(4,.int .i64 len),(11,.list 1 (O.map Zi)),(12,.int .i64 kk),(13,.own 100 0 0 n),(14,.int .i64 v),(15,.int .i64 0)],[(100,⟨0,.own,22,1,(X.set v []).map Zi⟩)]⟩;rw [show X.set v []=X by rw [← hX0,nth_eq zb];exact List.set_getElem_self _];exact (FLe.cv [⟨100,some 100,0,⟨0,.own,22,1,X.map Zi⟩⟩] zf zd)
   intro w hw;have hcl:=zar (E:=E) (tg:=tg) (ab:=ab) (k:=kk) (v:=v) hwr w;have hcs:=zbd E O tg ab kk v w;obtain ⟨C,hC⟩:∃ C,zcr E O tg ab kk v w=C:=⟨_,rfl⟩
   rw [hC] at hcs hcl ⊢;have hYn:nth (X.set v C) v=C:=zR zb;have hYl:(X.set v C).length=n:=by rw [List.length_set];exact hXl
   have hYs:∀ C',(X.set v C).set v C'=X.set v C':=fun C'=>by rw [List.set_set]
   obtain ⟨Y,hY⟩:∃ Y,X.set v C=Y:=⟨_,rfl⟩
   rw [hY] at hYn hYl hYs ⊢;refine za ?_;refine FW.cond rfl (fun h=>?_) (fun h=>?_)
   ·have hwn:w<n:=by simpa using h
    clear h;refine za ?_;refine zV (zez E v w hE) (by repeat (first|exact zx.nil|refine zx.cons zt ?_)) rfl rfl ?_;refine za ?_;refine FW.cond rfl (fun h=>?_) (fun h=>?_)
    ·have hld:ZN E v w=false:=by simpa using h
     have hst:Uz E O tg ab kk v C w=C:=by unfold Uz;rw [if_neg (fun q=>by rw [hld] at q;cases q.1)]
     rw [hst] at hcs;refine za ?_;refine ⟨w+1,by omega,by omega,?_⟩;rw [hcs,hY];exact (FLe.cv [⟨100,some 100,0,⟨0,.own,22,1,Y.map Zi⟩⟩] zf zd)
    ·have hld:ZN E v w=true:=by simpa using h
     clear h;refine FW.skip ?_;refine FW.seq ?_;refine FW.region ?_;refine zO rfl rfl rfl ?_;refine zi.nil ?_;refine FW.seq ?_;refine FW.join (fun _:Unit=>⟨[(0,.int .i64 n),(1,.list 2 (E.map edf)),(2,.int .i64 tg),(3,.int .i64 ab),(4,.int .i64 len),(11,.list 1 (O.map Zi)),(12,.int .i64 kk),(13,.own 100 0 0 n),(14,.int .i64 v),(15,.int .i64 w),(16,zaV (if kk=1∧w=tg then [(v:Int)] else []))],[(100,⟨0,.own,22,1,Y.map Zi⟩)]⟩) (fun _=>True) ?_ (fun _ _=>?_)
     ·refine za ?_;refine zJ (fun h1=>?_) (fun h1=>?_)
      ·refine za ?_;refine FW.cond rfl (fun h2=>?_) (fun h2=>?_)
       ·refine za ?_;refine ⟨rfl,(),trivial,?_⟩;rw [if_pos ⟨by simp at h1;omega,by simp at h2;omega⟩];refine (FLe.share 16 rfl rfl (by rfl)).trans ?_;show FLe _ ⟨[(0,.int .i64 n),(1,.list 2 (E.map edf)),(2,.int .i64 tg),(3,.int .i64 ab),(4,.int .i64 len),(11,.list 1 (O.map Zi)),(12,.int .i64 kk),(13,.own 100 0 0 n),(14,.int .i64 v),(15,.int .i64 w),(16,.list 1 [[.int .i64 v]])],[(100,⟨0,.own,22,1,Y.map Zi⟩)]⟩;exact (FLe.cv [⟨100,some 100,0,⟨0,.own,22,1,Y.map Zi⟩⟩] zf zd)
       ·refine za ?_;refine ⟨rfl,(),trivial,?_⟩;rw [if_neg (fun q=>by simp at h2;omega)];show FLe _ ⟨[(0,.int .i64 n),(1,.list 2 (E.map edf)),(2,.int .i64 tg),(3,.int .i64 ab),(4,.int .i64 len),(11,.list 1 (O.map Zi)),(12,.int .i64 kk),(13,.own 100 0 0 n),(14,.int .i64 v),(15,.int .i64 w),(16,.nil)],[(100,⟨0,.own,22,1,Y.map Zi⟩)]⟩;exact (FLe.cv [⟨100,some 100,0,⟨0,.own,22,1,Y.map Zi⟩⟩] zf zd)
      ·refine za ?_;refine ⟨rfl,(),trivial,?_⟩;rw [if_neg (fun q=>by simp at h1;omega)];show FLe _ ⟨[(0,.int .i64 n),(1,.list 2 (E.map edf)),(2,.int .i64 tg),(3,.int .i64 ab),(4,.int .i64 len),(11,.list 1 (O.map Zi)),(12,.int .i64 kk),(13,.own 100 0 0 n),(14,.int .i64 v),(15,.int .i64 w),(16,.nil)],[(100,⟨0,.own,22,1,Y.map Zi⟩)]⟩;exact (FLe.cv [⟨100,some 100,0,⟨0,.own,22,1,Y.map Zi⟩⟩] zf zd)
     refine FW.seq ?_;refine FW.join (fun _:Unit=>⟨[(0,.int .i64 n),(1,.list 2 (E.map edf)),(2,.int .i64 tg),(3,.int .i64 ab),(4,.int .i64 len),(11,.list 1 (O.map Zi)),(12,.int .i64 kk),(13,.own 100 0 0 n),(14,.int .i64 v),(15,.int .i64 w),(16,zaV (yP O tg ab kk v w))],[(100,⟨0,.own,22,1,Y.map Zi⟩)]⟩) (fun _=>True) ?_ (fun _ _=>?_)
     ·obtain ⟨W1,hW1⟩:∃ W1,zaV (if kk=1∧w=tg then [(v:Int)] else [])=W1:=⟨_,rfl⟩
      have hh1:W1=.nil∨W1=.list 1 [[.int .i64 v]]:=by rw [← hW1];split;exact .inr rfl;exact .inl rfl
      rw [hW1];refine za ?_;refine zJ (fun h1=>?_) (fun h1=>?_)
      ·have hk1:¬ kk=1:=by simp at h1;omega
       unfold yP;rw [if_neg hk1];refine za ?_;refine zJ (fun h2=>?_) (fun h2=>?_)
       ·have haw:ab<w:=by simp at h2;omega
        have hol:(nth O w).length≤k:=hwr _ (zL zb);refine za ?_;rcases hOw:nth O w with _|⟨x,r⟩
        ·refine za ?_;refine ⟨rfl,(),trivial,?_⟩;rw [if_neg (fun q=>q.2 rfl)];rw [if_neg (fun q=>hk1 q.1)] at hW1;subst hW1;exact (FLe.cv [⟨100,some 100,0,⟨0,.own,22,1,Y.map Zi⟩⟩] zf zd)
        ·rw [hOw] at hol;have hrl:r.length+1≤k:=hol;have hpos:decide ((((x::r).length:Nat):Int) > 0)=true:=by simp
         refine za ?_;rw [hpos];refine za ?_;rw [hOw];refine za ?_;refine ⟨rfl,(),trivial,?_⟩;rw [if_pos ⟨haw,List.cons_ne_nil _ _⟩];refine (FLe.share 16 rfl rfl (by rfl)).trans ?_;obtain ⟨Q,hQ⟩:∃ Q,[[FV.int .i64 (v:Int)]]++(x::r).map zj=Q:=⟨_,rfl⟩
         rw [show zaV ((v:Int)::x::r)=.list 1 Q by rw [← hQ];rfl,hQ];exact (FLe.cv [⟨100,some 100,0,⟨0,.own,22,1,Y.map Zi⟩⟩] zf zd)
       ·refine za ?_;refine ⟨rfl,(),trivial,?_⟩;rw [if_neg (fun q=>by simp at h2;omega)];rw [if_neg (fun q=>hk1 q.1)] at hW1;subst hW1;exact (FLe.cv [⟨100,some 100,0,⟨0,.own,22,1,Y.map Zi⟩⟩] zf zd)
      ·have hk1:kk=1:=by simp at h1;omega
       refine za ?_;refine ⟨rfl,(),trivial,?_⟩;have:zaV (yP O tg ab kk v w)=W1:=by
        unfold yP;rw [if_pos hk1,← hW1];by_cases e:w=tg
        ·rw [if_pos e,if_pos ⟨hk1,e⟩]
        ·rw [if_neg e,if_neg (fun q=>e q.2)]
       rw [this];clear this hW1;rcases hh1 with rfl|rfl
       ·exact (FLe.cv [⟨100,some 100,0,⟨0,.own,22,1,Y.map Zi⟩⟩] zf zd)
       ·exact (FLe.cv [⟨100,some 100,0,⟨0,.own,22,1,Y.map Zi⟩⟩] zf zd)
     ·have hst:Uz E O tg ab kk v C w=if yP O tg ab kk v w≠[]∧(C=[]∨XL (yP O tg ab kk v w) C=true) then yP O tg ab kk v w else C:=by
       unfold Uz;by_cases q:yP O tg ab kk v w≠[]∧(C=[]∨XL (yP O tg ab kk v w) C=true)
       ·rw [if_pos ⟨hld,q⟩,if_pos q]
       ·rw [if_neg (fun q2=>q q2.2),if_neg q]
      rw [hst] at hcs;have hWl:(yP O tg ab kk v w).length≤k+1:=zai hwr;rcases hW:yP O tg ab kk v w with _|⟨x,r⟩
      ·rw [hW,if_neg (fun q=>q.1 rfl)] at hcs;refine za ?_;refine ⟨w+1,by omega,by omega,?_⟩;rw [hcs,hY];exact (FLe.cv [⟨100,some 100,0,⟨0,.own,22,1,Y.map Zi⟩⟩] zf zd)
      ·rw [hW] at hcs hWl;have hpos:decide ((((x::r).length:Nat):Int) > 0)=true:=by simp
       refine za ?_;rw [hpos];refine za ?_;rw [hYn];rcases C with _|⟨y,s⟩
       ·rw [if_pos ⟨List.cons_ne_nil _ _,.inl rfl⟩] at hcs;refine za ?_;rw [show (Zi (nth Y v)).set 0 (zaV (x::r))=Zi (x::r) from rfl,← List.map_set,hYs];refine ⟨w+1,by omega,by omega,?_⟩;rw [hcs];obtain ⟨Q,hQ⟩:∃ Q,(X.set v (x::r)).map Zi=Q:=⟨_,rfl⟩
        rw [hQ];exact (FLe.cv [⟨100,some 100,0,⟨0,.own,22,1,Q⟩⟩] zf zd)
       ·refine za ?_;rw [hYn];refine zV (zga (x::r) (y::s) zb zb) (by repeat (first|exact zx.nil|refine zx.cons zt ?_)) rfl ⟨_,_,rfl,rfl,rfl⟩ ?_;refine za ?_;refine FW.cond rfl (fun h1=>?_) (fun h1=>?_)
        ·rw [if_pos ⟨List.cons_ne_nil _ _,.inr h1⟩] at hcs;refine za ?_;rw [show (Zi (nth Y v)).set 0 (zaV (x::r))=Zi (x::r) from rfl,← List.map_set,hYs];refine ⟨w+1,by omega,by omega,?_⟩;rw [hcs];obtain ⟨Q,hQ⟩:∃ Q,(X.set v (x::r)).map Zi=Q:=⟨_,rfl⟩
         rw [hQ];exact (FLe.cv [⟨100,some 100,0,⟨0,.own,22,1,Q⟩⟩] zf zd)
        ·rw [if_neg (fun q=>by rcases q.2 with q|q;cases q;rw [h1] at q;cases q)] at hcs;refine za ?_;refine ⟨w+1,by omega,by omega,?_⟩;rw [hcs,hY];exact (FLe.cv [⟨100,some 100,0,⟨0,.own,22,1,Y.map Zi⟩⟩] zf zd)
   ·obtain rfl:w=n:=by simp at h;omega
    rw [hC] at hXs;refine za ?_;refine ⟨v+1,by omega,by omega,?_⟩;rw [← hXs,hY];exact (FLe.cv [⟨100,some 100,0,⟨0,.own,22,1,Y.map Zi⟩⟩] zf zd)
  ·obtain rfl:v=n:=by simp at h;omega
   refine za ?_;refine ⟨k+1,by omega,by omega,?_⟩;rw [hkk,hws];have hNl:=Yu E O tg ab kk v v;generalize xO E O tg ab kk v v=N at hNl;refine (FLe.share 11 rfl rfl (by rw [List.length_map,hNl])).trans ?_;exact (FLe.cv [] zu zd)
 ·obtain rfl:k=len:=by simp at h;omega
  refine za ?_;exact FW.ret ⟨.inl rfl,.sh (.cons (.tmp 10 rfl rfl) .nil) rfl rfl⟩
def YZ (E:List (Nat×Nat)) (n len s:Nat):List Int:=nth (yc E s s n len) s
def xJ (E:List (Nat×Nat)) (n len:Nat):Nat→Nat→List Int
 | 0, _ => []
 | k+1, s => if YZ E n len s=[] then xJ E n len k (s+1) else YZ E n len s
def ZS (E:List (Nat×Nat)) (n:Nat):Nat→Nat→List Int
 | 0, _ => []
 | k+1, len => if xJ E n len n 0=[] then ZS E n k (len+1) else xJ E n len n 0
def yO (E:List (Nat×Nat)) (n:Nat):List Int:=ZS E n n 1
theorem zc3 (n:Nat) (E:List (Nat×Nat)) (hn:n≤900) (hE:E.length≤1000000):zY Try.prog 24 [.int .i64 n,.list 2 (E.map edf)] .sh (.list 1 ((yO E n).map zj)):=by
 obtain ⟨R,hR⟩:∃ R,yO E n=R:=⟨_,rfl⟩
 rw [hR];refine zY.of_body (c:=(xa Try.prog zD zq 31)) ⟨Try.func24,rfl,Try.ntmps24,by kernel_rfl⟩ zC zp rfl ?_;change FW _ _ _ ⟨[(0,.int .i64 n),(1,.list 2 (E.map edf))],[]⟩;refine za ?_;refine FW.loop (fun k:Nat=>⟨[(0,.int .i64 n),(1,.list 2 (E.map edf)),(5,.int .i64 (k+1:Nat))],[]⟩) (fun k=>k≤n∧ZS E n (n - k) (k+1)=R) (fun k=>n - k) 0 ⟨Nat.zero_le _,hR⟩ (FLe.cv [] zu zd) ?_;clear hR;rintro k ⟨hk,hR⟩;refine za ?_;refine FW.cond rfl (fun h=>?_) (fun h=>?_)
 ·have hlt:k<n:=by simp at h;omega
  clear h;rw [show n - k=(n - (k+1))+1 by omega] at hR;unfold ZS at hR;obtain ⟨len,hlen⟩:∃ len,k+1=len:=⟨_,rfl⟩
  rw [hlen] at hR ⊢;obtain ⟨A,hA⟩:∃ A,xJ E n len n 0=A:=⟨_,rfl⟩
  rw [hA] at hR;refine za ?_;refine FW.loop (fun s:Nat=>⟨[(0,.int .i64 n),(1,.list 2 (E.map edf)),(5,.int .i64 len),(6,.int .i64 s)],[]⟩) (fun s=>s≤n∧xJ E n len (n - s) s=A) (fun s=>n - s) 0 ⟨Nat.zero_le _,hA⟩ (FLe.cv [] zu zd) ?_;clear hA;rintro s ⟨hs,hS⟩;refine za ?_;refine FW.cond rfl (fun h=>?_) (fun h=>?_)
  ·have hsn:s<n:=by simpa using h
   clear h;rw [show n - s=(n - (s+1))+1 by omega] at hS;unfold xJ at hS;refine za ?_;refine yg (zfl n E s s len zb hE zb zb zb) (by repeat (first|exact zx.nil|refine zx.cons zt ?_)) rfl rfl ?_;have hwl:=ZI E s s n len;have hwr:=Wa E s s n len;have hca:YZ E n len s=nth (yc E s s n len) s:=rfl;generalize yc E s s n len=W at hwl hwr hca;have hrl:(nth W s).length≤len:=hwr _ (zL zb);refine za ?_;rcases hWs:nth W s with _|⟨x,r⟩
   ·rw [hWs] at hca;rw [hca,if_pos rfl] at hS;refine za ?_;exact ⟨s+1,⟨by omega,hS⟩,by omega,(FLe.cv [] zu zd)⟩
   ·rw [hWs] at hca;rw [hca,if_neg (List.cons_ne_nil _ _)] at hS;rw [← hS,if_neg (List.cons_ne_nil _ _)] at hR;have hpos:decide ((((x::r).length:Nat):Int) > 0)=true:=by simp
    refine za ?_;rw [hpos];refine za ?_;rw [← hR];exact FW.ret ⟨.inl rfl,.sh (.cons (.tmp 4 rfl rfl) .nil) rfl rfl⟩
  ·obtain rfl:s=n:=by simp at h;omega
   rw [Nat.sub_self] at hS;have hA0:A=[]:=hS.symm;rw [if_pos hA0] at hR;refine za ?_;exact ⟨k+1,⟨by omega,by rw [hlen];exact hR⟩,by omega,(FLe.cv [] zu zd)⟩
 ·obtain rfl:k=n:=by simp at h;omega
  rw [Nat.sub_self] at hR;subst hR;refine za ?_;refine FW.le (s':=⟨[(4,.list 1 [])],[]⟩) ?_ (FLe.cv [] zu zd);exact FW.ret ⟨.inl rfl,.sh (.cons (.tmp 4 rfl rfl) .nil) rfl rfl⟩
theorem zaO (n:Nat) (E:List (Nat×Nat)):(List.range n).map (fun v=>[FV.list 1 ((zy E v).map zj)])=(zP n E).map ZP:=by
 unfold zP;rw [List.map_map];rfl
def YX:List Int→FV
 | [] => .nil
 | b :: l => .own 100 0 0 (b :: l).length
def zaY (n:Nat) (E:List (Nat×Nat)) (i:Nat):List Int:=(List.range i).foldl (YJ n E) []
theorem WO (n:Nat) (E:List (Nat×Nat)) (i:Nat):zaY n E (i+1)=YJ n E (zaY n E i) i:=by
 unfold zaY;rw [List.range_succ,List.foldl_append];rfl
theorem Xa {n:Nat} {E:List (Nat×Nat)} (h:InN n E):∀ {i:Nat},i≤n→(zaY n E i).length≤n
 | 0, _ => Nat.zero_le _
 | i+1, hi => by rw [WO]; exact zcG h zb (Xa h zb)
theorem Zw (E:List (Nat×Nat)):(yE E).length=E.length:=List.length_map _
theorem zY.le {P:Program} {f:Nat} {args:List FV} {r r' : FV} (h:zY P f args .sh r) (hle:FV.le r r') (hh:r'.hand=none):zY P f args .sh r' where
 go:=h.go
 hand:=hh
 calls w I vs hI hv:=(h.calls w I vs hI hv).mono fun e w' ⟨v,e1,hb,hr⟩=>⟨v,e1,hb,Rd.le hle hr⟩
def zij:List (List FV)→FV
 | [] => .nil
 | e :: es => .list 1 (e :: es)
theorem zgd (es:List (List FV)):(zij es).hand=none:=by cases es <;> rfl
theorem zcI (n:Nat) (E:List (Nat×Nat)) (hn:n≤14) (hE:E.length≤1000) (hin:InN n E):zY Try.prog 14 [.int .i64 n,.list 2 (E.map edf)] .sh (zij ((zdC n E).map zj)):=by
 refine zY.of_body (c:=(xa Try.prog zD zq 128)) ⟨Try.func14,rfl,Try.ntmps14,by kernel_rfl⟩ zC zp (zgd _) ?_;change FW _ _ _ ⟨[(0,.int .i64 n),(1,.list 2 (E.map edf))],[]⟩;refine za ?_;refine yg (xS n E zb zb hin) (by repeat (first|exact zx.nil|refine zx.cons zt ?_)) rfl rfl ?_;rw [zaO];refine za ?_;refine FW.loop (fun i:Nat=>⟨[(0,.int .i64 n),(1,.list 2 (E.map edf)),(5,.list 1 ((zP n E).map ZP)),(6,.own 100 0 0 i),(22,.list 2 (E.map edf)),(23,.int .i64 E.length),(24,.int .i64 i)],[(100,⟨0,.own,56,2,((yE E).take i).map edf⟩)]⟩) (fun i=>i≤E.length) (fun i=>E.length - i) 0 (Nat.zero_le _)
  (FLe.cv [⟨100,none,0,⟨0,.own,56,2,[]⟩⟩] zf zd) ?_
 intro i hi;refine za ?_;refine FW.cond rfl (fun h=>?_) (fun h=>?_)
 ·have hlt:i<E.length:=by simpa using h
  clear h;obtain ⟨⟨a,b⟩,he⟩:∃ e,nth E i=e:=⟨_,rfl⟩
  have hti:((yE E).take i).length=i:=by rw [List.length_take,Zw];omega
  have hts:(yE E).take (i+1)=(yE E).take i++[(b,a)]:=by
   rw [List.take_succ_eq_append_getElem (by rw [Zw];exact hlt)];congr 2;rw [nth_eq hlt] at he;simp [yE,he]
  obtain ⟨Z,hZ⟩:∃ Z,(yE E).take i=Z:=⟨_,rfl⟩
  rw [hZ] at hti hts ⊢;refine za ?_;rw [he];skip;refine ⟨i+1,by omega,by omega,?_⟩;rw [hts,List.map_append];exact (FLe.cv [⟨100,some 35,0+1,⟨0,.own,56,2,Z.map edf++[(b,a)].map edf⟩⟩] zf zd)
 ·obtain rfl:i=E.length:=by simp at h;omega
  clear h hi;rw [← Zw,List.take_length];refine za ?_;refine zi.le ?_ (FLe.share 38 rfl rfl zc);refine yg (xS n (yE E) zb (by rw [Zw];omega) (xf hin)) (by repeat (first|exact zx.nil|refine zx.cons zt ?_)) rfl rfl ?_;rw [zaO];refine za ?_;refine FW.loop (fun i:Nat=>⟨[(0,.int .i64 n),(5,.list 1 ((zP n E).map ZP)),(9,.list 1 ((zP n (yE E)).map ZP)),(10,YX (zaY n E i)),(40,.int .i64 n),(41,.int .i64 i)],[(100,⟨0,.own,3,1,(zaY n E i).map zj⟩)]⟩) (fun i=>i≤n) (fun i=>n - i) 0 (Nat.zero_le _) ?_ ?_
  ·show FLe _ ⟨[(0,.int .i64 n),(5,.list 1 ((zP n E).map ZP)),(9,.list 1 ((zP n (yE E)).map ZP)),(10,.nil),(40,.int .i64 n),(41,.int .i64 0)],[(100,⟨0,.own,3,1,[]⟩)]⟩;exact (FLe.cv [⟨100,none,0,⟨0,.own,3,1,[]⟩⟩] zf zd)
  intro i hi;refine za ?_;refine FW.cond rfl (fun h=>?_) (fun h=>?_)
  ·have hlt:i<n:=by simpa using h
   clear h;refine za ?_;refine xn (Uk n i (zP n (yE E)) hn hlt (yh n _) (xu (xf hin)) (fun r hr=>by have:=zgE n (yE E) r hr;rw [Zw] at this;omega)) (by repeat (first|exact zx.nil|refine zx.cons zt ?_)) ((List.length_map _).trans (WL hin hlt)) rfl rfl rfl ?_;rw [show dist (zP n (yE E)) n i=zQ n E i from rfl];have hdl:=WL hin hlt;have hrng:=fun v (hv:v<n)=>za8 hin hlt hv;have hrw:nth (zP n E) i=zy E i:=xG E hlt;have hrn:=yh n E;refine zi.le ?_ ((FLe.share 47 rfl rfl (by rw [List.length_map];exact hdl.symm)).trans (FLe.shareP 11 rfl rfl));obtain ⟨d,hd⟩:∃ d,zQ n E i=d:=⟨_,rfl⟩
   rw [hd] at hdl hrng ⊢;refine za ?_;rw [hrw];obtain ⟨B,hB⟩:∃ B,zaY n E i=B:=⟨_,rfl⟩
   rw [hB];refine FW.le ?_ (FLe.shareP 12 rfl rfl);refine FW.loop (fun j:Nat=>⟨[(0,.int .i64 n),(5,.list 1 ((zP n E).map ZP)),(9,.list 1 ((zP n (yE E)).map ZP)),(10,YX B),(40,.int .i64 n),(41,.int .i64 i),(11,.eptr 1 [[.int .i64 i]] 0 0),(12,.eptr 1 [[.list 1 (d.map zj)]] 0 0),(13,.int .i64 (((zy E i).take j).foldl (yj d i) 0)),(51,.list 1 ((zy E i).map zj)),(52,.int .i64 (zy E i).length),(53,.int .i64 j)],[(100,⟨0,.own,3,1,B.map zj⟩)]⟩) (fun j=>j≤(zy E i).length) (fun j=>(zy E i).length - j) 0 (Nat.zero_le _) ?_ ?_
   ·rcases B with _|⟨b,l⟩
    ·show FLe _ ⟨[(0,.int .i64 n),(5,.list 1 ((zP n E).map ZP)),(9,.list 1 ((zP n (yE E)).map ZP)),(10,.nil),(40,.int .i64 n),(41,.int .i64 i),(11,.eptr 1 [[.int .i64 i]] 0 0),(12,.eptr 1 [[.list 1 (d.map zj)]] 0 0),(13,.int .i64 0),(51,.list 1 ((zy E i).map zj)),(52,.int .i64 (zy E i).length),(53,.int .i64 0)],[(100,⟨0,.own,3,1,[]⟩)]⟩;exact (FLe.cv [⟨100,some 100,0,⟨0,.own,3,1,[]⟩⟩] zf zd)
    ·show FLe _ ⟨[(0,.int .i64 n),(5,.list 1 ((zP n E).map ZP)),(9,.list 1 ((zP n (yE E)).map ZP)),(10,.own 100 0 0 (b::l).length),(40,.int .i64 n),(41,.int .i64 i),(11,.eptr 1 [[.int .i64 i]] 0 0),(12,.eptr 1 [[.list 1 (d.map zj)]] 0 0),(13,.int .i64 0),(51,.list 1 ((zy E i).map zj)),(52,.int .i64 (zy E i).length),(53,.int .i64 0)],[(100,⟨0,.own,3,1,(b::l).map zj⟩)]⟩;exact (FLe.cv [⟨100,some 100,0,⟨0,.own,3,1,(b::l).map zj⟩⟩] zf zd)
   have hsl:=Ye E i;intro j hj;refine za ?_;refine FW.cond rfl (fun h=>?_) (fun h=>?_)
   ·have hlt3:j<(zy E i).length:=by simpa using h
    clear h;obtain ⟨v,hv⟩:∃ v:Nat,nth (zy E i) j=v:=⟨(nth (zy E i) j).toNat,by have:=(yr hin (zL hlt3)).1;omega⟩
    have hvn:v<n:=by have:=(yr hin (zL hlt3)).2;omega
    have hrv:=hrng v hvn;have hst:((zy E i).take (j+1)).foldl (yj d i) 0=yj d i (((zy E i).take j).foldl (yj d i) 0) v:=by
     rw [List.take_succ_eq_append_getElem hlt3,List.foldl_append,← nth_eq hlt3,hv];rfl
    obtain ⟨L,hL⟩:∃ L,((zy E i).take j).foldl (yj d i) 0=L:=⟨_,rfl⟩
    rw [hL] at hst ⊢;generalize hBm:B.map zj=Bm;have hdn:nth d ((v:Int)).toNat=nth d v:=rfl;refine za ?_;rw [hv];skip;refine zJ (fun h1=>?_) (fun h1=>?_)
    ·refine za ?_;refine zJ (fun h2=>?_) (fun h2=>?_)
     ·refine za ?_;refine zJ (fun h3=>?_) (fun h3=>?_)
      ·refine za ?_;rw [yj,if_pos ⟨⟨by simpa using h1,by simpa using h2⟩,.inl (by simpa using h3)⟩,hdn] at hst;refine ⟨j+1,by omega,by omega,?_⟩;rw [hst];rcases B with _|⟨b,l⟩ <;> dsimp only [YX]
       ·exact (FLe.cv [⟨100,some 100,0,⟨0,.own,3,1,Bm⟩⟩] zf zd)
       ·exact (FLe.cv [⟨100,some 100,0,⟨0,.own,3,1,Bm⟩⟩] zf zd)
      ·refine za ?_;refine FW.cond rfl (fun h4=>?_) (fun h4=>?_)
       ·refine za ?_;rw [yj,if_pos ⟨⟨by simpa using h1,by simpa using h2⟩,.inr (by simpa using h4)⟩,hdn] at hst;refine ⟨j+1,by omega,by omega,?_⟩;rw [hst];rcases B with _|⟨b,l⟩ <;> dsimp only [YX]
        ·exact (FLe.cv [⟨100,some 100,0,⟨0,.own,3,1,Bm⟩⟩] zf zd)
        ·exact (FLe.cv [⟨100,some 100,0,⟨0,.own,3,1,Bm⟩⟩] zf zd)
       ·refine za ?_;rw [yj,if_neg (fun q=>by simp at h3 h4;rcases q.2 with q|q;exact h3 q;rw [hdn] at q;omega)] at hst;refine ⟨j+1,by omega,by omega,?_⟩;rw [hst];rcases B with _|⟨b,l⟩ <;> dsimp only [YX]
        ·exact (FLe.cv [⟨100,some 100,0,⟨0,.own,3,1,Bm⟩⟩] zf zd)
        ·exact (FLe.cv [⟨100,some 100,0,⟨0,.own,3,1,Bm⟩⟩] zf zd)
     ·refine za ?_;rw [yj,if_neg (fun q=>by simp at h2;have q2:=q.1.2;rw [hdn] at q2;omega)] at hst;refine ⟨j+1,by omega,by omega,?_⟩;rw [hst];rcases B with _|⟨b,l⟩ <;> dsimp only [YX]
      ·exact (FLe.cv [⟨100,some 100,0,⟨0,.own,3,1,Bm⟩⟩] zf zd)
      ·exact (FLe.cv [⟨100,some 100,0,⟨0,.own,3,1,Bm⟩⟩] zf zd)
    ·refine za ?_;rw [yj,if_neg (fun q=>by simp at h1;omega)] at hst;refine ⟨j+1,by omega,by omega,?_⟩;rw [hst];rcases B with _|⟨b,l⟩ <;> dsimp only [YX]
     ·exact (FLe.cv [⟨100,some 100,0,⟨0,.own,3,1,Bm⟩⟩] zf zd)
     ·exact (FLe.cv [⟨100,some 100,0,⟨0,.own,3,1,Bm⟩⟩] zf zd)
   ·obtain rfl:j=(zy E i).length:=by simp at h;omega
    clear h hj;rw [List.take_length];obtain ⟨L,hL⟩:∃ L,(zy E i).foldl (yj d i) 0=L:=⟨_,rfl⟩
    rw [hL];have hLL:yJ (zQ n E i) i (zy E i)=L:=by rw [hd];exact hL
    have hcs:=WO n E i;rw [hB] at hcs;unfold YJ at hcs;dsimp only at hcs;rw [hLL] at hcs;have hBl:B.length≤n:=hB▸Xa hin zb;refine FW.exit ?_;refine FW.seq ?_;refine FW.seq ?_;refine FW.join (fun _:Unit=>⟨[(0,.int .i64 n),(5,.list 1 ((zP n E).map ZP)),(9,.list 1 ((zP n (yE E)).map ZP)),(10,YX B),(40,.int .i64 n),(41,.int .i64 i),(11,.eptr 1 [[.int .i64 i]] 0 0),(12,.eptr 1 [[.list 1 (d.map zj)]] 0 0),(13,.int .i64 L),(97,.bool (decide (L=0∨(B≠[]∧(B.length:Int)≤L))))],[(100,⟨0,.own,3,1,B.map zj⟩)]⟩) (fun _=>True) ?_ (fun _ _=>?_)
    ·rcases B with _|⟨b,l⟩
     ·dsimp only [YX];refine za ?_;refine zJ (fun h1=>?_) (fun h1=>?_)
      ·refine za ?_;refine ⟨rfl,(),trivial,?_⟩;rw [show decide (L=0∨(([]:List Int)≠[]∧((([]:List Int).length:Nat):Int)≤L))=true by simpa using h1];exact (FLe.cv [⟨100,some 100,0,⟨0,.own,3,1,[]⟩⟩] zf zd)
      ·refine za ?_;refine ⟨rfl,(),trivial,?_⟩;rw [show decide (L=0∨(([]:List Int)≠[]∧((([]:List Int).length:Nat):Int)≤L))=false by simpa using h1];exact (FLe.cv [⟨100,some 100,0,⟨0,.own,3,1,[]⟩⟩] zf zd)
     ·dsimp only [YX];refine za ?_;refine zJ (fun h1=>?_) (fun h1=>?_)
      ·refine za ?_;refine ⟨rfl,(),trivial,?_⟩;rw [show decide (L=0∨((b::l:List Int)≠[]∧(((b::l:List Int).length:Nat):Int)≤L))=true by simp at h1 ⊢;exact .inl h1];exact (FLe.cv [⟨100,some 100,0,⟨0,.own,3,1,(b::l).map zj⟩⟩] zf zd)
      ·refine za ?_;refine ⟨rfl,(),trivial,?_⟩;rw [show decide (L=0∨((b::l:List Int)≠[]∧(((b::l:List Int).length:Nat):Int)≤L))=decide (L≥(((b::l).length:Nat):Int)) by simp at h1 ⊢;intro q;exact absurd q h1];exact (FLe.cv [⟨100,some 100,0,⟨0,.own,3,1,(b::l).map zj⟩⟩] zf zd)
    ·refine FW.cond rfl (fun h=>?_) (fun h=>?_)
     ·rw [if_pos (by simpa using h)] at hcs;refine za ?_;refine ⟨i+1,by omega,by omega,?_⟩;rw [hcs];generalize hBm:B.map zj=Bm;rcases B with _|⟨b,l⟩ <;> dsimp only [YX]
      ·exact (FLe.cv [⟨100,some 100,0,⟨0,.own,3,1,Bm⟩⟩] zf zd)
      ·exact (FLe.cv [⟨100,some 100,0,⟨0,.own,3,1,Bm⟩⟩] zf zd)
     ·have hno:¬ (L=0∨(B≠[]∧(B.length:Int)≤L)):=by simpa using h
      rw [if_neg hno] at hcs;obtain ⟨K,hK,hKn,hway⟩:=ZC hin hlt (by rw [hLL];exact fun e=>hno (.inl e));rw [hLL] at hK;subst hK;rw [show ((K+1:Nat):Int).toNat - 1=K by omega] at hcs;clear h hno hL hLL hB hBl hrn;rw [hd] at hcs;refine FW.le (s':=⟨[(0,.int .i64 n),(5,.list 1 ((zP n E).map ZP)),(9,.list 1 ((zP n (yE E)).map ZP)),(40,.int .i64 n),(41,.int .i64 i),(11,.eptr 1 [[.int .i64 i]] 0 0),(12,.eptr 1 [[.list 1 (d.map zj)]] 0 0),(13,.int .i64 (K+1:Nat))],[]⟩) ?_ (FLe.cv [] zu zd);refine za ?_;refine FW.loop (fun x:List Int×Nat=>⟨[(0,.int .i64 n),(5,.list 1 ((zP n E).map ZP)),(9,.list 1 ((zP n (yE E)).map ZP)),(40,.int .i64 n),(41,.int .i64 i),(11,.eptr 1 [[.int .i64 i]] 0 0),(12,.eptr 1 [[.list 1 (d.map zj)]] 0 0),(13,.int .i64 (K+1:Nat)),(10,.own 100 0 0 x.1.length),(16,.int .i64 x.2)],[(100,⟨0,.own,3,1,x.1.map zj⟩)]⟩) (fun x=>∃ k,x.1.length+k=K+1∧x.2<n∧Way E (zQ n E i) i k x.2∧x.1++xY E d i k x.2=(i:Int)::xY E d i K i) (fun x=>K+1 - x.1.length) ([(i:Int)],i) ⟨K,by simp;omega,hlt,hway,rfl⟩ ?_ ?_
      ·show FLe _ ⟨[(0,.int .i64 n),(5,.list 1 ((zP n E).map ZP)),(9,.list 1 ((zP n (yE E)).map ZP)),(40,.int .i64 n),(41,.int .i64 i),(11,.eptr 1 [[.int .i64 i]] 0 0),(12,.eptr 1 [[.list 1 (d.map zj)]] 0 0),(13,.int .i64 (K+1:Nat)),(10,.own 100 0 0 1),(16,.int .i64 i)],[(100,⟨0,.own,3,1,[[.int .i64 i]]⟩)]⟩;exact (FLe.cv [⟨100,some 99,0+1,⟨0,.own,3,1,[[.int .i64 i]]⟩⟩] zf zd)
      ·rintro ⟨P,v⟩ ⟨k,hPk,hvn,hw,hP⟩;dsimp only at hPk hvn hw hP ⊢;refine za ?_;refine FW.cond rfl (fun h=>?_) (fun h=>?_)
       ·obtain ⟨k,rfl⟩:∃ k',k=k'+1:=⟨k - 1,by simp at h;omega⟩
        clear h;obtain ⟨j,hj,hfx,hnx,hsn,hway'⟩:=hw.step hin hlt;rw [hd] at hfx hnx hsn hway';have hwo:xY E d i (k+1) v=(xc E d i (k+1:Nat) v:Int)::xY E d i k (xc E d i (k+1:Nat) v):=rfl;rw [hwo] at hP;obtain ⟨u,hu⟩:∃ u,xc E d i (k+1:Nat) v=u:=⟨_,rfl⟩
        rw [hu] at hnx hsn hway' hP;have hvr:nth (zP n E) v=zy E v:=xG E hvn;have hvl:=Ye E v;have hrn:=yh n E;have hlft:((K+1:Nat):Int) - (P.length:Int)=(k+1:Nat):=by omega
        (repeat (first|refine FW.seq ?_|refine FW.region ?_|refine FW.block ?_|refine FW.skip ?_|refine zi.nil ?_|refine zG rfl rfl rfl ?_|refine VM rfl rfl rfl zg rfl rfl ?_|refine Yc rfl rfl rfl rfl rfl rfl zI rfl rfl ?_|refine Xs rfl rfl rfl zI xZ rfl rfl rfl rfl ?_|refine zdW rfl rfl rfl rfl rfl rfl rfl ?_|refine zce rfl rfl rfl rfl rfl rfl rfl rfl rfl ?_|refine zgB rfl rfl zb rfl rfl ?_))
        rw [hlft,hvr];refine zi.le ?_ (FLe.shareP 17 rfl rfl);refine za ?_;refine zV (YE (zy E v) _ _ (YO d i (k+1:Nat)) zb (fun x hx=>?_)) (by repeat (first|exact zx.nil|refine zx.cons zt ?_)) rfl rfl ?_
        ·have hx2:=yr hin hx;obtain ⟨x,rfl⟩:∃ x' : Nat,x=x':=⟨x.toNat,by omega⟩
         exact zcH d i (k+1:Nat) x zb
        rw [hfx];have hj' : j<(nth (zP n E) v).length:=by rw [hvr];exact hj
        refine za ?_;rw [hvr];skip;rw [hnx];skip;refine ⟨(P++[(u:Int)],u),⟨k,by simp;omega,hsn,by rw [hd];exact hway',by rw [List.append_assoc];exact hP⟩,by simp;omega,?_⟩;dsimp only;rw [List.length_append,List.map_append];exact (FLe.cv [⟨100,some 125,0+1,⟨0,.own,3,1,P.map zj++[(u:Int)].map zj⟩⟩] zf zd)
       ·obtain rfl:k=0:=by simp at h;omega
        rw [show xY E d i 0 v=[] from rfl,List.append_nil] at hP;refine za ?_;refine ⟨i+1,by omega,by omega,?_⟩;rw [hcs,← hP];subst hP;dsimp only [YX];exact (FLe.cv [⟨100,some 100,0,⟨0,.own,3,1,((i:Int)::xY E d i K i).map zj⟩⟩] zf zd)
  ·obtain rfl:i=n:=by simp at h;omega
   rw [show zaY i E i=zdC i E from rfl];generalize zdC i E=B;cases B with
   | nil =>
    dsimp only [YX];refine FW.le (s':=⟨[(10,.nil)],[]⟩) ?_ (FLe.cv [] zu zd);refine za ?_;exact FW.ret ⟨.inl rfl,.sh (.cons (.tmp 4 rfl rfl) .nil) rfl rfl⟩
   | cons b l =>
    dsimp only [YX];refine FW.le (s':=⟨[(10,.list 1 ((b::l).map zj))],[]⟩) ?_ ((FLe.share 10 rfl rfl zc).trans (FLe.cv [] zu zd));refine za ?_;exact FW.ret ⟨.inl rfl,.sh (.cons (.tmp 4 rfl rfl) .nil) rfl rfl⟩
end
end Go.Proofs.Ytlnehfplfoikaaa
