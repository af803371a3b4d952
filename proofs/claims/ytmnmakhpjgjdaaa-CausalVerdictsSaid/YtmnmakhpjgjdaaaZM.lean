/-
  Some texts as one: FmRef03, TopoRef, FmWalks, CycRef, FmLives03, EdgeCongr, FmCau9.
-/
import Derived.Test.YtmnmakhpjgjdaaaZR
import Derived.Test.YtmnmakhpjgjdaaaZK
import Derived.Test.YtmnmakhpjgjdaaaZL
import Derived.Test.YtmnmakhpjgjdaaaZFmCyc2
import Derived.Test.YtmnmakhpjgjdaaaZFmCau6
namespace Go.Proofs.Ytmnmakhpjgjdaaa
set_option linter.unusedVariables false
set_option maxHeartbeats 16000000
section
open Go.RowKit
theorem zkv (E:List (Nat×Nat)):∀ e∈E.map edf,FV.flat.flats e=true:=fun e he=>by
 obtain ⟨q,_,rfl⟩:=List.mem_map.1 he;rfl
def Ya (E:List (Nat×Nat)) (a b:Int):Bool:=E.any fun e=>decide ((e.1:Int)=a) && decide ((e.2:Int)=b)
theorem zi2 (E:List (Nat×Nat)) (a b:Int) (hE:E.length≤1000000):zV Try.prog 80 [.list 2 (E.map edf),.int .i64 a,.int .i64 b] .fr (.bool (Ya E a b)):=by
 refine zV.of_body (c:=(xy Try.prog zD zu 30)) ⟨Try.func80,rfl,Try.ntmps80,by kernel_rfl⟩ zF zx rfl ?_;change FW _ _ _ ⟨[(0,.list 2 (E.map edf)),(1,.int .i64 a),(2,.int .i64 b)],[]⟩;refine zb ?_;refine FW.loop (fun i:Nat=>⟨[(0,.list 2 (E.map edf)),(1,.int .i64 a),(2,.int .i64 b),(7,.int .i64 i)],[]⟩) (fun i=>i≤E.length∧Ya (E.take i) a b=false) (fun i=>E.length - i) 0 ⟨Nat.zero_le _,rfl⟩ (FLe.cv [] zB zd) ?_;rintro i ⟨hi,hno⟩;refine zb ?_;refine FW.cond rfl (fun h=>?_) (fun h=>?_)
 ·have hlt:i<E.length:=by simpa using h
  clear h;have hst:Ya (E.take (i+1)) a b=(decide (((nth E i).1:Int)=a) && decide (((nth E i).2:Int)=b)):=by
   unfold Ya at hno ⊢;rw [List.take_succ_eq_append_getElem hlt,List.any_append,hno,← nth_eq hlt];simp
  obtain ⟨⟨x,y⟩,he⟩:∃ e,nth E i=e:=⟨_,rfl⟩
  rw [he] at hst;refine zb ?_;rw [he];skip;refine zP (fun h1=>?_) (fun h1=>?_)
  ·refine zb ?_;rw [he];skip;refine FW.cond rfl (fun h2=>?_) (fun h2=>?_)
   ·refine zb ?_;have:Ya E a b=true:=by
     unfold Ya;refine List.any_eq_true.2 ⟨nth E i,zy hlt,?_⟩;rw [he];simp at h1 h2;simp [h1,h2]
    exact FW.ret ⟨.inl rfl,zE rfl rfl (by rw [this];rfl) rfl⟩
   ·refine zb ?_;refine ⟨i+1,⟨by omega,?_⟩,by omega,(FLe.cv [] zB zd)⟩;rw [hst];simp at h2;simp [h2]
  ·refine zb ?_;refine ⟨i+1,⟨by omega,?_⟩,by omega,(FLe.cv [] zB zd)⟩;rw [hst];simp at h1;simp [h1]
 ·have hi:i=E.length:=by simp at h;omega
  subst hi;rw [List.take_length] at hno;refine zb ?_;exact FW.ret ⟨.inl rfl,zE rfl rfl (by rw [hno];rfl) rfl⟩
def zpD (e:Nat×Nat):Nat×Nat:=(min e.1 e.2,max e.1 e.2)
def zkB (E:List (Nat×Nat)):Nat→List (Nat×Nat)
 | 0 => E
 | k+1 => if k % 7=6 then zkB E k else (zkB E k).set k (zpD (nth (zkB E k) k))
theorem ze2 (E:List (Nat×Nat)):∀ k,(zkB E k).length=E.length
 | 0 => rfl
 | k+1 => by
  unfold zkB;split
  ·exact ze2 E k
  ·rw [List.length_set];exact ze2 E k
def YO (E:List (Nat×Nat)) (v:Int) (out:List Int):Bool:=E.all fun e=>!decide ((e.2:Int)=v) || ziT out e.1
theorem zjr (E:List (Nat×Nat)) (v:Int) (out:List Int) (hE:E.length≤1000000) (ho:out.length≤1000000):zV Try.prog 69 [.list 2 (E.map edf),.int .i64 v,.list 1 (out.map zC)] .fr (.bool (YO E v out)):=by
 refine zV.of_body (c:=(xy Try.prog zD zu 31)) ⟨Try.func69,rfl,Try.ntmps69,by kernel_rfl⟩ zF zx rfl ?_;change FW _ _ _ ⟨[(0,.list 2 (E.map edf)),(1,.int .i64 v),(2,.list 1 (out.map zC))],[]⟩;refine zb ?_;refine FW.loop (fun i:Nat=>⟨[(0,.list 2 (E.map edf)),(1,.int .i64 v),(2,.list 1 (out.map zC)),(7,.int .i64 i)],[]⟩) (fun i=>i≤E.length∧YO (E.take i) v out=true) (fun i=>E.length - i) 0 ⟨Nat.zero_le _,rfl⟩ (FLe.cv [] zB zd) ?_;rintro i ⟨hi,hno⟩;refine zb ?_;refine FW.cond rfl (fun h=>?_) (fun h=>?_)
 ·have hlt:i<E.length:=by simpa using h
  clear h;have hst:YO (E.take (i+1)) v out=(!decide (((nth E i).2:Int)=v) || ziT out (nth E i).1):=by
   unfold YO at hno ⊢;rw [List.take_succ_eq_append_getElem hlt,List.all_append,hno,← nth_eq hlt];simp
  have hbad:(!decide (((nth E i).2:Int)=v) || ziT out (nth E i).1)=false→YO E v out=false:=fun hb=>by
   unfold YO;refine List.all_eq_false.2 ⟨nth E i,zy hlt,?_⟩;rw [hb];decide
  refine zb ?_;refine zP (fun h1=>?_) (fun h1=>?_)
  ·refine zb ?_;refine zO (zhG out (nth E i).1 za) (by repeat (first|exact zq.nil|refine zq.cons zm ?_)) rfl ⟨_,_,rfl,rfl,rfl⟩ ?_;refine zb ?_;refine FW.cond rfl (fun h2=>?_) (fun h2=>?_)
   ·refine zb ?_;exact FW.ret ⟨.inl rfl,zE rfl rfl (by rw [hbad (by rw [h1];simpa using h2)];rfl) rfl⟩
   ·refine zb ?_;refine ⟨i+1,⟨by omega,?_⟩,by omega,(FLe.cv [] zB zd)⟩;rw [hst,h1];simpa using h2
  ·refine zb ?_;refine ⟨i+1,⟨by omega,?_⟩,by omega,(FLe.cv [] zB zd)⟩;rw [hst,h1];rfl
 ·have hi:i=E.length:=by simp at h;omega
  subst hi;rw [List.take_length] at hno;refine zb ?_;exact FW.ret ⟨.inl rfl,zE rfl rfl (by rw [hno];rfl) rfl⟩
def zge (p:Nat→Bool) (n:Nat):Nat→Int
 | 0 => -1
 | k+1 => if p (n - (k+1))=true then ((n - (k+1):Nat):Int) else zge p n k
theorem zhR (p:Nat→Bool) (n:Nat):∀ k,-1≤zge p n k∧zge p n k≤n
 | 0 => by unfold zge; omega
 | k+1 => by
  have:=zhR p n k;unfold zge;split <;> omega
def Ww (E:List (Nat×Nat)) (out:List Int) (v:Nat):Bool:=!ziT out v && YO E v out
def rtK (E:List (Nat×Nat)) (n:Nat):Nat→List Int→Option (List Int)
 | 0, out => some out
 | k+1, out => if zge (Ww E out) n n<0 then none else rtK E n k (out ++ [zge (Ww E out) n n])
def zpr:Option (List Int)→FV
 | none => .tup [.list 1 [], .bool false]
 | some l => .tup [.list 1 (l.map zC), .bool true]
theorem zjm (n:Nat) (E:List (Nat×Nat)) (hn:n≤1000) (hE:E.length≤1000000):zV Try.prog 51 [.int .i64 n,.list 2 (E.map edf)] .sh (zpr (rtK E n n [])):=by
 obtain ⟨R,hR⟩:∃ R,rtK E n n []=R:=⟨_,rfl⟩
 rw [hR];have hres:(zpr R).hand=none:=by cases R <;> rfl
 refine zV.of_body (c:=(xy Try.prog zD zu 37)) ⟨Try.func51,rfl,Try.ntmps51,by kernel_rfl⟩ zF zx hres ?_;change FW _ _ _ ⟨[(0,.int .i64 n),(1,.list 2 (E.map edf))],[]⟩;refine zb ?_;refine FW.loop (fun out:List Int=>⟨[(0,.int .i64 n),(1,.list 2 (E.map edf)),(6,.own 100 0 0 out.length)],[(100,⟨0,.own,3,1,out.map zC⟩)]⟩) (fun out=>∃ k,out.length+k=n∧rtK E n k out=R) (fun out=>n - out.length) [] ⟨n,by simp,hR⟩ ?_ ?_
 ·exact (FLe.cv [⟨100,none,0,⟨0,.own,3,1,[]⟩⟩] zf zd)
 clear hR;rintro out ⟨k,hk,hR⟩;refine zb ?_;refine FW.cond rfl (fun h=>?_) (fun h=>?_)
 ·obtain ⟨k,rfl⟩:∃ k',k=k'+1:=⟨k - 1,by simp at h;omega⟩
  clear h;unfold rtK at hR;refine zb ?_;refine FW.loop (fun j:Nat=>⟨[(0,.int .i64 n),(1,.list 2 (E.map edf)),(6,.own 100 0 0 out.length),(7,.int .i64 (zge (Ww E out) n j)),(8,.int .i64 ((n:Int) - 1 - j))],[(100,⟨0,.own,3,1,out.map zC⟩)]⟩) (fun j=>j≤n) (fun j=>n - j) 0 (Nat.zero_le _) ?_ ?_
  ·exact (FLe.cv [⟨100,some 100,0,⟨0,.own,3,1,out.map zC⟩⟩] zf zd)
  intro j hj;refine zb ?_;refine FW.cond rfl (fun h=>?_) (fun h=>?_)
  ·have hlt:j<n:=by simp at h;omega
   clear h;obtain ⟨v,hv⟩:∃ v,n - (j+1)=v:=⟨_,rfl⟩
   have hvi:(n:Int) - 1 - j=v:=by omega
   have hst:zge (Ww E out) n (j+1)=if (!ziT out v && YO E v out)=true then (v:Int) else zge (Ww E out) n j:=by
    show (if Ww E out (n - (j+1))=true then ((n - (j+1):Nat):Int) else _)=_;rw [hv];rfl
   obtain ⟨L,hL⟩:∃ L,zge (Ww E out) n j=L:=⟨_,rfl⟩
   rw [hL] at hst ⊢;rw [hvi];refine zb ?_;refine zO (zhG out v za) Xc rfl rfl ?_;refine zb ?_;refine zP (fun h1=>?_) (fun h1=>?_)
   ·refine zb ?_;refine zO (zjr E v out hE za) Xc rfl ⟨_,_,rfl,rfl,rfl⟩ ?_;refine zb ?_;rw [h1,Bool.true_and] at hst;refine FW.cond rfl (fun h2=>?_) (fun h2=>?_)
    ·rw [h2,if_pos rfl] at hst;refine zb ?_;refine ⟨j+1,by omega,by omega,?_⟩;rw [hst];exact (FLe.cv [⟨100,some 100,0,⟨0,.own,3,1,out.map zC⟩⟩] zf zd)
    ·rw [h2,if_neg zg] at hst;refine zb ?_;refine ⟨j+1,by omega,by omega,?_⟩;rw [hst];exact (FLe.cv [⟨100,some 100,0,⟨0,.own,3,1,out.map zC⟩⟩] zf zd)
   ·rw [h1,Bool.false_and,if_neg zg] at hst;refine zb ?_;refine ⟨j+1,by omega,by omega,?_⟩;rw [hst];exact (FLe.cv [⟨100,some 100,0,⟨0,.own,3,1,out.map zC⟩⟩] zf zd)
  ·obtain rfl:j=n:=by simp at h;omega
   clear h hj;have hLr:=zhR (Ww E out) j j;obtain ⟨L,hL⟩:∃ L,zge (Ww E out) j j=L:=⟨_,rfl⟩
   rw [hL] at hR hLr ⊢;refine zb ?_;refine FW.cond rfl (fun h=>?_) (fun h=>?_)
   ·rw [if_pos (by simpa using h)] at hR;subst hR;refine zb ?_;refine FW.le (s':=⟨[(4,.list 1 []),(5,.bool false)],[]⟩) ?_ (FLe.cv [] zB zd);exact FW.ret ⟨.inl rfl,.sh (.cons (.tmp 4 rfl rfl) (.cons (.tmp 5 rfl rfl) .nil)) rfl rfl⟩
   ·rw [if_neg (by simpa using h)] at hR;refine zb ?_;refine ⟨out++[L],⟨k,by simp;omega,hR⟩,by simp;omega,?_⟩;rw [List.length_append,List.map_append];exact (FLe.cv [⟨100,some 35,0+1,⟨0,.own,3,1,out.map zC++[L].map zC⟩⟩] zf zd)
 ·obtain rfl:k=0:=by simp at h;omega
  unfold rtK at hR;subst hR;refine zb ?_;refine FW.le ?_ (FLe.share 4 rfl rfl zc);exact FW.ret ⟨.inl rfl,.sh (.cons (.tmp 4 rfl rfl) (.cons (.tmp 5 rfl rfl) .nil)) rfl rfl⟩
end
theorem zfw (p:Nat→Bool) (n:Nat):∀ k,k≤n→(zge p n k = -1∧∀ v,n - k≤v→v<n→p v=false)∨∃ v,zge p n k=(v:Nat)∧n - k≤v∧v<n∧p v=true∧∀ u,n - k≤u→u<v→p u=false
 | 0, _ => .inl ⟨rfl, fun v h1 h2 => by omega⟩
 | k+1,hk=>by
  have ih:=zfw p n k za;unfold zge;by_cases hp:p (n - (k+1))=true
  ·rw [if_pos hp];exact .inr ⟨_,rfl,Nat.le_refl _,by omega,hp,fun u h1 h2=>by omega⟩
  ·rw [if_neg hp];have hp' : p (n - (k+1))=false:=by simpa using hp
   rcases ih with ⟨e,h⟩|⟨v,e,h1,h2,h3,h4⟩
   ·refine .inl ⟨e,fun v q1 q2=>?_⟩;by_cases hv:v=n - (k+1)
    ·subst hv;exact hp'
    ·exact h v za q2
   ·refine .inr ⟨v,e,by omega,h2,h3,fun u q1 q2=>?_⟩;by_cases hv:u=n - (k+1)
    ·subst hv;exact hp'
    ·exact h4 u za q2
theorem zly {n:Nat} {E:List (Nat×Nat)} (h:InN n E) (out:List Int) (v:Nat):YO E v out=true↔zgc n E out v=0:=by
 unfold YO zgc;rw [List.all_eq_true,List.countP_eq_zero];constructor
 ·intro hr u hu hc;simp only [Bool.and_eq_true,decide_eq_true_eq] at hc;obtain ⟨e,he,h1,h2⟩:=xr.1 hc.2;have:=hr e he;subst h1;have h3:((e.2:Nat):Int)=(v:Int):=h2;rw [h3] at this;unfold ziT at this;simp at this;exact hc.1 this
 ·intro hc e he;have hin:=h e he;by_cases hv:((e.2:Nat):Int)=v
  ·have:=hc e.1 (List.mem_range.2 hin.1);simp only [Bool.and_eq_true,decide_eq_true_eq,not_and] at this;unfold ziT;by_cases hm:((e.1:Nat):Int)∈out
   ·simp [hm]
   ·exact absurd (xr.2 ⟨e,he,rfl,hv⟩) (this hm)
  ·simp [hv]
theorem TI.next {n:Nat} {E:List (Nat×Nat)} (hE:InN n E) {s:zeq} (h:TI n E s) (v:Nat) (hv:v<n):Ww E s.out v=true↔(v:Int)∈s.h:=by
 rw [h.hM,Int.toNat_natCast,h.cnt v hv];unfold Ww ziT;rw [Bool.and_eq_true,zly hE];constructor
 ·rintro ⟨h1,h2⟩;exact ⟨by omega,by simpa using h1,by omega⟩
 ·rintro ⟨_,h1,h2⟩;exact ⟨by simpa using h1,by omega⟩
theorem zie {n:Nat} {E:List (Nat×Nat)} (hE:InN n E):∀ (k f:Nat) (s:zeq),TI n E s→s.out.length+k=n→n<s.out.length+f→rtK E n k s.out=if (yg E f s).out.length<n then none else some (yg E f s).out
 | k, 0, s, h, _, hf => by have := h.le; omega
 | k, f+1,s,h,hk,hf=>by
  have hl:=zfw (Ww E s.out) n n (Nat.le_refl _);by_cases h0:s.h=[]
  ·rw [VO E (f+1) s h0];cases k with
   | zero =>
    rw [if_neg za];rfl
   | succ k=>
    rw [if_pos za];unfold rtK;rcases hl with ⟨e,_⟩|⟨v,e,_,h2,h3,_⟩
    ·rw [if_pos za]
    ·have:=(h.next hE v h2).1 h3;rw [h0] at this;cases this
  ·obtain ⟨q,hq⟩:∃ q,s.h.length=q+1:=⟨s.h.length - 1,by have:=List.length_pos_iff.2 h0;omega⟩
   obtain ⟨v,hv,hvn,hvo,hm0,hmin,hD,hN,hR⟩:=h.first hq;have hvh:(v:Int)∈s.h:=by
    rw [h.hM];exact ⟨by omega,hvo,by rw [Int.toNat_natCast];exact hm0⟩
   have hso:(yV E s).out=s.out++[(v:Int)]:=by
    unfold yV;dsimp only;rw [show s.h.length - 1=q by omega,hv]
   have e1:yg E (f+1) s=yg E f (yV E s):=if_neg h0;cases k with
   | zero =>
    have:=YL hN hR;simp at this;omega
   | succ k=>
    have hlv:zge (Ww E s.out) n n=v:=by
     rcases hl with ⟨_,hno⟩|⟨u,e,_,h2,h3,h4⟩
     ·have:=hno v za hvn;rw [(h.next hE v hvn).2 hvh] at this;cases this
     ·have hu:=(h.next hE u h2).1 h3;have hle:=hmin _ hu;rcases Nat.lt_or_ge v u with hlt|hge
      ·have:=h4 v za hlt;rw [(h.next hE v hvn).2 hvh] at this;cases this
      ·rw [e];omega
    unfold rtK;rw [hlv,if_neg za,← hso,e1];exact zie hE k f (yV E s) (h.step hE h0) (by rw [XR];omega) (by rw [XR];omega)
theorem zod {n:Nat} {E:List (Nat×Nat)} (hE:InN n E):rtK E n n []=if (yO n E).length<n then none else some (yO n E):=
 zie hE n (n+1) (yy n E) (TI.start hE) (Nat.zero_add n) (by show n<0+(n+1);omega)
section
open Go.RowKit
def Uh:List Int→List Int→Bool
 | x :: a, y :: b => if x=y then Uh a b else decide (x<y)
 | [], b => decide (0<b.length)
 | _ :: _, [] => false
theorem zi3 {a b:List Int} {i:Nat} (ha:i<a.length) (hb:i<b.length):Uh (a.drop i) (b.drop i)=if nth a i=nth b i then Uh (a.drop (i+1)) (b.drop (i+1)) else decide (nth a i<nth b i):=by
 rw [List.drop_eq_getElem_cons ha,List.drop_eq_getElem_cons hb,nth_eq ha,nth_eq hb];rfl
theorem zfr {a b:List Int} {i:Nat} (hi:i≤a.length) (h:¬ (i<a.length∧i<b.length)) (hb:i≤b.length):Uh (a.drop i) (b.drop i)=decide ((a.length:Int)<b.length):=by
 rcases Nat.lt_or_ge i a.length with h1|h1
 ·have h2:b.length=i:=by omega
  rw [show b.drop i=[] from List.drop_of_length_le za,List.drop_eq_getElem_cons h1];show false=_;simp;omega
 ·rw [List.drop_of_length_le h1];show decide (0<(b.drop i).length)=_;rw [List.length_drop];rcases Nat.lt_or_ge i b.length with h2|h2
  ·simp;omega
  ·simp;omega
theorem zk1 (a b:List Int) (ha:a.length≤1000000) (hb:b.length≤1000000):zV Try.prog 81 [.list 1 (a.map zC),.list 1 (b.map zC)] .fr (.bool (Uh a b)):=by
 refine zV.of_body (c:=(xy Try.prog zD zu 41)) ⟨Try.func81,rfl,Try.ntmps81,by kernel_rfl⟩ zF zx rfl ?_;change FW _ _ _ ⟨[(0,.list 1 (a.map zC)),(1,.list 1 (b.map zC))],[]⟩;refine zb ?_;refine FW.loop (fun i:Nat=>⟨[(0,.list 1 (a.map zC)),(1,.list 1 (b.map zC)),(5,.int .i64 i)],[]⟩) (fun i=>i≤a.length∧i≤b.length∧Uh (a.drop i) (b.drop i)=Uh a b) (fun i=>a.length - i) 0 ⟨Nat.zero_le _,Nat.zero_le _,rfl⟩ (FLe.cv [] zB zd) ?_;rintro i ⟨hi,hj,hR⟩;obtain ⟨R,hRR⟩:∃ R,Uh a b=R:=⟨_,rfl⟩
 rw [hRR] at hR ⊢;refine zb ?_;refine zP (fun h1=>?_) (fun h1=>?_)
 ·have h1' : i<a.length:=by simpa using h1
  refine zb ?_;refine FW.cond rfl (fun h2=>?_) (fun h2=>?_)
  ·have h2' : i<b.length:=by simpa using h2
   rw [zi3 h1' h2'] at hR;refine zQ ?_;refine ⟨by kernel_rfl,?_⟩;skip;refine FW.cond rfl (fun h3=>?_) (fun h3=>?_)
   ·rw [if_neg (by simpa using h3)] at hR;refine zQ ?_;refine ⟨by kernel_rfl,?_⟩;skip;exact FW.ret ⟨.inl rfl,zE rfl rfl (congrArg FV.bool hR) rfl⟩
   ·rw [if_pos (by simpa using h3)] at hR;refine zb ?_;exact ⟨i+1,⟨by omega,by omega,hR⟩,by omega,(FLe.cv [] zB zd)⟩
  ·rw [zfr hi (fun q=>by simp at h2;omega) hj] at hR;refine zb ?_;exact FW.ret ⟨.inl rfl,zE rfl rfl (congrArg FV.bool hR) rfl⟩
 ·rw [zfr hi (fun q=>by simp at h1;omega) hj] at hR;refine zb ?_;exact FW.ret ⟨.inl rfl,zE rfl rfl (congrArg FV.bool hR) rfl⟩
def zeo:List Int→FV
 | [] => .nil
 | x :: l => .list 1 ((x :: l).map zC)
def Yz (l:List Int):List FV:=[zeo l]
def xh (out:List (List Int)) (tg ab k v w:Nat):List Int:=if k=1 then (if w=tg then [(v:Int)] else []) else if ab<w∧nth out w≠[] then (v:Int)::nth out w else []
def zbU (E:List (Nat×Nat)) (out:List (List Int)) (tg ab k v:Nat) (cur:List Int) (w:Nat):List Int:=
 if Ya E v w=true∧xh out tg ab k v w≠[]∧(cur=[]∨Uh (xh out tg ab k v w) cur=true) then xh out tg ab k v w else cur
def zeJ (E:List (Nat×Nat)) (out:List (List Int)) (tg ab k v j:Nat):List Int:=(List.range j).foldl (zbU E out tg ab k v) []
def xW (E:List (Nat×Nat)) (out:List (List Int)) (tg ab k n i:Nat):List (List Int):=(List.range n).map fun v=>if v<i then zeJ E out tg ab k v n else []
def yd (E:List (Nat×Nat)) (tg ab n:Nat):Nat→List (List Int)
 | 0 => List.replicate n []
 | k+1 => xW E (yd E tg ab n k) tg ab (k+1) n n
theorem Wf (E:List (Nat×Nat)) (out:List (List Int)) (tg ab k n i:Nat):(xW E out tg ab k n i).length=n:=by simp [xW]
theorem Xm (E:List (Nat×Nat)) (tg ab n:Nat):∀ k,(yd E tg ab n k).length=n
 | 0 => by simp [yd]
 | k+1 => Wf _ _ _ _ _ _ _
theorem zdm {out:List (List Int)} {tg ab k v w B:Nat} (h:∀ r∈out,r.length≤B):(xh out tg ab k v w).length≤B+1:=by
 have hn:(nth out w).length≤B:=by
  rcases Nat.lt_or_ge w out.length with hw|hw
  ·exact h _ (zy hw)
  ·have:nth out w=[]:=by unfold nth;rw [List.getD_eq_getElem?_getD,List.getElem?_eq_none hw];rfl
   rw [this];exact Nat.zero_le _
 unfold xh;split
 ·split <;> simp
 ·split
  ·simp;omega
  ·simp
theorem zdy {E:List (Nat×Nat)} {out:List (List Int)} {tg ab k v B:Nat} (h:∀ r∈out,r.length≤B):∀ j,(zeJ E out tg ab k v j).length≤B+1
 | 0 => Nat.zero_le _
 | j+1=>by
  have e:zeJ E out tg ab k v (j+1)=zbU E out tg ab k v (zeJ E out tg ab k v j) j:=by
   unfold zeJ;rw [List.range_succ,List.foldl_append];rfl
  rw [e];unfold zbU;split
  ·exact zdm h
  ·exact zdy h j
theorem Uy (E:List (Nat×Nat)) (tg ab n:Nat):∀ k,∀ r∈yd E tg ab n k,r.length≤k
 | 0 => fun r hr => by rw [List.eq_of_mem_replicate hr]; exact Nat.le_refl _
 | k+1 => fun r hr => by
  obtain ⟨v,_,rfl⟩:=List.mem_map.1 hr;split
  ·exact zdy (Uy E tg ab n k) n
  ·simp
theorem zeK (E:List (Nat×Nat)) (out:List (List Int)) (tg ab k v j:Nat):zeJ E out tg ab k v (j+1)=zbU E out tg ab k v (zeJ E out tg ab k v j) j:=by
 unfold zeJ;rw [List.range_succ,List.foldl_append];rfl
theorem zjb (E:List (Nat×Nat)) (out:List (List Int)) (tg ab k n i:Nat):(xW E out tg ab k n i).set i (zeJ E out tg ab k i n)=xW E out tg ab k n (i+1):=by
 unfold xW;rw [VE];refine List.map_congr_left fun v _=>?_;by_cases e:v=i
 ·subst e;rw [if_pos rfl,if_pos za]
 ·rw [if_neg e];by_cases h:v<i
  ·rw [if_pos h,if_pos za]
  ·rw [if_neg h,if_neg za]
theorem zja {E:List (Nat×Nat)} {out:List (List Int)} {tg ab k n i:Nat} (h:i<n):nth (xW E out tg ab k n i) i=[]:=by
 rw [nth_eq (by rw [Wf];exact h)];simp [xW]
theorem zjW (n:Nat) (E:List (Nat×Nat)) (tg ab len:Nat) (hn:n≤1000) (hE:E.length≤1000000) (ht:tg≤1000) (hab:ab≤1000) (hlen:len≤1000):zV Try.prog 67 [.int .i64 n,.list 2 (E.map edf),.int .i64 tg,.int .i64 ab,.int .i64 len] .sh (.list 1 ((yd E tg ab n len).map Yz)):=by
 refine zV.of_body (c:=(xy Try.prog zD zu 97)) ⟨Try.func67,rfl,Try.ntmps67,by kernel_rfl⟩ zF zx rfl ?_;change FW _ _ _ ⟨[(0,.int .i64 n),(1,.list 2 (E.map edf)),(2,.int .i64 tg),(3,.int .i64 ab),(4,.int .i64 len)],[]⟩;refine zb ?_;refine FW.loop (fun k:Nat=>⟨[(0,.int .i64 n),(1,.list 2 (E.map edf)),(2,.int .i64 tg),(3,.int .i64 ab),(4,.int .i64 len),(11,.list 1 ((yd E tg ab n k).map Yz)),(12,.int .i64 (k+1:Nat))],[]⟩) (fun k=>k≤len) (fun k=>len - k) 0 (Nat.zero_le _) ?_ ?_
 ·rw [show List.replicate n [FV.nil]=(yd E tg ab n 0).map Yz by show _=(List.replicate n []).map Yz;rw [List.map_replicate];rfl];refine (FLe.share 11 rfl rfl (by rw [List.length_map,Xm])).trans ?_;exact (FLe.cv [] zB zd)
 intro k hk;have hwl:=Xm E tg ab n k;have hwr:=Uy E tg ab n k;have hws:yd E tg ab n (k+1)=xW E (yd E tg ab n k) tg ab (k+1) n n:=rfl;refine zb ?_;refine FW.cond rfl (fun h=>?_) (fun h=>?_)
 ·have hlt:k<len:=by simp at h;omega
  clear h;obtain ⟨O,hO⟩:∃ O,yd E tg ab n k=O:=⟨_,rfl⟩
  rw [hO] at hwl hwr hws ⊢;obtain ⟨kk,hkk⟩:∃ kk,k+1=kk:=⟨_,rfl⟩
  rw [hkk] at hws ⊢;refine zb ?_;rw [show List.replicate n [FV.nil]=(xW E O tg ab kk n 0).map Yz by
   unfold xW;rw [List.map_map,zbo];exact List.map_congr_left fun v _=>by simp [Yz,zeo]]
  refine FW.loop (fun v:Nat=>⟨[(0,.int .i64 n),(1,.list 2 (E.map edf)),(2,.int .i64 tg),(3,.int .i64 ab),(4,.int .i64 len),(11,.list 1 (O.map Yz)),(12,.int .i64 kk),(13,.own 100 0 0 n),(14,.int .i64 v)],[(100,⟨0,.own,22,1,(xW E O tg ab kk n v).map Yz⟩)]⟩) (fun v=>v≤n) (fun v=>n - v) 0 (Nat.zero_le _) ?_ ?_
  ·exact (FLe.cv [⟨100,some 25,0+1,⟨0,.own,22,1,(xW E O tg ab kk n 0).map Yz⟩⟩] zf zd)
  intro v hv;refine zb ?_;refine FW.cond rfl (fun h=>?_) (fun h=>?_)
  ·have hvn:v<n:=by simpa using h
   clear h;have hX0:=zja (E:=E) (out:=O) (tg:=tg) (ab:=ab) (k:=kk) hvn;have hXs:=zjb E O tg ab kk n v;have hXl:=Wf E O tg ab kk n v;generalize xW E O tg ab kk n v=X at hX0 hXs hXl;refine zb ?_;refine FW.loop (fun w:Nat=>⟨[(0,.int .i64 n),(1,.list 2 (E.map edf)),(2,.int .i64 tg),(3,.int .i64 ab),(4,.int .i64 len),(11,.list 1 (O.map Yz)),(12,.int .i64 kk),(13,.own 100 0 0 n),(14,.int .i64 v),(15,.int .i64 w)],[(100,⟨0,.own,22,1,(X.set v (zeJ E O tg ab kk v w)).map Yz⟩)]⟩) (fun w=>w≤n) (fun w=>n - w) 0 (Nat.zero_le _) ?_ ?_
   ·show FLe _ ⟨[(0,.int .i64 n),(1,.list 2 (E.map edf)),(2,.int .i64 tg),(3,.int .i64 ab),(4,.int .i64 len),(11,.list 1 (O.map Yz)),(12,.int .i64 kk),(13,.own 100 0 0 n),(14,.int .i64 v),(15,.int .i64 0)],[(100,⟨0,.own,22,1,(X.set v []).map Yz⟩)]⟩;rw [show X.set v []=X by rw [← hX0,nth_eq za];exact List.set_getElem_self _];exact (FLe.cv [⟨100,some 100,0,⟨0,.own,22,1,X.map Yz⟩⟩] zf zd)
   intro w hw;have hcl:=zdy (E:=E) (tg:=tg) (ab:=ab) (k:=kk) (v:=v) hwr w;have hcs:=zeK E O tg ab kk v w;obtain ⟨C,hC⟩:∃ C,zeJ E O tg ab kk v w=C:=⟨_,rfl⟩
   rw [hC] at hcs hcl ⊢;have hYn:nth (X.set v C) v=C:=zL za;have hYl:(X.set v C).length=n:=by rw [List.length_set];exact hXl
   have hYs:∀ C',(X.set v C).set v C'=X.set v C':=fun C'=>by rw [List.set_set]
   obtain ⟨Y,hY⟩:∃ Y,X.set v C=Y:=⟨_,rfl⟩
   rw [hY] at hYn hYl hYs ⊢;refine zb ?_;refine FW.cond rfl (fun h=>?_) (fun h=>?_)
   ·have hwn:w<n:=by simpa using h
    clear h;refine zb ?_;refine zO (zi2 E v w hE) (by repeat (first|exact zq.nil|refine zq.cons zm ?_)) rfl rfl ?_;refine zb ?_;refine FW.cond rfl (fun h=>?_) (fun h=>?_)
    ·have hld:Ya E v w=false:=by simpa using h
     have hst:zbU E O tg ab kk v C w=C:=by unfold zbU;rw [if_neg (fun q=>by rw [hld] at q;cases q.1)]
     rw [hst] at hcs;refine zb ?_;refine ⟨w+1,by omega,by omega,?_⟩;rw [hcs,hY];exact (FLe.cv [⟨100,some 100,0,⟨0,.own,22,1,Y.map Yz⟩⟩] zf zd)
    ·have hld:Ya E v w=true:=by simpa using h
     clear h;refine FW.skip ?_;refine FW.seq ?_;refine FW.region ?_;refine zU rfl rfl rfl ?_;refine zp.nil ?_;refine FW.seq ?_;refine FW.join (fun _:Unit=>⟨[(0,.int .i64 n),(1,.list 2 (E.map edf)),(2,.int .i64 tg),(3,.int .i64 ab),(4,.int .i64 len),(11,.list 1 (O.map Yz)),(12,.int .i64 kk),(13,.own 100 0 0 n),(14,.int .i64 v),(15,.int .i64 w),(16,zeo (if kk=1∧w=tg then [(v:Int)] else []))],[(100,⟨0,.own,22,1,Y.map Yz⟩)]⟩) (fun _=>True) ?_ (fun _ _=>?_)
     ·refine zb ?_;refine zP (fun h1=>?_) (fun h1=>?_)
      ·refine zb ?_;refine FW.cond rfl (fun h2=>?_) (fun h2=>?_)
       ·refine zb ?_;refine ⟨rfl,(),trivial,?_⟩;rw [if_pos ⟨by simp at h1;omega,by simp at h2;omega⟩];refine (FLe.share 16 rfl rfl (by rfl)).trans ?_;show FLe _ ⟨[(0,.int .i64 n),(1,.list 2 (E.map edf)),(2,.int .i64 tg),(3,.int .i64 ab),(4,.int .i64 len),(11,.list 1 (O.map Yz)),(12,.int .i64 kk),(13,.own 100 0 0 n),(14,.int .i64 v),(15,.int .i64 w),(16,.list 1 [[.int .i64 v]])],[(100,⟨0,.own,22,1,Y.map Yz⟩)]⟩;exact (FLe.cv [⟨100,some 100,0,⟨0,.own,22,1,Y.map Yz⟩⟩] zf zd)
       ·refine zb ?_;refine ⟨rfl,(),trivial,?_⟩;rw [if_neg (fun q=>by simp at h2;omega)];show FLe _ ⟨[(0,.int .i64 n),(1,.list 2 (E.map edf)),(2,.int .i64 tg),(3,.int .i64 ab),(4,.int .i64 len),(11,.list 1 (O.map Yz)),(12,.int .i64 kk),(13,.own 100 0 0 n),(14,.int .i64 v),(15,.int .i64 w),(16,.nil)],[(100,⟨0,.own,22,1,Y.map Yz⟩)]⟩;exact (FLe.cv [⟨100,some 100,0,⟨0,.own,22,1,Y.map Yz⟩⟩] zf zd)
      ·refine zb ?_;refine ⟨rfl,(),trivial,?_⟩;rw [if_neg (fun q=>by simp at h1;omega)];show FLe _ ⟨[(0,.int .i64 n),(1,.list 2 (E.map edf)),(2,.int .i64 tg),(3,.int .i64 ab),(4,.int .i64 len),(11,.list 1 (O.map Yz)),(12,.int .i64 kk),(13,.own 100 0 0 n),(14,.int .i64 v),(15,.int .i64 w),(16,.nil)],[(100,⟨0,.own,22,1,Y.map Yz⟩)]⟩;exact (FLe.cv [⟨100,some 100,0,⟨0,.own,22,1,Y.map Yz⟩⟩] zf zd)
     refine FW.seq ?_;refine FW.join (fun _:Unit=>⟨[(0,.int .i64 n),(1,.list 2 (E.map edf)),(2,.int .i64 tg),(3,.int .i64 ab),(4,.int .i64 len),(11,.list 1 (O.map Yz)),(12,.int .i64 kk),(13,.own 100 0 0 n),(14,.int .i64 v),(15,.int .i64 w),(16,zeo (xh O tg ab kk v w))],[(100,⟨0,.own,22,1,Y.map Yz⟩)]⟩) (fun _=>True) ?_ (fun _ _=>?_)
     ·obtain ⟨W1,hW1⟩:∃ W1,zeo (if kk=1∧w=tg then [(v:Int)] else [])=W1:=⟨_,rfl⟩
      have hh1:W1=.nil∨W1=.list 1 [[.int .i64 v]]:=by rw [← hW1];split;exact .inr rfl;exact .inl rfl
      rw [hW1];refine zb ?_;refine zP (fun h1=>?_) (fun h1=>?_)
      ·have hk1:¬ kk=1:=by simp at h1;omega
       unfold xh;rw [if_neg hk1];refine zb ?_;refine zP (fun h2=>?_) (fun h2=>?_)
       ·have haw:ab<w:=by simp at h2;omega
        have hol:(nth O w).length≤k:=hwr _ (zy za);refine zb ?_;rcases hOw:nth O w with _|⟨x,r⟩
        ·refine zb ?_;refine ⟨rfl,(),trivial,?_⟩;rw [if_neg (fun q=>q.2 rfl)];rw [if_neg (fun q=>hk1 q.1)] at hW1;subst hW1;exact (FLe.cv [⟨100,some 100,0,⟨0,.own,22,1,Y.map Yz⟩⟩] zf zd)
        ·rw [hOw] at hol;have hrl:r.length+1≤k:=hol;have hpos:decide ((((x::r).length:Nat):Int) > 0)=true:=by simp
         refine zb ?_;rw [hpos];refine zb ?_;rw [hOw];refine zb ?_;refine ⟨rfl,(),trivial,?_⟩;rw [if_pos ⟨haw,List.cons_ne_nil _ _⟩];refine (FLe.share 16 rfl rfl (by rfl)).trans ?_;obtain ⟨Q,hQ⟩:∃ Q,[[FV.int .i64 (v:Int)]]++(x::r).map zC=Q:=⟨_,rfl⟩
         rw [show zeo ((v:Int)::x::r)=.list 1 Q by rw [← hQ];rfl,hQ];exact (FLe.cv [⟨100,some 100,0,⟨0,.own,22,1,Y.map Yz⟩⟩] zf zd)
       ·refine zb ?_;refine ⟨rfl,(),trivial,?_⟩;rw [if_neg (fun q=>by simp at h2;omega)];rw [if_neg (fun q=>hk1 q.1)] at hW1;subst hW1;exact (FLe.cv [⟨100,some 100,0,⟨0,.own,22,1,Y.map Yz⟩⟩] zf zd)
      ·have hk1:kk=1:=by simp at h1;omega
       refine zb ?_;refine ⟨rfl,(),trivial,?_⟩;have:zeo (xh O tg ab kk v w)=W1:=by
        unfold xh;rw [if_pos hk1,← hW1];by_cases e:w=tg
        ·rw [if_pos e,if_pos ⟨hk1,e⟩]
        ·rw [if_neg e,if_neg (fun q=>e q.2)]
       rw [this];clear this hW1;rcases hh1 with rfl|rfl
       ·exact (FLe.cv [⟨100,some 100,0,⟨0,.own,22,1,Y.map Yz⟩⟩] zf zd)
       ·exact (FLe.cv [⟨100,some 100,0,⟨0,.own,22,1,Y.map Yz⟩⟩] zf zd)
     ·have hst:zbU E O tg ab kk v C w=if xh O tg ab kk v w≠[]∧(C=[]∨Uh (xh O tg ab kk v w) C=true) then xh O tg ab kk v w else C:=by
       unfold zbU;by_cases q:xh O tg ab kk v w≠[]∧(C=[]∨Uh (xh O tg ab kk v w) C=true)
       ·rw [if_pos ⟨hld,q⟩,if_pos q]
       ·rw [if_neg (fun q2=>q q2.2),if_neg q]
      rw [hst] at hcs;have hWl:(xh O tg ab kk v w).length≤k+1:=zdm hwr;rcases hW:xh O tg ab kk v w with _|⟨x,r⟩
      ·rw [hW,if_neg (fun q=>q.1 rfl)] at hcs;refine zb ?_;refine ⟨w+1,by omega,by omega,?_⟩;rw [hcs,hY];exact (FLe.cv [⟨100,some 100,0,⟨0,.own,22,1,Y.map Yz⟩⟩] zf zd)
      ·rw [hW] at hcs hWl;have hpos:decide ((((x::r).length:Nat):Int) > 0)=true:=by simp
       refine zb ?_;rw [hpos];refine zb ?_;rw [hYn];rcases C with _|⟨y,s⟩
       ·rw [if_pos ⟨List.cons_ne_nil _ _,.inl rfl⟩] at hcs;refine zb ?_;rw [show (Yz (nth Y v)).set 0 (zeo (x::r))=Yz (x::r) from rfl,← List.map_set,hYs];refine ⟨w+1,by omega,by omega,?_⟩;rw [hcs];obtain ⟨Q,hQ⟩:∃ Q,(X.set v (x::r)).map Yz=Q:=⟨_,rfl⟩
        rw [hQ];exact (FLe.cv [⟨100,some 100,0,⟨0,.own,22,1,Q⟩⟩] zf zd)
       ·refine zb ?_;rw [hYn];refine zO (zk1 (x::r) (y::s) za za) (by repeat (first|exact zq.nil|refine zq.cons zm ?_)) rfl ⟨_,_,rfl,rfl,rfl⟩ ?_;refine zb ?_;refine FW.cond rfl (fun h1=>?_) (fun h1=>?_)
        ·rw [if_pos ⟨List.cons_ne_nil _ _,.inr h1⟩] at hcs;refine zb ?_;rw [show (Yz (nth Y v)).set 0 (zeo (x::r))=Yz (x::r) from rfl,← List.map_set,hYs];refine ⟨w+1,by omega,by omega,?_⟩;rw [hcs];obtain ⟨Q,hQ⟩:∃ Q,(X.set v (x::r)).map Yz=Q:=⟨_,rfl⟩
         rw [hQ];exact (FLe.cv [⟨100,some 100,0,⟨0,.own,22,1,Q⟩⟩] zf zd)
        ·rw [if_neg (fun q=>by rcases q.2 with q|q;cases q;rw [h1] at q;cases q)] at hcs;refine zb ?_;refine ⟨w+1,by omega,by omega,?_⟩;rw [hcs,hY];exact (FLe.cv [⟨100,some 100,0,⟨0,.own,22,1,Y.map Yz⟩⟩] zf zd)
   ·obtain rfl:w=n:=by simp at h;omega
    rw [hC] at hXs;refine zb ?_;refine ⟨v+1,by omega,by omega,?_⟩;rw [← hXs,hY];exact (FLe.cv [⟨100,some 100,0,⟨0,.own,22,1,Y.map Yz⟩⟩] zf zd)
  ·obtain rfl:v=n:=by simp at h;omega
   refine zb ?_;refine ⟨k+1,by omega,by omega,?_⟩;rw [hkk,hws];have hNl:=Wf E O tg ab kk v v;generalize xW E O tg ab kk v v=N at hNl;refine (FLe.share 11 rfl rfl (by rw [List.length_map,hNl])).trans ?_;exact (FLe.cv [] zB zd)
 ·obtain rfl:k=len:=by simp at h;omega
  refine zb ?_;exact FW.ret ⟨.inl rfl,.sh (.cons (.tmp 10 rfl rfl) .nil) rfl rfl⟩
def Xx (E:List (Nat×Nat)) (n len s:Nat):List Int:=nth (yd E s s n len) s
def Zi (E:List (Nat×Nat)) (n len:Nat):Nat→Nat→List Int
 | 0, _ => []
 | k+1, s => if Xx E n len s=[] then Zi E n len k (s+1) else Xx E n len s
def Yu (E:List (Nat×Nat)) (n:Nat):Nat→Nat→List Int
 | 0, _ => []
 | k+1, len => if Zi E n len n 0=[] then Yu E n k (len+1) else Zi E n len n 0
def xF (E:List (Nat×Nat)) (n:Nat):List Int:=Yu E n n 1
theorem zg3 (n:Nat) (E:List (Nat×Nat)) (hn:n≤900) (hE:E.length≤1000000):zV Try.prog 46 [.int .i64 n,.list 2 (E.map edf)] .sh (.list 1 ((xF E n).map zC)):=by
 obtain ⟨R,hR⟩:∃ R,xF E n=R:=⟨_,rfl⟩
 rw [hR];refine zV.of_body (c:=(xy Try.prog zD zu 31)) ⟨Try.func46,rfl,Try.ntmps46,by kernel_rfl⟩ zF zx rfl ?_;change FW _ _ _ ⟨[(0,.int .i64 n),(1,.list 2 (E.map edf))],[]⟩;refine zb ?_;refine FW.loop (fun k:Nat=>⟨[(0,.int .i64 n),(1,.list 2 (E.map edf)),(5,.int .i64 (k+1:Nat))],[]⟩) (fun k=>k≤n∧Yu E n (n - k) (k+1)=R) (fun k=>n - k) 0 ⟨Nat.zero_le _,hR⟩ (FLe.cv [] zB zd) ?_;clear hR;rintro k ⟨hk,hR⟩;refine zb ?_;refine FW.cond rfl (fun h=>?_) (fun h=>?_)
 ·have hlt:k<n:=by simp at h;omega
  clear h;rw [show n - k=(n - (k+1))+1 by omega] at hR;unfold Yu at hR;obtain ⟨len,hlen⟩:∃ len,k+1=len:=⟨_,rfl⟩
  rw [hlen] at hR ⊢;obtain ⟨A,hA⟩:∃ A,Zi E n len n 0=A:=⟨_,rfl⟩
  rw [hA] at hR;refine zb ?_;refine FW.loop (fun s:Nat=>⟨[(0,.int .i64 n),(1,.list 2 (E.map edf)),(5,.int .i64 len),(6,.int .i64 s)],[]⟩) (fun s=>s≤n∧Zi E n len (n - s) s=A) (fun s=>n - s) 0 ⟨Nat.zero_le _,hA⟩ (FLe.cv [] zB zd) ?_;clear hA;rintro s ⟨hs,hS⟩;refine zb ?_;refine FW.cond rfl (fun h=>?_) (fun h=>?_)
  ·have hsn:s<n:=by simpa using h
   clear h;rw [show n - s=(n - (s+1))+1 by omega] at hS;unfold Zi at hS;refine zb ?_;refine yj (zjW n E s s len za hE za za za) (by repeat (first|exact zq.nil|refine zq.cons zm ?_)) rfl rfl ?_;have hwl:=Xm E s s n len;have hwr:=Uy E s s n len;have hca:Xx E n len s=nth (yd E s s n len) s:=rfl;generalize yd E s s n len=W at hwl hwr hca;have hrl:(nth W s).length≤len:=hwr _ (zy za);refine zb ?_;rcases hWs:nth W s with _|⟨x,r⟩
   ·rw [hWs] at hca;rw [hca,if_pos rfl] at hS;refine zb ?_;exact ⟨s+1,⟨by omega,hS⟩,by omega,(FLe.cv [] zB zd)⟩
   ·rw [hWs] at hca;rw [hca,if_neg (List.cons_ne_nil _ _)] at hS;rw [← hS,if_neg (List.cons_ne_nil _ _)] at hR;have hpos:decide ((((x::r).length:Nat):Int) > 0)=true:=by simp
    refine zb ?_;rw [hpos];refine zb ?_;rw [← hR];exact FW.ret ⟨.inl rfl,.sh (.cons (.tmp 4 rfl rfl) .nil) rfl rfl⟩
  ·obtain rfl:s=n:=by simp at h;omega
   rw [Nat.sub_self] at hS;have hA0:A=[]:=hS.symm;rw [if_pos hA0] at hR;refine zb ?_;exact ⟨k+1,⟨by omega,by rw [hlen];exact hR⟩,by omega,(FLe.cv [] zB zd)⟩
 ·obtain rfl:k=n:=by simp at h;omega
  rw [Nat.sub_self] at hR;subst hR;refine zb ?_;refine FW.le (s':=⟨[(4,.list 1 [])],[]⟩) ?_ (FLe.cv [] zB zd);exact FW.ret ⟨.inl rfl,.sh (.cons (.tmp 4 rfl rfl) .nil) rfl rfl⟩
end
theorem zi1 {E:List (Nat×Nat)} {a b:Nat}:Ya E a b=true↔(b:Int)∈zA E a:=by
 unfold Ya;rw [List.any_eq_true,xr];constructor
 ·rintro ⟨e,he,h⟩;simp only [Bool.and_eq_true,decide_eq_true_eq] at h;exact ⟨e,he,by omega,h.2⟩
 ·rintro ⟨e,he,h1,h2⟩;exact ⟨e,he,by simp only [Bool.and_eq_true,decide_eq_true_eq];omega⟩
def Wx (n:Nat) (E:List (Nat×Nat)) (s:Nat):Nat→Nat→Prop
 | 0, _ => False
 | 1, v => (s:Int) ∈ zA E v
 | k+2, v => ∃ w:Nat, w<n ∧ (w:Int) ∈ zA E v ∧ s<w ∧ Wx n E s (k+1) w
def znl (E:List (Nat×Nat)) (O:List (List Int)) (tg ab k v w:Nat):Prop:=Ya E v w=true∧xh O tg ab k v w≠[]
theorem XX {E:List (Nat×Nat)} {O:List (List Int)} {s k v:Nat} (hh:∀ w,nth O w≠[]→∃ r,nth O w=(w:Int)::r):∀ j,(zeJ E O s s k v j=[]∧∀ w,w<j→¬ znl E O s s k v w)∨∃ w,w<j∧znl E O s s k v w∧(∀ u,u<w→¬ znl E O s s k v u)∧zeJ E O s s k v j=xh O s s k v w
 | 0 => .inl ⟨rfl, fun w hw => by omega⟩
 | j + 1=>by
  rw [zeK];rcases XX (E:=E) (O:=O) (s:=s) (k:=k) (v:=v) hh j with ⟨e,h⟩|⟨w,h1,h2,h3,e⟩
  ·rw [e];unfold zbU;by_cases hc:znl E O s s k v j
   ·rw [if_pos ⟨hc.1,hc.2,.inl rfl⟩];exact .inr ⟨j,Nat.lt_succ_self _,hc,fun u hu=>h u hu,rfl⟩
   ·rw [if_neg (fun q=>hc ⟨q.1,q.2.1⟩)];refine .inl ⟨rfl,fun w hw=>?_⟩;by_cases hwj:w=j
    ·subst hwj;exact hc
    ·exact h w za
  ·rw [e];refine .inr ⟨w,by omega,h2,h3,?_⟩;unfold zbU;refine if_neg fun q=>?_;obtain ⟨q1,q2,q3⟩:=q;rcases q3 with q3|q3
   ·exact h2.2 q3
   ·have hw2:=h2.2;unfold xh at q2 q3 hw2;by_cases hk:k=1
    ·rw [if_pos hk] at q2 hw2;rw [if_pos hk,if_pos hk] at q3;by_cases e1:j=s
     ·by_cases e2:w=s
      ·omega
      ·rw [if_neg e2] at hw2;exact hw2 rfl
     ·rw [if_neg e1] at q2;exact q2 rfl
    ·rw [if_neg hk] at q2 hw2;rw [if_neg hk,if_neg hk] at q3;by_cases e1:s<j∧nth O j≠[]
     ·by_cases e2:s<w∧nth O w≠[]
      ·rw [if_pos e1,if_pos e2] at q3;obtain ⟨r1,f1⟩:=hh j e1.2;obtain ⟨r2,f2⟩:=hh w e2.2;rw [f1,f2] at q3;unfold Uh at q3;rw [if_pos rfl] at q3;unfold Uh at q3;rw [if_neg za] at q3;simp at q3;omega
      ·rw [if_neg e2] at hw2;exact hw2 rfl
     ·rw [if_neg e1] at q2;exact q2 rfl
theorem zbZ {E:List (Nat×Nat)} {s n k v:Nat} (hv:v<n):nth (yd E s s n (k+1)) v=zeJ E (yd E s s n k) s s (k+1) v n:=by
 have e:yd E s s n (k+1)=(List.range n).map fun v=>if v<n then zeJ E (yd E s s n k) s s (k+1) v n else []:=rfl
 rw [e,nth_eq (by simpa using hv)];simp [hv]
theorem Uz {E:List (Nat×Nat)} {s n:Nat}:∀ (k w:Nat),nth (yd E s s n k) w≠[]→w<n∧∃ r,nth (yd E s s n k) w=(w:Int)::r
 | 0, w, h => by
  refine absurd ?_ h;rcases Nat.lt_or_ge w n with hw|hw
  ·rw [nth_eq (by simpa [yd] using hw)];simp [yd]
  ·unfold nth;rw [List.getD_eq_getElem?_getD,List.getElem?_eq_none (by simpa [yd] using hw)];rfl
 | k + 1,w,h=>by
  have hw:w<n:=by
   rcases Nat.lt_or_ge w n with hw|hw
   ·exact hw
   ·refine absurd ?_ h;unfold nth;rw [List.getD_eq_getElem?_getD,List.getElem?_eq_none (by rw [Xm];exact hw)];rfl
  refine ⟨hw,?_⟩;rw [zbZ hw] at h ⊢;rcases XX (E:=E) (s:=s) (k:=k+1) (v:=w) (fun u hu=>(Uz k u hu).2) n with ⟨e,_⟩|⟨u,_,hc,_,e⟩
  ·exact absurd e h
  ·rw [e];have h2:=hc.2;unfold xh at h2 ⊢;split at h2
   ·split at h2
    ·rename_i h3 h4;rw [if_pos h3,if_pos h4];exact ⟨_,rfl⟩
    ·exact absurd rfl h2
   ·split at h2
    ·rename_i h3 h4;rw [if_neg h3,if_pos h4];exact ⟨_,rfl⟩
    ·exact absurd rfl h2
theorem XU {E:List (Nat×Nat)} {s n k v w:Nat}:znl E (yd E s s n k) s s (k+1) v w↔(w:Int)∈zA E v∧if k=0 then w=s else s<w∧nth (yd E s s n k) w≠[]:=by
 unfold znl;rw [zi1];refine and_congr Iff.rfl ?_;unfold xh;by_cases hk:k=0
 ·subst hk;rw [if_pos rfl,if_pos rfl];by_cases e:w=s
  ·rw [if_pos e];simp [e]
  ·rw [if_neg e];simp [e]
 ·rw [if_neg za,if_neg hk];by_cases e:s<w∧nth (yd E s s n k) w≠[]
  ·rw [if_pos e];simp [e.1,e.2]
  ·rw [if_neg e];constructor
   ·intro q;exact absurd rfl q
   ·intro q;exact absurd q e
theorem YW {n:Nat} {E:List (Nat×Nat)} (h:InN n E) {s:Nat} (hs:s<n):∀ (k v:Nat),v<n→(nth (yd E s s n (k+1)) v≠[]↔Wx n E s (k+1) v)
 | k,v,hv=>by
  rw [zbZ hv];have hex:zeJ E (yd E s s n k) s s (k+1) v n≠[]↔∃ w,w<n∧znl E (yd E s s n k) s s (k+1) v w:=by
   rcases XX (E:=E) (s:=s) (k:=k+1) (v:=v) (fun u hu=>(Uz k u hu).2) n with ⟨e,hno⟩|⟨u,h1,hc,_,e⟩
   ·constructor
    ·intro q;exact absurd e q
    ·rintro ⟨w,h1,h2⟩;exact absurd h2 (hno w h1)
   ·constructor
    ·intro _;exact ⟨u,h1,hc⟩
    ·intro _;rw [e];exact hc.2
  rw [hex];cases k with
  | zero=>
   constructor
   ·rintro ⟨w,_,hc⟩;obtain ⟨c1,c2⟩:=XU.1 hc;rw [if_pos rfl] at c2;subst c2;exact c1
   ·intro hm;exact ⟨s,hs,XU.2 ⟨hm,by rw [if_pos rfl]⟩⟩
  | succ k=>
   constructor
   ·rintro ⟨w,hw,hc⟩;obtain ⟨c1,c2⟩:=XU.1 hc;rw [if_neg za] at c2;exact ⟨w,hw,c1,c2.1,(YW h hs k w hw).1 c2.2⟩
   ·rintro ⟨w,hw,hm,hsw,hx⟩;exact ⟨w,hw,XU.2 ⟨hm,by rw [if_neg za];exact ⟨hsw,(YW h hs k w hw).2 hx⟩⟩⟩
section
variable {n:Nat} {E:List (Nat×Nat)} (h:InN n E) {s:Nat} (hs:s<n)
include h hs
theorem Wx.dist:∀ (k w:Nat),w<n→s<w→Wx n E s (k+1) w→0≤nth (zX n E s) w∧nth (zX n E s) w≤(k+1:Nat)
 | 0, w, hw, hsw, hx => by
  have h0:=zht h hs;have:=VY h hs hs hw (show (s:Int)∈zA E w from hx) hsw za;omega
 | k+1, w, hw, hsw, hx => by
  obtain ⟨u,hu,hm,hsu,hxu⟩:=hx;have h1:=Wx.dist k u hu hsu hxu;have:=VY h hs hu hw hm hsw h1.1;omega
theorem zdB:∀ (k w:Nat),w<n→nth (zX n E s) w=(k+1:Nat)→s<w∧Wx n E s (k+1) w
 | 0, w, hw, hd => by
  refine ⟨Ve h hs hw za,?_⟩;obtain ⟨u,hu,hm,hdu⟩:=zaC h hs hw za;have:u=s:=zcu h hs hu za;subst this;exact hm
 | k+1, w, hw, hd => by
  refine ⟨Ve h hs hw za,?_⟩;obtain ⟨u,hu,hm,hdu⟩:=zaC h hs hw za;obtain ⟨h1,h2⟩:=zdB k u hu za;exact ⟨u,hu,hm,h1,h2⟩
end
theorem zbS (d:List Int) (st:Int):∀ (row:List Int) (len:Int),0≤len→(0<len→row.foldl (yr d st) len≤len∧0<row.foldl (yr d st) len)∧∀ w∈row,st≤w→0≤nth d w.toNat→0<row.foldl (yr d st) len∧row.foldl (yr d st) len≤nth d w.toNat+1
 | [], len, _ => ⟨fun h => ⟨Int.le_refl _, h⟩, fun w hw => by cases hw⟩
 | x::row,len,h0=>by
  rw [List.foldl_cons];have hs:0≤yr d st len x∧(0<len→yr d st len x≤len∧0<yr d st len x)∧(st≤x→0≤nth d x.toNat→0<yr d st len x∧yr d st len x≤nth d x.toNat+1):=by
   unfold yr;split <;> rename_i hc
   ·refine ⟨by omega,fun _=>?_,fun _ _=>by omega⟩;rcases hc.2 with h|h <;> omega
   ·refine ⟨h0,fun _=>by omega,fun h1 h2=>?_⟩;have:¬ (len=0∨nth d x.toNat+1<len):=fun q=>hc ⟨⟨h1,h2⟩,q⟩;omega
  obtain ⟨i1,i2⟩:=zbS d st row (yr d st len x) hs.1;refine ⟨fun h=>?_,fun w hw h1 h2=>?_⟩
  ·have:=hs.2.1 h;have:=i1 this.2;omega
  ·rcases List.mem_cons.1 hw with rfl|hw
   ·have h3:=hs.2.2 h1 h2;have:=i1 h3.1;omega
   ·exact i2 w hw h1 h2
theorem WP {d:List Int} {st:Int} {row:List Int} {w:Int} (hw:w∈row) (h1:st≤w) (h2:0≤nth d w.toNat):0<xe d st row∧xe d st row≤nth d w.toNat+1:=(zbS d st row 0 (Int.le_refl _)).2 w hw h1 h2
theorem UI (p:Int→Bool) (r:List Int):∀ (k i j:Nat),Xr p r k i=(j:Int)→∀ q,i≤q→q<j→p (nth r q)=false
 | 0, i, j, h, q, _, _ => by
  have:(-1:Int)=j:=h;omega
 | k+1,i,j,h,q,h1,h2=>by
  unfold Xr at h;by_cases hp:p (nth r i)=true
  ·rw [if_pos hp] at h;omega
  ·rw [if_neg hp] at h;by_cases e:q=i
   ·subst e;simpa using hp
   ·exact UI p r k (i+1) j h q za h2
section
variable {n:Nat} {E:List (Nat×Nat)} (h:InN n E) {s:Nat} (hs:s<n)
include h hs
theorem zcP {L:Nat} (hx:Wx n E s (L+1) s):0<xe (zX n E s) s (zA E s)∧xe (zX n E s) s (zA E s)≤(L+1:Nat):=by
 cases L with
 | zero =>
  have h0:=zht h hs;have:=WP (d:=zX n E s) (st:=s) (show (s:Int)∈zA E s from hx) (Int.le_refl _) (by rw [Int.toNat_natCast];omega);rw [Int.toNat_natCast] at this;omega
 | succ L =>
  obtain ⟨w,hw,hm,hsw,hxw⟩:=hx;have hd:=Wx.dist h hs L w hw hsw hxw;have:=WP (d:=zX n E s) (st:=s) hm za (by rw [Int.toNat_natCast];omega);rw [Int.toNat_natCast] at this;omega
theorem zdn {L:Nat} (hL:xe (zX n E s) s (zA E s)=(L+1:Nat)):Wx n E s (L+1) s:=by
 rcases Ui (zX n E s) s (zA E s) with e|⟨w,hw,h1,h2,h3⟩
 ·omega
 ·have hin:=yB h hw;obtain ⟨w,rfl⟩:∃ w' : Nat,w=w':=⟨w.toNat,by omega⟩
  rw [Int.toNat_natCast] at h2 h3;cases L with
  | zero =>
   have:w=s:=zcu h hs za za;subst this;exact hw
  | succ L =>
   obtain ⟨k1,k2⟩:=zdB h hs L w za za;exact ⟨w,by omega,hw,k1,k2⟩
theorem zih:∀ (k v:Nat),v<n→Wx n E s (k+1) v→(∀ w:Nat,(w:Int)∈zA E v→s<w→0≤nth (zX n E s) w→(k:Int)≤nth (zX n E s) w)→nth (yd E s s n (k+1)) v=(v:Int)::Yp E (zX n E s) s k v
 | k, v, hv,hx,hmin=>by
  have hne:=(YW h hs k v hv).2 hx;rw [zbZ hv] at hne ⊢;rcases XX (E:=E) (s:=s) (k:=k+1) (v:=v) (fun u hu=>(Uz k u hu).2) n with ⟨e,_⟩|⟨u,hu,hc,hfirst,e⟩
  ·exact absurd e hne
  ·rw [e];obtain ⟨c1,c2⟩:=XU.1 hc;cases k with
   | zero =>
    rw [if_pos rfl] at c2;unfold xh;rw [if_pos rfl,if_pos c2];rfl
   | succ k=>
    rw [if_neg za] at c2;have hxu:=(YW h hs k u hu).1 c2.2;have hdu:=Wx.dist h hs k u hu c2.1 hxu;have hmu:=hmin u c1 c2.1 hdu.1;have hdu' : nth (zX n E s) u=(k+1:Nat):=by omega
    have hon:WQ (zX n E s) s (k+1:Nat) u=true:=by
     unfold WQ;rw [decide_eq_true_eq,Int.toNat_natCast];exact ⟨by omega,hdu'⟩
    obtain ⟨j,hj,hfx,hpj⟩:=WM c1 hon;have hin:=yB h (zy hj);obtain ⟨x,hxn⟩:∃ x:Nat,nth (zA E v) j=x:=⟨(nth (zA E v) j).toNat,by omega⟩
    have hux:u=x:=by
     rw [hxn] at hpj hin;unfold WQ at hpj;rw [decide_eq_true_eq,Int.toNat_natCast] at hpj;have hxm:(x:Int)∈zA E v:=by rw [← hxn];exact zy hj
     obtain ⟨_,hwx⟩:=zdB h hs k x za hpj.2;have hcx:znl E (yd E s s n (k+1)) s s (k+1+1) v x:=XU.2 ⟨hxm,by rw [if_neg za];exact ⟨by omega,(YW h hs k x za).2 hwx⟩⟩;rcases Nat.lt_trichotomy u x with hlt|heq|hgt
     ·-- u stands ahead of x in the row,and UJ takes the first
      obtain ⟨q,hq,hqu⟩:=List.getElem_of_mem c1;have hqj:q<j:=by
       rcases Nat.lt_or_ge q j with q1|q1
       ·exact q1
       ·have hasc:=List.pairwise_iff_getElem.1 (zf8 E v);rcases Nat.lt_or_ge j q with q2|q2
        ·have:=hasc j q hj hq q2;rw [← nth_eq hj,hxn,hqu] at this;omega
        ·obtain rfl:q=j:=by omega
         rw [nth_eq hq,hqu] at hxn;omega
      have:=UI (WQ (zX n E s) s (k+1:Nat)) (zA E v) (zA E v).length 0 j hfx q (Nat.zero_le _) hqj;rw [nth_eq hq,hqu] at this;rw [hon] at this;cases this
     ·exact heq
     ·exact absurd hcx (hfirst x hgt)
    have hstep:xN E (zX n E s) s (k+1:Nat) v=u:=by
     unfold xN;rw [hfx,Int.toNat_natCast,hxn,hux,Int.toNat_natCast]
    show xh (yd E s s n (k+1)) s s (k+1+1) v u=(v:Int)::Yp E (zX n E s) s (k+1) v;unfold xh;rw [if_neg za,if_pos c2];have ih:=zih k u hu hxu fun w hw hsw h0=>by
     have hwin:=yB h hw;have:=VY h hs (u:=w) (v:=u) za hu hw c2.1 h0;omega
    rw [ih];show _=(v:Int)::((xN E (zX n E s) s (k+1:Nat) v:Nat):Int)::Yp E (zX n E s) s k (xN E (zX n E s) s (k+1:Nat) v);rw [hstep]
end
theorem zi5 (d:List Int) (st:Int) (row:List Int):0≤xe d st row:=by
 rcases Ui d st row with e|⟨w,_,_,h2,h3⟩ <;> omega
def lenOf (n:Nat) (E:List (Nat×Nat)) (s:Nat):Int:=xe (zX n E s) s (zA E s)
section
variable {n:Nat} {E:List (Nat×Nat)} (h:InN n E)
include h
theorem zdQ {s:Nat} (hs:s<n) (h0:lenOf n E s≠0):∃ K:Nat,lenOf n E s=(K+1:Nat)∧K<n∧Xx E n (K+1) s=(s:Int)::Yp E (zX n E s) s K s:=by
 obtain ⟨K,hK,hKn,_⟩:=Xh h hs h0;refine ⟨K,hK,hKn,zih h hs K s hs (zdn h hs hK) fun w hw hsw hd=>?_⟩;have:=WP (d:=zX n E s) (st:=s) hw za (by rw [Int.toNat_natCast];exact hd);rw [Int.toNat_natCast,hK] at this;omega
theorem zen {s L:Nat} (hs:s<n) (h0:Xx E n (L+1) s≠[]):0<lenOf n E s∧lenOf n E s≤(L+1:Nat):=zcP h hs ((YW h hs L s hs).1 h0)
theorem zad:∀ i,i≤n→(zes n E i=[]∧∀ s,s<i→lenOf n E s=0)∨∃ s0 K,s0<i∧lenOf n E s0=((K+1:Nat):Int)∧zes n E i=(s0:Int)::Yp E (zX n E s0) s0 K s0∧(∀ s,s<i→lenOf n E s≠0→((K+1:Nat):Int)≤lenOf n E s)∧∀ s,s<s0→lenOf n E s≠0→((K+1:Nat):Int)<lenOf n E s
 | 0, _ => .inl ⟨rfl, fun s hs => by omega⟩
 | i + 1,hi=>by
  rw [zaE];have hL:xe (zX n E i) i (zA E i)=lenOf n E i:=rfl;have hnn:0≤lenOf n E i:=zi5 _ _ _;unfold WJ;dsimp only;rw [hL];rcases zad i za with ⟨e,hz⟩|⟨s0,K,h1,h2,e,h4,h5⟩
  ·rw [e];by_cases h0:lenOf n E i=0
   ·rw [if_pos (.inl h0)];refine .inl ⟨rfl,fun s hs=>?_⟩;by_cases hsi:s=i
    ·subst hsi;exact h0
    ·exact hz s za
   ·rw [if_neg (by rintro (q|q);exact h0 q;exact q.1 rfl)];obtain ⟨K,hK,_,_⟩:=zdQ h za h0;refine .inr ⟨i,K,Nat.lt_succ_self _,hK,by rw [hK,Int.toNat_natCast];rfl,fun s hs hne=>?_,fun s hs hne=>absurd (hz s hs) hne⟩;by_cases hsi:s=i
    ·subst hsi;omega
    ·exact absurd (hz s za) hne
  ·have hlen:(zes n E i).length=K+1:=by rw [e,List.length_cons,VQ]
   by_cases hc:lenOf n E i=0∨(zes n E i≠[]∧((zes n E i).length:Int)≤lenOf n E i)
   ·rw [if_pos hc];refine .inr ⟨s0,K,by omega,h2,e,fun s hs hne=>?_,h5⟩;by_cases hsi:s=i
    ·subst hsi;rcases hc with q|q
     ·exact absurd q hne
     ·rw [hlen] at q;exact q.2
    ·exact h4 s za hne
   ·rw [if_neg hc];have h0:lenOf n E i≠0:=fun q=>hc (.inl q);have hlt:lenOf n E i<((K+1:Nat):Int):=by
     have:¬ ((zes n E i).length:Int)≤lenOf n E i:=fun q=>hc (.inr ⟨by rw [e];exact List.cons_ne_nil _ _,q⟩);rw [hlen] at this;omega
    obtain ⟨K',hK,_,_⟩:=zdQ h za h0;refine .inr ⟨i,K',Nat.lt_succ_self _,hK,by rw [hK,Int.toNat_natCast];rfl,fun s hs hne=>?_,fun s hs hne=>?_⟩
    ·by_cases hsi:s=i
     ·subst hsi;omega
     ·have:=h4 s za hne;omega
    ·have:=h4 s hs hne;omega
end
theorem Ua {E:List (Nat×Nat)} {n len:Nat}:∀ (k s:Nat),(∀ u,s≤u→u<s+k→Xx E n len u=[])→Zi E n len k s=[]
 | 0, _, _ => rfl
 | k+1, s, h => by
  unfold Zi;rw [if_pos (h s (Nat.le_refl _) za)];exact Ua k (s+1) fun u h1 h2=>h u za za
theorem UE {E:List (Nat×Nat)} {n len s0:Nat} (h0:Xx E n len s0≠[]):∀ (k s:Nat),s≤s0→s0<s+k→(∀ u,s≤u→u<s0→Xx E n len u=[])→Zi E n len k s=Xx E n len s0
 | 0, s, h1, h2, _ => by omega
 | k+1,s,h1,h2,h=>by
  unfold Zi;by_cases e:s=s0
  ·subst e;rw [if_neg h0]
  ·rw [if_pos (h s (Nat.le_refl _) za)];exact UE h0 k (s+1) za za fun u q1 q2=>h u za q2
theorem zaF {E:List (Nat×Nat)} {n:Nat}:∀ (k len:Nat),(∀ l,len≤l→l<len+k→Zi E n l n 0=[])→Yu E n k len=[]
 | 0, _, _ => rfl
 | k+1, len, h => by
  unfold Yu;rw [if_pos (h len (Nat.le_refl _) za)];exact zaF k (len+1) fun u h1 h2=>h u za za
theorem Vj {E:List (Nat×Nat)} {n l0:Nat} (h0:Zi E n l0 n 0≠[]):∀ (k len:Nat),len≤l0→l0<len+k→(∀ l,len≤l→l<l0→Zi E n l n 0=[])→Yu E n k len=Zi E n l0 n 0
 | 0, len, h1, h2, _ => by omega
 | k+1,len,h1,h2,h=>by
  unfold Yu;by_cases e:len=l0
  ·subst e;rw [if_neg h0]
  ·rw [if_pos (h len (Nat.le_refl _) za)];exact Vj h0 k (len+1) za za fun u q1 q2=>h u za q2
theorem zae {n:Nat} {E:List (Nat×Nat)} (h:InN n E):ze3 n E=xF E n:=by
 rcases zad h n (Nat.le_refl _) with ⟨e,hz⟩|⟨s0,K,h1,h2,e,h4,h5⟩
 ·show zes n E n=_;rw [e];refine (zaF n 1 fun l hl1 hl2=>Ua n 0 fun u _ hu=>?_).symm;obtain ⟨l,rfl⟩:∃ l',l=l'+1:=⟨l - 1,by omega⟩
  by_cases hc:Xx E n (l+1) u=[]
  ·exact hc
  ·have:=zen h za hc;have:=hz u za;omega
 ·show zes n E n=_;rw [e];obtain ⟨K',hK',hKn,hw⟩:=zdQ h h1 za;obtain rfl:K'=K:=by omega
  have hne:Xx E n (K'+1) s0≠[]:=by rw [hw];exact List.cons_ne_nil _ _
  have hrow:Zi E n (K'+1) n 0=Xx E n (K'+1) s0:=UE hne n 0 (Nat.zero_le _) za fun u _ hu=>by
   by_cases hc:Xx E n (K'+1) u=[]
   ·exact hc
   ·have q:=zen h za hc;have:=h5 u hu za;omega
  unfold xF;rw [Vj (l0:=K'+1) (by rw [hrow];exact hne) n 1 za za fun l hl1 hl2=>Ua n 0 fun u _ hu=>?_,hrow,hw];obtain ⟨l,rfl⟩:∃ l',l=l'+1:=⟨l - 1,by omega⟩
  by_cases hc:Xx E n (l+1) u=[]
  ·exact hc
  ·have q:=zen h za hc;have:=h4 u za za;omega
section
open Go.RowKit
theorem zgv (n:Nat) (E:List (Nat×Nat)) (hn:n≤14) (hE:E.length≤1000) (hin:InN n E):zV Try.prog 56 [.int .i64 n,.list 2 (E.map edf)] .sh (.list 1 ((xF E n).map zC)):=by
 rw [← zae hin];exact zix n E hn hE hin
end
section
variable {E E' : List (Nat×Nat)} (h:∀ e,e∈E↔e∈E')
include h
theorem zgQ:Ya E=Ya E':=by
 funext a b;unfold Ya;rw [Bool.eq_iff_iff,List.any_eq_true,List.any_eq_true];exact ⟨fun ⟨e,he,hp⟩=>⟨e,(h e).1 he,hp⟩,fun ⟨e,he,hp⟩=>⟨e,(h e).2 he,hp⟩⟩
theorem zg5:YO E=YO E':=by
 funext a b;unfold YO;rw [Bool.eq_iff_iff,List.all_eq_true,List.all_eq_true];exact ⟨fun H e he=>H e ((h e).2 he),fun H e he=>H e ((h e).1 he)⟩
theorem zbY (tg ab n:Nat):∀ k,yd E tg ab n k=yd E' tg ab n k
 | 0 => rfl
 | k+1 => by
  show xW E _ _ _ _ _ _=xW E' _ _ _ _ _ _;rw [zbY tg ab n k];unfold xW zeJ zbU;rw [zgQ h]
theorem zgq (n len s:Nat):Xx E n len s=Xx E' n len s:=by unfold Xx;rw [zbY h]
theorem UD (n len:Nat):∀ k s,Zi E n len k s=Zi E' n len k s
 | 0, _ => rfl
 | k+1, s => by
  show (if _ then _ else _)=(if _ then _ else _)
  rw [zgq h,UD n len k]
theorem Vi (n:Nat):∀ k len,Yu E n k len=Yu E' n k len
 | 0, _ => rfl
 | k+1, len => by
  show (if _ then _ else _)=(if _ then _ else _)
  rw [UD h,Vi n k]
theorem XF (n:Nat):xF E n=xF E' n:=Vi h n n 1
theorem zbL (n:Nat):∀ k out,rtK E n k out=rtK E' n k out
 | 0, _ => rfl
 | k+1, out => by
  have e:Ww E out=Ww E' out:=by funext v;unfold Ww;rw [zg5 h]
  show (if _ then _ else _)=(if _ then _ else _)
  rw [e,zbL n k]
end
section
open Go.RowKit
def znT (sz:Nat):List (List FV)→FV
 | [] => .nil
 | e :: es => .list sz (e :: es)
def YV (ck cls arg:Int) (ord:List Nat) (ed:List EdC):List FV:=[.int .i64 ck,.int .i64 cls,.int .i64 arg,znT 1 (ord.map yp),znT 3 (ed.map EdC.fv)]
def zfP (l:List OpV):FV:=zjt l (.list 1 ((zN l l.length).map yp)) (.list 1 ((List.range l.length).map fun q=>[xp (KC l q)]))
def zjS (l:List OpV):FV:=match WV l with
 | some i => .tup [.agg (YV 0 2 (nth l i).key [i] []), .bool true]
 | none => .tup [.agg (YV 0 0 0 [] []), .bool false]
theorem xm {α:Type} [Inhabited α] {p:α→Bool} {l:List α} {j:Nat} (h:∀ i,i<j→p (nth l i)=false) (hj:j<l.length) (hp:p (nth l j)=true):l.find? p=some (nth l j):=by
 rw [nth_eq hj] at hp ⊢;have:l=l.take j++l[j]::l.drop (j+1):=by rw [← List.drop_eq_getElem_cons hj,List.take_append_drop]
 rw [List.find?_eq_some_iff_append];refine ⟨hp,l.take j,l.drop (j+1),this,fun a ha=>?_⟩;obtain ⟨i,hi,rfl⟩:=List.getElem_of_mem ha;have hij:i<j:=by rw [List.length_take] at hi;omega
 have:=h i hij;rw [nth_eq za] at this;rw [List.getElem_take,this];rfl
theorem xQ {α:Type} [Inhabited α] {p:α→Bool} {l:List α} (h:∀ i,i<l.length→p (nth l i)=false):l.find? p=none:=by
 rw [List.find?_eq_none];intro x hx;obtain ⟨i,hi,rfl⟩:=List.getElem_of_mem hx;have:=h i hi;rw [nth_eq hi] at this;simp [this]
theorem zl8 (l:List OpV) (hl:l.length≤1000) (hin:∀ o∈l,VT o):zV Try.prog 32 [zfP l] .sh (zjS l):=by
 obtain ⟨F3,hF3⟩:∃ F3,F3=FV.list 1 ((List.range l.length).map fun q=>[xp (KC l q)]):=⟨_,rfl⟩
 obtain ⟨I,hI⟩:∃ I,I=zN l l.length:=⟨_,rfl⟩
 have hfr:=fun i hi=>zaV l (.list 1 (I.map yp)) F3 rfl (by rw [hF3];rfl) i hi za hin;have hIl:I.length≤l.length:=by rw [hI];exact YF l l.length
 have hIm:∀ j,j<I.length→nth I j<l.length:=fun j hj=>by have:=zy hj;rw [hI] at this ⊢;exact xw this
 unfold zfP;rw [← hF3,← hI];obtain ⟨R,hR⟩:∃ R,zjS l=R:=⟨_,rfl⟩
 have hRh:R.hand=none:=by rw [← hR];unfold zjS;split <;> rfl
 rw [hR];have hyes:∀ j,j<I.length→(∀ i,i<j→XP l (nth I i)=false)→XP l (nth I j)=true→R=.tup [.agg (YV 0 2 (nth l (nth I j)).key [nth I j] []),.bool true]:=fun j h1 h2 h3=>by
  rw [← hR];unfold zjS WV;rw [← hI,xm h2 h1 h3]
 have hno:(∀ i,i<I.length→XP l (nth I i)=false)→R=.tup [.agg (YV 0 0 0 [] []),.bool false]:=fun h=>by
  rw [← hR];unfold zjS WV;rw [← hI,xQ h]
 clear hR;refine zV.of_body (c:=(xy Try.prog zD zu 51)) ⟨Try.func32,rfl,Try.ntmps32,by kernel_rfl⟩ (by simp [FV.hand,zjt]) zx hRh ?_;unfold zjt at hfr ⊢;change FW _ _ _ ⟨[(0,.eptr 4 [[.list 8 (l.map OpV.fv),.list 1 (I.map yp),.smap (yH l l.length),F3]] 0 0)],[]⟩;refine zb ?_;refine FW.loop (fun j:Nat=>⟨[(0,.eptr 4 [[.list 8 (l.map OpV.fv),.list 1 (I.map yp),.smap (yH l l.length),F3]] 0 0),(2,.ptr 102 0 0 0),(12,.list 1 (I.map yp)),(13,.int .i64 I.length),(14,.int .i64 j)],[(102,⟨0,.own,36,5,[[.int .i64 0,.int .i64 0,.int .i64 0,.nil,.nil]]⟩)]⟩) (fun j=>j≤I.length∧∀ i,i<j→XP l (nth I i)=false) (fun j=>I.length - j) 0 ⟨Nat.zero_le _,fun i hi=>absurd hi (Nat.not_lt_zero _)⟩ ?_ ?_
 ·exact (FLe.cv [⟨102,some 2,0+1,⟨0,.own,36,5,[[.int .i64 0,.int .i64 0,.int .i64 0,.nil,.nil]]⟩⟩] zf zd)
 rintro j ⟨hj,hpre⟩;refine zb ?_;refine FW.cond rfl (fun h=>?_) (fun h=>?_)
 ·have hjl:j<I.length:=by simpa using h
  clear h;have hyes:=hyes j hjl hpre;have hnext:XP l (nth I j)=false→∀ i,i<j+1→XP l (nth I i)=false:=fun h i hi=>by
   rcases Nat.lt_succ_iff_lt_or_eq.1 hi with h'|rfl
   ·exact hpre i h'
   ·exact h
  have hii:=hIm j hjl;obtain ⟨i,hi⟩:∃ i,nth I j=i:=⟨_,rfl⟩
  rw [hi] at hii hyes hnext;have hfr:=hfr i hii;have htb:XP l i=(decide ((nth l i).k=0) && decide ((nth l i).res≠0) && (yU l i).isNone):=rfl;unfold ziG at hfr;obtain ⟨o,ho⟩:∃ o,nth l i=o:=⟨_,rfl⟩
  rw [ho] at htb hyes;generalize yU l i=C at hfr htb;refine zb ?_;rw [hi];skip;rw [ho];skip;refine zO hfr (by repeat (first|exact zq.nil|refine zq.cons zm ?_)) rfl rfl ?_;refine zb ?_;refine zP (fun h1=>?_) (fun h1=>?_)
  ·refine zb ?_;refine zP (fun h2=>?_) (fun h2=>?_)
   ·refine zb ?_;refine FW.cond rfl (fun h3=>?_) (fun h3=>?_)
    ·have hCn:C.isNone=true:=by cases C with|none=>rfl|some w=>cases h3
     rw [hyes (by rw [htb,h1,h2,hCn];rfl)]
     (repeat (first|refine FW.seq ?_|refine FW.region ?_|refine zG rfl rfl rfl ?_|refine VJ rfl rfl rfl rfl rfl rfl zg rfl rfl ?_|refine ZJ rfl rfl rfl rfl rfl xI rfl rfl rfl rfl rfl ?_|refine YP rfl rfl rfl rfl rfl rfl rfl rfl ?_))
     refine zp.le ?_ (FLe.share 46 rfl rfl rfl);refine zb ?_;exact FW.ret ⟨.inl rfl,.sh (.cons (zK rfl rfl rfl rfl rfl rfl zg) (.cons (.tmp 3 rfl rfl) .nil)) rfl rfl⟩
    ·have hCn:C.isNone=false:=by cases C with|none=>cases h3|some w=>rfl
     refine zb ?_;refine ⟨j+1,⟨by omega,hnext ?_⟩,by omega,(FLe.cv [⟨102,some 102,0,⟨0,.own,36,5,[[.int .i64 0,.int .i64 0,.int .i64 0,.nil,.nil]]⟩⟩] zf zd)⟩;rw [htb,hCn,Bool.and_false]
   ·refine zb ?_;refine ⟨j+1,⟨by omega,hnext ?_⟩,by omega,(FLe.cv [⟨102,some 102,0,⟨0,.own,36,5,[[.int .i64 0,.int .i64 0,.int .i64 0,.nil,.nil]]⟩⟩] zf zd)⟩;rw [htb,h2,Bool.and_false,Bool.false_and]
  ·refine zb ?_;refine ⟨j+1,⟨by omega,hnext ?_⟩,by omega,(FLe.cv [⟨102,some 102,0,⟨0,.own,36,5,[[.int .i64 0,.int .i64 0,.int .i64 0,.nil,.nil]]⟩⟩] zf zd)⟩;rw [htb,h1,Bool.false_and,Bool.false_and]
 ·have hje:j=I.length:=by simp at h;omega
  subst hje;rw [hno hpre];refine zb ?_;exact FW.ret ⟨.inl rfl,.sh (.cons (zK rfl rfl rfl rfl rfl rfl zg) (.cons (.tmp 3 rfl rfl) .nil)) rfl rfl⟩
end
end Go.Proofs.Ytmnmakhpjgjdaaa
