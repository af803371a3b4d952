/-
  Some texts as one: FmSer2, GenSer, GenSer2, SerLocal, SerLaws, FmSer3, KeyTwo.
-/
import Derived.Test.YtlnehfplfoikaaaZCycRef
import Derived.Test.YtlnehfplfoikaaaZG
import Derived.Test.YtlnehfplfoikaaaZFmM
import Derived.Test.YtlnehfplfoikaaaZD
import Derived.DeepKeys4
import Derived.Maps.Keyed
namespace Go.Proofs.Ytlnehfplfoikaaa
set_option linter.unusedVariables false
set_option maxHeartbeats 16000000
section
open Go.RowKit
theorem zcL (l:List OpV) (s:Bool) {i:Nat} (hi:i≤l.length) (hl:l.length≤1000):(Xd l s i).length≤4000000:=by
 have h1:=Yr l s i;have h2:4 * l.length * i≤4 * 1000 * 1000:=Nat.mul_le_mul (Nat.mul_le_mul (Nat.le_refl 4) hl) zb;omega
theorem XH (l:List OpV) (s:Bool) (hl:l.length≤1000):zY Try.prog 5 [.list 8 (l.map OpV.fv),.bool s] (.ow 28 3) (.list 3 ((yb l s).map EdV.fv)):=by
 obtain ⟨R,hR⟩:∃ R,zdZ l s=R:=⟨_,rfl⟩
 have hRl:=zfd l s;have hRn:=fun j hj=>zfe l s (j:=j) hj;have hr:=zff l s;rw [hR] at hRl hRn hr;obtain ⟨m,hm⟩:∃ m,Wp s=m:=⟨_,rfl⟩
 have hm4:m≤4:=by rw [← hm];unfold Wp;split <;> omega
 have hall:∀ i k,xv l i k m=zh7 l s i k:=fun i k=>by rw [← hm];exact zfc l s i k
 rw [hm] at hRl hRn;clear hR hm;obtain ⟨n,hn⟩:∃ n,l.length=n:=⟨_,rfl⟩
 refine zY.of_body (c:=(xa Try.prog zD zq 61)) ⟨Try.func5,rfl,Try.ntmps5,by kernel_rfl⟩ zC zp rfl ?_;change FW _ _ _ ⟨[(0,.list 8 (l.map OpV.fv)),(1,.bool s)],[]⟩;refine za ?_;refine yg hr (by repeat (first|exact zx.nil|refine zx.cons zt ?_)) rfl rfl ?_;refine za ?_;rw [hn];refine FW.loop (fun i:Nat=>⟨[(0,.list 8 (l.map OpV.fv)),(5,.list 2 R),(6,.own 100 0 0 (Xd l s i).length),(15,.int .i64 n),(16,.int .i64 i)],[(100,⟨0,.own,28,3,(Xd l s i).map EdV.fv⟩)]⟩) (fun i=>i≤n) (fun i=>n - i) 0 (Nat.zero_le _) ?_ ?_
 ·show FLe _ ⟨[(0,.list 8 (l.map OpV.fv)),(5,.list 2 R),(6,.own 100 0 0 0),(15,.int .i64 n),(16,.int .i64 0)],[(100,⟨0,.own,28,3,[]⟩)]⟩;exact (FLe.cv [⟨100,none,0,⟨0,.own,28,3,[]⟩⟩] zf zd)
 intro i hi;have hel:=zcL l s (i:=i) zb hl;have hes:=WR l s i;have hlast:i=n→yb l s=Xd l s i:=fun e=>by unfold yb;rw [hn,e]
 generalize Xd l s i=A at hel hes hlast;refine za ?_;refine FW.cond rfl (fun hc=>?_) (fun hc=>?_)
 ·have hin:i<n:=by simpa using hc
  clear hc hlast;have hin2:i<l.length:=by omega
  refine za ?_;rw [hn];refine FW.loop (fun k:Nat=>⟨[(0,.list 8 (l.map OpV.fv)),(5,.list 2 R),(6,.own 100 0 0 (A++ya l s i k).length),(15,.int .i64 n),(16,.int .i64 i),(7,.int .i64 i),(20,.int .i64 n),(21,.int .i64 k)],[(100,⟨0,.own,28,3,(A++ya l s i k).map EdV.fv⟩)]⟩) (fun k=>k≤n) (fun k=>n - k) 0 (Nat.zero_le _) ?_ ?_
  ·show FLe _ ⟨[(0,.list 8 (l.map OpV.fv)),(5,.list 2 R),(6,.own 100 0 0 (A++[]).length),(15,.int .i64 n),(16,.int .i64 i),(7,.int .i64 i),(20,.int .i64 n),(21,.int .i64 0)],[(100,⟨0,.own,28,3,(A++[]).map EdV.fv⟩)]⟩;rw [List.append_nil];exact (FLe.cv [⟨100,some 100,0,⟨0,.own,28,3,A.map EdV.fv⟩⟩] zf zd)
  intro k hk;have hrl:=XG l s i k;have hBl:(A++ya l s i k).length=A.length+(ya l s i k).length:=List.length_append;have hBs:A++ya l s i (k+1)=(A++ya l s i k)++xh l s i k:=by rw [ZA,List.append_assoc]
  have hlast:k=n→A++ya l s i k=Xd l s (i+1):=fun e=>by rw [hes,e,hn]
  generalize A++ya l s i k=B at hBl hBs hlast;refine za ?_;refine FW.cond rfl (fun hc=>?_) (fun hc=>?_)
  ·have hkn:k<n:=by simpa using hc
   clear hc hlast;have hkn2:k<l.length:=by omega
   refine za ?_;refine zV (XX (nth l i)) (by repeat (first|exact zx.nil|refine zx.cons zt ?_)) rfl rfl ?_;refine za ?_;cases h1:zS (nth l i) with
   | false =>
    have hw:xh l s i k=[]:=by unfold xh xy;rw [h1];rfl
    rw [hw,List.append_nil] at hBs;refine za ?_;refine ⟨k+1,by omega,by omega,?_⟩;rw [hBs];exact (FLe.cv [⟨100,some 100,0,⟨0,.own,28,3,B.map EdV.fv⟩⟩] zf zd)
   | true=>
    refine za ?_;refine zV (XX (nth l k)) (by repeat (first|exact zx.nil|refine zx.cons zt ?_)) rfl ⟨_,_,rfl,rfl,rfl⟩ ?_;refine za ?_;cases h2:zS (nth l k) with
    | false =>
     have hw:xh l s i k=[]:=by unfold xh xy;rw [h1,h2];rfl
     rw [hw,List.append_nil] at hBs;refine za ?_;refine ⟨k+1,by omega,by omega,?_⟩;rw [hBs];exact (FLe.cv [⟨100,some 100,0,⟨0,.own,28,3,B.map EdV.fv⟩⟩] zf zd)
    | true=>
     have hw:xh l s i k=(xv l i k m).map fun w=>(i,k,w):=by unfold xh xy;rw [h1,h2,hall];rfl
     rw [hw] at hBs;refine za ?_;rw [hRl];refine FW.loop (fun j:Nat=>⟨[(0,.list 8 (l.map OpV.fv)),(5,.list 2 R),(6,.own 100 0 0 (B++(xv l i k j).map fun w=>(i,k,w)).length),(15,.int .i64 n),(16,.int .i64 i),(7,.int .i64 i),(20,.int .i64 n),(21,.int .i64 k),(8,.int .i64 k),(38,.list 2 R),(39,.int .i64 m),(40,.int .i64 j)],[(100,⟨0,.own,28,3,(B++(xv l i k j).map fun w=>(i,k,w)).map EdV.fv⟩)]⟩) (fun j=>j≤m) (fun j=>m - j) 0 (Nat.zero_le _) ?_ ?_
     ·show FLe _ ⟨[(0,.list 8 (l.map OpV.fv)),(5,.list 2 R),(6,.own 100 0 0 (B++[]).length),(15,.int .i64 n),(16,.int .i64 i),(7,.int .i64 i),(20,.int .i64 n),(21,.int .i64 k),(8,.int .i64 k),(38,.list 2 R),(39,.int .i64 m),(40,.int .i64 0)],[(100,⟨0,.own,28,3,(B++[]).map EdV.fv⟩)]⟩;rw [List.append_nil];exact (FLe.cv [⟨100,some 100,0,⟨0,.own,28,3,B.map EdV.fv⟩⟩] zf zd)
     intro j hj;have hjl:=zaa l i k j;have hCl:(B++(xv l i k j).map fun w=>(i,k,w)).length=B.length+(xv l i k j).length:=by rw [List.length_append,List.length_map]
     have hCs:(B++(xv l i k (j+1)).map fun w=>(i,k,w))=(B++(xv l i k j).map fun w=>(i,k,w))++(xP (zc8 l i k j) ((j:Int)+2)).map fun w=>(i,k,w):=by rw [xv,List.map_append,List.append_assoc]
     have hlast:j=m→(B++(xv l i k j).map fun w=>(i,k,w))=A++ya l s i (k+1):=fun e=>by rw [hBs,e]
     generalize (B++(xv l i k j).map fun w=>(i,k,w))=C at hCl hCs hlast;refine za ?_;refine FW.cond rfl (fun hc=>?_) (fun hc=>?_)
     ·have hjm:j<m:=by simpa using hc
      clear hc hlast;obtain ⟨f,caps,hRj,hsp⟩:=hRn j hjm;have hsp:=hsp i k hin2 hkn2;have hjR:j<R.length:=by omega
      have hgd:R.getD j []=[.int .i64 ((j:Int)+2),.fn f caps]:=hRj;refine za ?_;refine VO rfl rfl rfl zg hjR hgd rfl rfl rfl ?_;refine zc5 rfl rfl rfl rfl rfl rfl rfl rfl ?_;refine za ?_;refine Xr rfl hsp (by repeat (first|exact zx.nil|refine zx.cons zt ?_)) rfl rfl ?_;refine za ?_;cases hb:zc8 l i k j with
      | false =>
       rw [hb] at hCs;rw [show (xP false ((j:Int)+2)).map (fun w=>(i,k,w))=[] from rfl,List.append_nil] at hCs;refine za ?_;refine ⟨j+1,by omega,by omega,?_⟩;rw [hCs];exact (FLe.cv [⟨100,some 100,0,⟨0,.own,28,3,C.map EdV.fv⟩⟩] zf zd)
      | true =>
       rw [hb] at hCs;rw [show (xP true ((j:Int)+2)).map (fun w=>(i,k,w))=[(i,k,(j:Int)+2)] from rfl] at hCs;refine za ?_;refine ⟨j+1,by omega,by omega,?_⟩;rw [hCs,List.map_append];exact (FLe.cv [⟨100,some 56,0+1,⟨0,.own,28,3,C.map EdV.fv++[(i,k,(j:Int)+2)].map EdV.fv⟩⟩] zf zd)
     ·obtain rfl:j=m:=by simp at hc;omega
      have hl:=hlast rfl;refine za ?_;refine ⟨k+1,by omega,by omega,?_⟩;rw [← hl];exact (FLe.cv [⟨100,some 100,0,⟨0,.own,28,3,C.map EdV.fv⟩⟩] zf zd)
  ·obtain rfl:k=n:=by simp at hc;omega
   have hl:=hlast rfl;refine za ?_;refine ⟨i+1,by omega,by omega,?_⟩;rw [← hl];exact (FLe.cv [⟨100,some 100,0,⟨0,.own,28,3,B.map EdV.fv⟩⟩] zf zd)
 ·obtain rfl:i=n:=by simp at hc;omega
  rw [hlast rfl];refine za ?_;exact FW.ret ⟨.inl rfl,VG rfl rfl rfl zc zg rfl (EdV.flatsM _)⟩
end
structure GS where
 out:List OpV
 op:List Int
 vs:List (List Int)
 time:Nat
 deriving Inhabited
def zf1:GS:=⟨[],[-1,-1,-1],[[0],[0]],0⟩
def Wl (n:Int):Int:=if 1<n / 6 % 5 then 2 else 0
def ZO (n:Int) (p:Nat) (s:GS):OpV:=⟨p,Wl n,n / 3 % 2,if 1<n / 6 % 5 then (s.out.length:Int)+1 else 0,0,s.time,0,false⟩
def xp (n:Int) (p:Nat) (s:GS):GS:=⟨s.out++[ZO n p s],s.op.set p (s.out.length:Int),s.vs,s.time+1⟩
def ZW (f:Bool) (n:Int) (seen:List Int):Int:=
 if f=true∧n / 3 % 4=0 then (if n / 12 % 13=12 then n / 156 % 9 else nth seen (n / 12 % (seen.length:Int)).toNat) else nth seen (seen.length - 1)
def xW (f:Bool) (n:Int) (p:Nat) (s:GS):GS:=
 let k:=(nth s.op p).toNat
 let o:=nth s.out k
 ⟨s.out.set k { o with res:=ZW f n (nth s.vs o.key.toNat),ret:=(s.time:Int),done:=true },s.op.set p (-1),
  if o.k=2 then s.vs.set o.key.toNat (nth s.vs o.key.toNat++[o.arg]) else s.vs,s.time+1⟩
def UI (most:Nat) (f:Bool) (x:Int) (s:GS):GS:=
 if nth s.op (xA x 1000000 % 3).toNat<0 then (if most≤s.out.length then s else xp (xA x 1000000) (xA x 1000000 % 3).toNat s)
 else xW f (xA x 1000000) (xA x 1000000 % 3).toNat s
def zaZ (most:Nat) (f:Bool) (l:List Int):Nat→GS
 | 0 => zf1
 | i+1 => UI most f (nth l i) (zaZ most f l i)
def xk (most:Nat) (f:Bool) (l:List Int):List OpV:=(zaZ most f l l.length).out.map (hsFix22 (zaZ most f l l.length).time)
where hsFix22 (t:Nat) (o:OpV):OpV:=if o.done=true then o else { o with ret:=(t:Int) }
structure OpS (s:GS) (j:Nat) (o:OpV):Prop where
 p:0≤o.p∧o.p<3
 k:o.k=0∨o.k=2
 key:0≤o.key∧o.key≤1
 c0:0≤o.call∧o.call<s.time
 arg:o.arg=if o.k=2 then (j:Int)+1 else 0
 d:o.done=true→o.call<o.ret∧o.ret<s.time∧0≤o.res∧o.res≤12
 n:o.done=false→o.res=0∧o.ret=0∧nth s.op o.p.toNat=j
structure zjC (s:GS) (c:Nat):Prop where
 ne:nth s.vs c≠[]
 len:(nth s.vs c).length≤s.out.length+1
 nd:(nth s.vs c).Nodup
 of:∀ v∈nth s.vs c,v=0∨∃ w,w<s.out.length∧(nth s.out w).k=2∧(nth s.out w).key=c∧(nth s.out w).done=true∧(nth s.out w).arg=v
 z:(0:Int)∈nth s.vs c
 all:∀ w,w<s.out.length→(nth s.out w).k=2→(nth s.out w).key=c→(nth s.out w).done=true→(nth s.out w).arg∈nth s.vs c
structure za2 (most:Nat) (s:GS):Prop where
 o3:s.op.length=3
 v2:s.vs.length=2
 li:s.out.length≤most
 ti:s.time=s.out.length+s.out.countP fun o=>o.done
 opn:∀ p,p<3→0≤nth s.op p→(nth s.op p).toNat<s.out.length∧(nth s.out (nth s.op p).toNat).p=p∧(nth s.out (nth s.op p).toNat).done=false
 neg:∀ p,p<3→-1≤nth s.op p
 ops:∀ j,j<s.out.length→OpS s j (nth s.out j)
 rel:s.out.Pairwise zju
 val:∀ c,c<2→zjC s c
theorem za2.init (most:Nat):za2 most zf1:=by
 have h3:∀ p,p<3→p=0∨p=1∨p=2:=fun p hp=>by omega
 refine ⟨rfl,rfl,Nat.zero_le _,rfl,fun p hp h=>?_,fun p hp=>?_,fun j hj=>absurd hj (Nat.not_lt_zero _),.nil,fun c hc=>?_⟩
 ·rcases h3 p hp with rfl|rfl|rfl <;> exact absurd h zg
 ·rcases h3 p hp with rfl|rfl|rfl <;> decide
 ·have e:nth zf1.vs c=[0]:=by
   have:c=0∨c=1:=by omega
   rcases this with rfl|rfl <;> rfl
  refine ⟨by rw [e];simp,by rw [e];exact Nat.le_refl _,by rw [e];simp,fun v hv=>?_,by rw [e];simp,fun w hw=>absurd hw (Nat.not_lt_zero _)⟩;rw [e] at hv;exact .inl (by simpa using hv)
theorem za2.open {most:Nat} {s:GS} (h:za2 most s) {n:Int} (hn:0≤n) {p:Nat} (hp:p<3) (hop:nth s.op p<0) (hm:s.out.length<most) (h12:most≤12):za2 most (xp n p s):=by
 have hop1:nth s.op p = -1:=by have:=h.neg p hp;omega
 have lst:nth (s.out++[ZO n p s]) s.out.length=ZO n p s:=Zg;have old:∀ j,j<s.out.length→nth (s.out++[ZO n p s]) j=nth s.out j:=fun j hj=>yz hj;refine ⟨by simp [xp,h.o3],h.v2,by simp [xp];omega,?_,fun x hx h0=>?_,fun x hx=>?_,fun j hj=>?_,?_,fun c hc=>?_⟩
 ·show s.time+1=(s.out++[ZO n p s]).length+_;rw [show (xp n p s).out=s.out++[ZO n p s] from rfl,h.ti,List.countP_append,List.length_append];simp [ZO];omega
 ·show (nth (s.op.set p (s.out.length:Int)) x).toNat<(s.out++[ZO n p s]).length∧(nth (s.out++[ZO n p s]) (nth (s.op.set p (s.out.length:Int)) x).toNat).p=x∧(nth (s.out++[ZO n p s]) (nth (s.op.set p (s.out.length:Int)) x).toNat).done=false;by_cases hx2:p=x
  ·subst hx2;rw [zR (by rw [h.o3];exact hx),Int.toNat_natCast,lst];exact ⟨by simp,rfl,rfl⟩
  ·have h0' : 0≤nth (s.op.set p (s.out.length:Int)) x:=h0;rw [zH hx2] at h0' ⊢;obtain ⟨a,b,c⟩:=h.opn x hx h0';rw [old _ a];exact ⟨by simp;omega,b,c⟩
 ·show -1≤nth (s.op.set p (s.out.length:Int)) x;by_cases hx2:p=x
  ·subst hx2;rw [zR (by rw [h.o3];exact hx)];omega
  ·rw [zH hx2];exact h.neg x hx
 ·show OpS _ j (nth (s.out++[ZO n p s]) j);have hj' : j<s.out.length+1:=by simpa [xp] using hj
  rcases Nat.lt_or_ge j s.out.length with h1|h1
  ·rw [old j h1];have g:=h.ops j h1;refine ⟨g.p,g.k,g.key,⟨g.c0.1,by show _<((s.time+1:Nat):Int);have:=g.c0.2;omega⟩,g.arg,fun hd=>⟨(g.d hd).1,by show _<((s.time+1:Nat):Int);have:=(g.d hd).2.1;omega,(g.d hd).2.2⟩,fun hd=>⟨(g.n hd).1,(g.n hd).2.1,?_⟩⟩;show nth (s.op.set p (s.out.length:Int)) _=(j:Int)
   have h2:=(g.n hd).2.2;by_cases hx2:p=(nth s.out j).p.toNat
   ·rw [← hx2,hop1] at h2;omega
   ·rw [zH hx2];exact h2
  ·have:j=s.out.length:=by omega
   subst this;rw [lst];refine ⟨⟨by show (0:Int)≤(p:Int);omega,by show (p:Int)<3;omega⟩,?_,⟨by show 0≤n / 3 % 2;omega,by show n / 3 % 2≤1;omega⟩,⟨by show 0≤(s.time:Int);omega,by show (s.time:Int)<((s.time+1:Nat):Int);omega⟩,?_,(fun hd=>by cases hd),fun _=>⟨rfl,rfl,?_⟩⟩
   ·show Wl n=0∨Wl n=2;unfold Wl;split <;> simp
   ·show (if 1<n / 6 % 5 then (s.out.length:Int)+1 else 0)=if Wl n=2 then _ else _
    unfold Wl;by_cases e:1<n / 6 % 5
    ·rw [if_pos e,if_pos e,if_pos rfl]
    ·rw [if_neg e,if_neg e,if_neg zg]
   ·show nth (s.op.set p (s.out.length:Int)) ((p:Int)).toNat=_;rw [Int.toNat_natCast,zR (by rw [h.o3];exact hp)]
 ·show (s.out++[ZO n p s]).Pairwise zju;rw [List.pairwise_append];refine ⟨h.rel,List.pairwise_singleton _ _,fun a ha b hb=>?_⟩;rw [List.mem_singleton] at hb;subst hb;obtain ⟨j,hj,rfl⟩:=List.getElem_of_mem ha;rw [← nth_eq hj];have g:=h.ops j hj;refine ⟨g.c0.2,fun hd=>⟨by show _≠(s.time:Int);have:=(g.d hd).2.1;omega,fun hd2=>by cases hd2⟩,fun he=>?_⟩;have he' : (nth s.out j).p=p:=he;cases hd:(nth s.out j).done with
  | true => exact ⟨rfl, by show _ ≤ (s.time:Int); have := (g.d hd).2.1; omega⟩
  | false =>
   have h2:=(g.n hd).2.2;rw [he',Int.toNat_natCast,hop1] at h2;omega
 ·have g:=h.val c hc;refine ⟨g.ne,Nat.le_trans g.len (by simp [xp]),g.nd,fun v hv=>?_,g.z,fun w hw h1 h2 h3=>?_⟩
  ·rcases g.of v hv with e|⟨w,hw,e⟩
   ·exact .inl e
   ·exact .inr ⟨w,by simp [xp];omega,by show (nth (s.out++[ZO n p s]) w).k=2∧_;rw [show (xp n p s).out=s.out++[ZO n p s] from rfl,old w hw];exact e⟩
  ·have hw' : w<s.out.length+1:=by simpa [xp] using hw
   rcases Nat.lt_or_ge w s.out.length with hlt|hge
   ·rw [show (xp n p s).out=s.out++[ZO n p s] from rfl,old w hlt] at h1 h2 h3 ⊢;exact g.all w hlt h1 h2 h3
   ·have:w=s.out.length:=by omega
    subst this;rw [show (xp n p s).out=s.out++[ZO n p s] from rfl,lst] at h3;cases h3
theorem zhc {f:Bool} {n:Int} (hn:0≤n) {seen:List Int} (h0:seen≠[]) (hs:∀ v∈seen,0≤v∧v≤12):0≤ZW f n seen∧ZW f n seen≤12:=by
 have hl:0<seen.length:=List.length_pos_iff.2 h0;unfold ZW;split
 ·split
  ·omega
  ·have:=Int.emod_lt_of_pos (n / 12) (show (0:Int)<(seen.length:Int) by omega);have:=Int.emod_nonneg (n / 12) (show (seen.length:Int)≠0 by omega);exact hs _ (zL zb)
 ·exact hs _ (zL zb)
theorem za2.vals {most:Nat} {s:GS} (h:za2 most s) (h12:most≤12) {c:Nat} (hc:c<2):∀ v∈nth s.vs c,0≤v∧v≤12:=fun v hv=>by
 rcases (h.val c hc).of v hv with rfl|⟨w,hw,h1,_,_,h4⟩
 ·omega
 ·have:=(h.ops w hw).arg;rw [if_pos h1,h4] at this;have:=h.li;omega
theorem YD {α:Type} (p:α→Bool) {x:α}:∀ {l:List α} {i:Nat} (hi:i<l.length),p l[i]=false→p x=true→(l.set i x).countP p=l.countP p+1
 | y :: l, 0, hi, h1, h2 => by
  rw [List.set_cons_zero,List.countP_cons_of_pos h2,List.countP_cons_of_neg (by simpa using h1)]
 | y :: l, i+1, hi, h1, h2 => by
  rw [List.set_cons_succ,List.countP_cons,List.countP_cons,YD p (by simpa using hi) (by simpa using h1) h2];omega
theorem za2.end {most:Nat} {f:Bool} {s:GS} (h:za2 most s) {n:Int} (hn:0≤n) {p:Nat} (hp:p<3) (hop:0≤nth s.op p) (h12:most≤12):za2 most (xW f n p s):=by
 obtain ⟨hj0,hpj,hdj⟩:=h.opn p hp hop;generalize hjj:(nth s.op p).toNat=j0 at hj0 hpj hdj;obtain ⟨r,hr⟩:∃ r,ZW f n (nth s.vs (nth s.out j0).key.toNat)=r:=⟨_,rfl⟩
 have hout:(xW f n p s).out=s.out.set j0 { nth s.out j0 with res:=r,ret:=(s.time:Int),done:=true }:=by unfold xW;dsimp only;rw [hjj,hr]
 have hlen:(xW f n p s).out.length=s.out.length:=by rw [hout];simp
 have same:nth (xW f n p s).out j0={ nth s.out j0 with res:=r,ret:=(s.time:Int),done:=true }:=by rw [hout,zR hj0]
 have oth:∀ j,j0≠j→nth (xW f n p s).out j=nth s.out j:=fun j hj=>by rw [hout,zH hj]
 have gj:=h.ops j0 hj0;have hk2:(nth s.out j0).key.toNat<2:=by have:=gj.key;omega
 have hrb:0≤r∧r≤12:=by rw [← hr];exact zhc hn (h.val _ hk2).ne (h.vals h12 hk2)
 have hvs:(xW f n p s).vs=if (nth s.out j0).k=2 then s.vs.set (nth s.out j0).key.toNat (nth s.vs (nth s.out j0).key.toNat++[(nth s.out j0).arg]) else s.vs:=by unfold xW;dsimp only;rw [hjj]
 have htime:(xW f n p s).time=s.time+1:=rfl;have hopx:(xW f n p s).op=s.op.set p (-1):=rfl;refine ⟨by simp [xW,h.o3],by rw [hvs];split <;> simp [h.v2],by rw [hlen];exact h.li,?_,fun x hx h0=>?_,fun x hx=>?_,fun j hj=>?_,?_,fun c hc=>?_⟩
 ·rw [hlen,htime,hout,YD (fun o:OpV=>o.done) hj0 (by rw [← nth_eq hj0];exact hdj) rfl,h.ti];omega
 ·rw [hopx] at h0 ⊢;rw [hlen];by_cases hx2:p=x
  ·subst hx2;rw [zR (by rw [h.o3];exact hx)] at h0;omega
  ·rw [zH hx2] at h0 ⊢;obtain ⟨a,b,c⟩:=h.opn x hx h0;have hne:j0≠(nth s.op x).toNat:=fun e=>by
    rw [← e,hpj] at b;omega
   rw [oth _ hne];exact ⟨a,b,c⟩
 ·rw [hopx];by_cases hx2:p=x
  ·subst hx2;rw [zR (by rw [h.o3];exact hx)];omega
  ·rw [zH hx2];exact h.neg x hx
 ·rw [hlen] at hj;by_cases hjx:j0=j
  ·subst hjx;rw [same];exact ⟨gj.p,gj.k,gj.key,⟨gj.c0.1,by rw [htime];have:=gj.c0.2;dsimp only;omega⟩,gj.arg,fun _=>⟨gj.c0.2,by rw [htime];dsimp only;omega,hrb⟩,fun hd=>by cases hd⟩
  ·rw [oth j hjx];have g:=h.ops j hj;refine ⟨g.p,g.k,g.key,⟨g.c0.1,by rw [htime];have:=g.c0.2;omega⟩,g.arg,fun hd=>⟨(g.d hd).1,by rw [htime];have:=(g.d hd).2.1;omega,(g.d hd).2.2⟩,fun hd=>⟨(g.n hd).1,(g.n hd).2.1,?_⟩⟩;rw [hopx];have h2:=(g.n hd).2.2;by_cases hx2:p=(nth s.out j).p.toNat
   ·rw [← hx2] at h2;rw [h2] at hjj;simp at hjj;exact absurd hjj.symm hjx
   ·rw [zH hx2];exact h2
 ·rw [List.pairwise_iff_getElem];intro a b ha hb hab;rw [hlen] at ha hb;rw [← nth_eq (by rw [hlen];exact ha),← nth_eq (by rw [hlen];exact hb)];have hp0:=List.pairwise_iff_getElem.1 h.rel a b ha hb hab;rw [← nth_eq ha,← nth_eq hb] at hp0;by_cases ea:j0=a
  ·subst ea;rw [same,oth b zb];have gb:=h.ops b hb;have:=gb.c0;refine ⟨hp0.1,fun _=>⟨by show (s.time:Int)≠_;omega,fun hd=>by show _≠(s.time:Int);have:=(gb.d hd).2.1;omega⟩,fun he=>?_⟩;have:=(hp0.2.2 he).1;rw [hdj] at this;cases this
  ·by_cases eb:j0=b
   ·subst eb;rw [same,oth a zb];have ga:=h.ops a ha;exact ⟨hp0.1,fun hd=>⟨(hp0.2.1 hd).1,fun _=>by show (s.time:Int)≠_;have:=(ga.d hd).2.1;omega⟩,hp0.2.2⟩
   ·rw [oth a ea,oth b eb];exact hp0
 ·have g:=h.val c hc;have keep:∀ v,(∃ w,w<s.out.length∧(nth s.out w).k=2∧(nth s.out w).key=c∧(nth s.out w).done=true∧(nth s.out w).arg=v)→∃ w,w<(xW f n p s).out.length∧(nth (xW f n p s).out w).k=2∧(nth (xW f n p s).out w).key=c∧(nth (xW f n p s).out w).done=true∧(nth (xW f n p s).out w).arg=v:=by
   rintro v ⟨w,hw,h1,h2,h3,h4⟩;have hne:j0≠w:=fun e=>by subst e;rw [hdj] at h3;cases h3
   exact ⟨w,by rw [hlen];exact hw,by rw [oth w hne];exact ⟨h1,h2,h3,h4⟩⟩
  by_cases hsw:(nth s.out j0).k=2∧(nth s.out j0).key.toNat=c
  ·obtain ⟨k2,kc⟩:=hsw;have hkc:(nth s.out j0).key=c:=by have:=gj.key;omega
   have harg:(nth s.out j0).arg=(j0:Int)+1:=by rw [gj.arg,if_pos k2]
   have hv:nth (xW f n p s).vs c=nth s.vs c++[(nth s.out j0).arg]:=by rw [hvs,if_pos k2,kc,zR (by rw [h.v2];exact hc)]
   refine ⟨by rw [hv];simp,?_,?_,fun v hvm=>?_,by rw [hv];exact List.mem_append_left _ g.z,fun w hw h1 h2 h3=>?_⟩
   ·-- the values are 0 and arguments of done swaps other than j0
    rw [hv,hlen];have:=g.len;have hlt:(nth s.vs c).length<s.out.length+1:=by
     refine Classical.byContradiction fun hge=>?_;have hsub:∀ v∈((j0:Int)+1)::nth s.vs c,(0:Int)≤v∧v<(s.out.length+1:Nat):=fun v hv=>by
      rcases List.mem_cons.1 hv with rfl|hv
      ·omega
      ·rcases g.of v hv with rfl|⟨w,hw,w1,_,_,w4⟩
       ·omega
       ·have:=(h.ops w hw).arg;rw [if_pos w1,w4] at this;omega
     have hnd:(((j0:Int)+1)::nth s.vs c).Nodup:=by
      refine List.nodup_cons.2 ⟨fun hm=>?_,g.nd⟩;rcases g.of _ hm with e|⟨w,hw,w1,_,w3,w4⟩
      ·omega
      ·have:=(h.ops w hw).arg;rw [if_pos w1,w4] at this;have:w=j0:=by omega
       subst this;rw [hdj] at w3;cases w3
     have:=xr hnd hsub;rw [List.length_cons] at this;omega
    rw [List.length_append,List.length_singleton];omega
   ·rw [hv,List.nodup_append];refine ⟨g.nd,by simp,fun a ha b hb=>?_⟩;rw [List.mem_singleton] at hb;subst hb;rintro rfl;rcases g.of _ ha with e|⟨w,hw,w1,_,w3,w4⟩
    ·omega
    ·have:=(h.ops w hw).arg;rw [if_pos w1,w4] at this;have:w=j0:=by omega
     subst this;rw [hdj] at w3;cases w3
   ·rw [hv] at hvm;rcases List.mem_append.1 hvm with hvm|hvm
    ·rcases g.of v hvm with e|e
     ·exact .inl e
     ·exact .inr (keep v e)
    ·rw [List.mem_singleton] at hvm;subst hvm;exact .inr ⟨j0,by rw [hlen];exact hj0,by rw [same];exact ⟨k2,hkc,rfl,rfl⟩⟩
   ·rw [hv];rw [hlen] at hw;by_cases e:j0=w
    ·subst e;rw [same];exact List.mem_append_right _ zc
    ·rw [oth w e] at h1 h2 h3 ⊢;exact List.mem_append_left _ (g.all w hw h1 h2 h3)
  ·have hv:nth (xW f n p s).vs c=nth s.vs c:=by
    rw [hvs];split
    ·rename_i k2;rw [zH (fun e=>hsw ⟨k2,e⟩)]
    ·rfl
   refine ⟨by rw [hv];exact g.ne,by rw [hv,hlen];exact g.len,by rw [hv];exact g.nd,fun v hvm=>?_,by rw [hv];exact g.z,fun w hw h1 h2 h3=>?_⟩
   ·rw [hv] at hvm;rcases g.of v hvm with e|e
    ·exact .inl e
    ·exact .inr (keep v e)
   ·rw [hv];rw [hlen] at hw;by_cases e:j0=w
    ·subst e;rw [same] at h1 h2;dsimp only at h1 h2;exact absurd ⟨h1,by omega⟩ hsw
    ·rw [oth w e] at h1 h2 h3 ⊢;exact g.all w hw h1 h2 h3
theorem za2.step {most:Nat} {f:Bool} {s:GS} (h:za2 most s) (h12:most≤12) (x:Int):za2 most (UI most f x s):=by
 unfold UI;have hn:0≤xA x 1000000:=za3 zg;have hp:(xA x 1000000 % 3).toNat<3:=by omega
 split
 ·rename_i hop;split
  ·exact h
  ·exact h.open hn hp hop zb h12
 ·rename_i hop;exact h.end hn hp zb h12
theorem WD (most:Nat) (f:Bool) (l:List Int) (h12:most≤12):∀ i,za2 most (zaZ most f l i)
 | 0 => za2.init most
 | i+1 => (WD most f l h12 i).step h12 _
theorem za2.time {most:Nat} {s:GS} (h:za2 most s):s.time≤2 * most:=by
 have:=h.ti;have:(s.out.countP fun o=>o.done)≤s.out.length:=List.countP_le_length;have:=h.li;omega
theorem zej (t:Nat) (o:OpV):(xk.hsFix22 t o).p=o.p∧(xk.hsFix22 t o).k=o.k∧(xk.hsFix22 t o).key=o.key∧(xk.hsFix22 t o).arg=o.arg∧(xk.hsFix22 t o).res=o.res∧(xk.hsFix22 t o).call=o.call∧(xk.hsFix22 t o).done=o.done∧(o.done=true→(xk.hsFix22 t o).ret=o.ret)∧(o.done=false→(xk.hsFix22 t o).ret=t):=by
 unfold xk.hsFix22;cases h:o.done <;> simp [h]
structure zjA (j:Nat) (o:OpV):Prop where
 p:0≤o.p∧o.p<3
 k:o.k=0∨o.k=2
 key:0≤o.key∧o.key≤1
 arg:o.arg=if o.k=2 then (j:Int)+1 else 0
 res:0≤o.res∧o.res≤12
 c0:0≤o.call
 cr:o.call<o.ret
 r24:o.ret≤24
 n:o.done=false→o.res=0
theorem zf4 {most:Nat} {f:Bool} {l:List Int} {j:Nat} (hj:j<(xk most f l).length):j<(zaZ most f l l.length).out.length∧nth (xk most f l) j=xk.hsFix22 (zaZ most f l l.length).time (nth (zaZ most f l l.length).out j):=by
 unfold xk at hj ⊢;rw [List.length_map] at hj;refine ⟨hj,?_⟩;rw [nth_eq (by simpa using hj),nth_eq hj,List.getElem_map]
section
variable {most:Nat} {f:Bool} {l:List Int} (h12:most≤12)
include h12
theorem zbH:(xk most f l).length≤most:=by
 unfold xk;rw [List.length_map];exact (WD most f l h12 l.length).li
theorem zhe {j:Nat} (hj:j<(xk most f l).length):zjA j (nth (xk most f l) j):=by
 obtain ⟨h1,h2⟩:=zf4 hj;rw [h2];have h:=WD most f l h12 l.length;generalize zaZ most f l l.length=s at h h1;have g:=h.ops j h1;have ht:=h.time;generalize nth s.out j=o at g;obtain ⟨e1,e2,e3,e4,e5,e6,e7,e8,e9⟩:=zej s.time o;have gc:=g.c0;refine ⟨by rw [e1];exact g.p,by rw [e2];exact g.k,by rw [e3];exact g.key,by rw [e4,e2];exact g.arg,?_,by rw [e6];exact gc.1,?_,?_,fun hd=>by rw [e5];exact (g.n (e7▸hd)).1⟩
 ·rw [e5];cases hd:o.done with
  | true => exact (g.d hd).2.2
  | false => rw [(g.n hd).1]; omega
 ·rw [e6];cases hd:o.done with
  | true => rw [e8 hd]; exact (g.d hd).1
  | false => rw [e9 hd]; exact gc.2
 ·cases hd:o.done with
  | true => rw [e8 hd]; have := (g.d hd).2.1; omega
  | false => rw [e9 hd]; omega
end
section
variable {l:List OpV} {c:Int} {strict:Bool}
end
section
variable {l:List OpV} {c:Int}
end
section
variable {l:List OpV}
theorem zcF {s:Bool} (hc:ym l s≠[]) {i:Nat} (hi:i<(ym l s).length):∃ a b:Nat,nth (ym l s) i=a∧nth (ym l s) ((i+1) % (ym l s).length)=b∧a<l.length∧b<l.length∧xy l s a b≠[]:=by
 obtain ⟨a,b,h1,h2,h3⟩:=zbg (zbQ l s) hc i hi;obtain ⟨h4,h5,h6⟩:=zgi.1 h3;exact ⟨a,b,h1,h2,h4,h5,h6⟩
end
section
variable {most:Nat} {l:List Int} (h12:most≤12)
include h12
end
section
open Go.RowKit
theorem UL (x:Int):zY Try.prog 53 [.int .i64 x] .fr (.bool false):=by
 refine zY.of_body (c:=(xa Try.prog zD zq 6)) ⟨Try.func53,rfl,Try.ntmps53,by kernel_rfl⟩ zC zp rfl ?_;change FW _ _ _ ⟨[(0,.int .i64 x)],[]⟩;refine za ?_;refine FW.ret ⟨.inl rfl,zm rfl rfl ?_ rfl⟩;show FV.bool _=FV.bool false;simp
theorem ZR (x y:Int):zY Try.prog 41 [.int .i64 x,.int .i64 y] .fr (.int .i64 (UB x y)):=by
 refine zY.of_body (c:=(xa Try.prog zD zq 20)) ⟨Try.func41,rfl,Try.ntmps41,by kernel_rfl⟩ zC zp rfl ?_;change FW _ _ _ ⟨[(0,.int .i64 x),(1,.int .i64 y)],[]⟩;refine za ?_;refine zV (UL x) (by repeat (first|exact zx.nil|refine zx.cons zt ?_)) rfl rfl ?_;refine za ?_;refine zV (UL y) (by repeat (first|exact zx.nil|refine zx.cons zt ?_)) rfl rfl ?_;refine za ?_;refine FW.cond rfl (fun h1=>?_) (fun h1=>?_)
 ·have h1' : x<y:=by simpa using h1
  refine za ?_;exact FW.ret ⟨.inl rfl,zm rfl rfl (by unfold UB;rw [if_pos h1'];rfl) rfl⟩
 ·have h1' : ¬ x<y:=by simpa using h1
  refine za ?_;refine FW.cond rfl (fun h2=>?_) (fun h2=>?_)
  ·have h2' : y<x:=by simpa using h2
   refine za ?_;exact FW.ret ⟨.inl rfl,zm rfl rfl (by unfold UB;rw [if_neg h1',if_pos h2'];rfl) rfl⟩
  ·have h2' : ¬ y<x:=by simpa using h2
   refine za ?_;exact FW.ret ⟨.inl rfl,zm rfl rfl (by unfold UB;rw [if_neg h1',if_neg h2'];rfl) rfl⟩
def orL:List Int→Int
 | [] => 0
 | x :: l => if x ≠ 0 then x else orL l
theorem zhk {l:List Int} {k:Nat} (h:k<l.length):orL (l.drop k)=if nth l k≠0 then nth l k else orL (l.drop (k+1)):=by
 rw [nth_eq h,List.drop_eq_getElem_cons h];rfl
theorem zil (l:List Int) (hl:l.length≤1000000):zY Try.prog 40 [.list 1 (l.map zj)] .fr (.int .i64 (orL l)):=by
 refine zY.of_body (c:=(xa Try.prog zD zq 18)) ⟨Try.func40,rfl,Try.ntmps40,by kernel_rfl⟩ zC zp rfl ?_;change FW _ _ _ ⟨[(0,.list 1 (l.map zj))],[]⟩;refine za ?_;refine FW.loop (fun k:Nat=>⟨[(3,.int .i64 0),(6,.list 1 (l.map zj)),(7,.int .i64 l.length),(8,.int .i64 k)],[]⟩) (fun k=>k≤l.length∧orL l=orL (l.drop k)) (fun k=>l.length - k) 0 ⟨Nat.zero_le _,rfl⟩ (FLe.cv [] zu zd) ?_;rintro k ⟨hk,ho⟩;refine za ?_;refine FW.cond rfl (fun h=>?_) (fun h=>?_)
 ·have hlt:k<l.length:=by simpa using h
  clear h;rw [zhk hlt] at ho;refine za ?_;refine FW.cond rfl (fun h=>?_) (fun h=>?_)
  ·have h' : nth l k≠0:=by simpa using h
   rw [if_pos h'] at ho;refine za ?_;exact FW.ret ⟨.inl rfl,zm rfl rfl (by rw [ho];rfl) rfl⟩
  ·have h' : ¬ nth l k≠0:=by simpa using h
   rw [if_neg h'] at ho;refine za ?_;exact ⟨k+1,⟨by omega,ho⟩,by omega,(FLe.cv [] zu zd)⟩
 ·obtain rfl:k=l.length:=by simp at h;omega
  rw [List.drop_length] at ho;refine za ?_;exact FW.ret ⟨.inl rfl,zm rfl rfl (by rw [ho];rfl) rfl⟩
theorem zbi (a b:EdV):zY Try.prog 39 [.agg a.fv,.agg b.fv] .fr (.int .i64 (zfE a b)):=by
 obtain ⟨a1,a2,a3⟩:=a;obtain ⟨b1,b2,b3⟩:=b;have ho:=zil [UB a1 b1,UB a2 b2,UB a3 b3] (by show 3≤1000000;decide);have he:orL [UB a1 b1,UB a2 b2,UB a3 b3]=zfE (a1,a2,a3) (b1,b2,b3):=by
  unfold zfE orI orL orL orL orL;dsimp only;by_cases h1:UB a1 b1=0
  ·by_cases h2:UB a2 b2=0
   ·by_cases h3:UB a3 b3=0
    ·simp [h1,h2,h3]
    ·simp [h1,h2,h3]
   ·simp [h1,h2]
  ·simp [h1]
 rw [he] at ho;refine zY.of_body (c:=(xa Try.prog zD zq 22)) ⟨Try.func39,rfl,Try.ntmps39,by kernel_rfl⟩ zC zp rfl ?_;change FW _ _ _ ⟨[(0,.agg [.int .i64 a1,.int .i64 a2,.int .i64 a3]),(1,.agg [.int .i64 b1,.int .i64 b2,.int .i64 b3])],[]⟩;refine yf ?_;refine XQ (ZR a1 b1) (by repeat (first|exact zx.nil|refine zx.cons zt ?_)) rfl rfl ?_;refine zw ?_;refine XQ (ZR a2 b2) (by repeat (first|exact zx.nil|refine zx.cons zt ?_)) rfl rfl ?_;refine zw ?_;refine XQ (ZR a3 b3) (by repeat (first|exact zx.nil|refine zx.cons zt ?_)) rfl rfl ?_;skip;refine zgk (es:=[UB a1 b1,UB a2 b2,UB a3 b3].map zj) rfl rfl rfl (by refine xw.int rfl rfl ?_;refine xw.int rfl rfl ?_;refine xw.int rfl rfl ?_;exact xw.nil) rfl rfl rfl rfl rfl rfl ?_;refine XQ ho (by repeat (first|exact zx.nil|refine zx.cons (by exact zcu.own rfl rfl zg (by first|exact (fun _=>rfl)|(intro h;cases h)) (by first|rfl|(simp;done)|(congr 1;omega)|(simp;omega)|(simp [List.take_of_length_le];done)|(refine congrArg (FV.int .i64) ?_;omega))) ?_)) rfl rfl ?_;refine zw ?_;refine ⟨by kernel_rfl,?_⟩;skip;exact FW.ret ⟨.inl rfl,zm rfl rfl rfl rfl⟩
theorem za7 (xs:List EdV) (tg:EdV) (cf:Nat) (caps:List FV) (at_:Nat) (hx:xs.length≤4000000) (hat:at_≤xs.length) (hs:∀ j,j<xs.length→(zfE (nth xs j) tg<0↔j<at_)) (hp:∀ e:EdV,zY Try.prog cf ([.agg e.fv,.agg tg.fv]++caps) .fr (.int .i64 (zfE e tg))) :
  zY Try.prog 38 [.list 3 (xs.map EdV.fv),.agg tg.fv,.fn cf caps] .fr (.tup [.int .i64 at_,.bool (decide (at_<xs.length∧zfE (nth xs at_) tg=0))]):=by
 obtain ⟨t1,t2,t3⟩:=tg;obtain ⟨n,hn⟩:∃ n,xs.length=n:=⟨_,rfl⟩
 rw [hn] at hx hat hs ⊢;refine zY.of_body (c:=(xa Try.prog zD zq 49)) ⟨Try.func38,rfl,Try.ntmps38,by kernel_rfl⟩ zC zp rfl ?_;change FW _ _ _ ⟨[(0,.list 3 (xs.map EdV.fv)),(1,.agg [.int .i64 t1,.int .i64 t2,.int .i64 t3]),(2,.fn cf caps)],[]⟩;refine za ?_;rw [hn];refine FW.loop (fun q:Nat×Nat=>⟨[(0,.list 3 (xs.map EdV.fv)),(2,.fn cf caps),(4,.ptr 100 0 0 0),(8,.int .i64 n),(9,.int .i64 q.1),(10,.int .i64 q.2)],[(100,⟨0,.own,28,3,[[.int .i64 t1,.int .i64 t2,.int .i64 t3]]⟩)]⟩) (fun q=>q.1≤at_∧at_≤q.2∧q.2≤n) (fun q=>q.2 - q.1) (0,n) ⟨Nat.zero_le _,hat,Nat.le_refl _⟩ ?_ ?_
 ·show FLe _ ⟨[(0,.list 3 (xs.map EdV.fv)),(2,.fn cf caps),(4,.ptr 100 0 0 0),(8,.int .i64 n),(9,.int .i64 0),(10,.int .i64 n)],[(100,⟨0,.own,28,3,[[.int .i64 t1,.int .i64 t2,.int .i64 t3]]⟩)]⟩;exact (FLe.cv [⟨100,some 4,0+1,⟨0,.own,28,3,[[.int .i64 t1,.int .i64 t2,.int .i64 t3]]⟩⟩] zf zd)
 rintro ⟨i,j⟩ ⟨h1,h2,h3⟩;dsimp only at h1 h2 h3 ⊢;refine za ?_;refine FW.cond rfl (fun hc=>?_) (fun hc=>?_)
 ·have hij:i<j:=by simpa using hc
  clear hc;obtain ⟨h,hh⟩:∃ h:Nat,(i+j) / 2=h:=⟨_,rfl⟩
  have hf:((i:Int)+j).fdiv (2 ^ min (Int.toNat 1) IntKind.u64.bits)=(h:Int):=by
   rw [show (2:Int) ^ min (Int.toNat 1) IntKind.u64.bits=2 from rfl,Int.fdiv_eq_ediv_of_nonneg _ zg];omega
  have hhn:h<xs.length:=by omega
  have hsh:=hs h zb;have hph:=hp (nth xs h);refine za ?_;rw [hf];refine yf ?_;refine zdQ rfl hph (by repeat (first|exact zx.nil|refine zx.cons zt ?_)) rfl rfl ?_;refine zw ?_;refine ⟨by kernel_rfl,?_⟩;refine FW.cond rfl (fun hc=>?_) (fun hc=>?_)
  ·have hc' : zfE (nth xs h) (t1,t2,t3)<0:=by simpa using hc
   have:=hsh.1 hc';refine za ?_;refine ⟨(h+1,j),⟨by dsimp only;omega,h2,h3⟩,by dsimp only;omega,?_⟩;exact (FLe.cv [⟨100,some 100,0,⟨0,.own,28,3,[[.int .i64 t1,.int .i64 t2,.int .i64 t3]]⟩⟩] zf zd)
  ·have hc' : ¬ zfE (nth xs h) (t1,t2,t3)<0:=by simpa using hc
   have:¬ h<at_:=fun e=>hc' (hsh.2 e)
   refine za ?_;refine ⟨(i,h),⟨h1,by dsimp only;omega,by dsimp only;omega⟩,by dsimp only;omega,?_⟩;exact (FLe.cv [⟨100,some 100,0,⟨0,.own,28,3,[[.int .i64 t1,.int .i64 t2,.int .i64 t3]]⟩⟩] zf zd)
 ·have hij:i=j:=by simp at hc;omega
  obtain rfl:i=at_:=by omega
  refine yf ?_;refine yK (fun h4=>?_) (fun h4=>?_)
  ·have h4' : i<xs.length:=by simp at h4;omega
   have h4n:i<n:=by omega
   have hph:=hp (nth xs i);refine zw ?_;refine zdQ rfl hph (by repeat (first|exact zx.nil|refine zx.cons zt ?_)) rfl ⟨_,_,rfl,rfl,rfl⟩ ?_;refine zw ?_;refine ⟨by kernel_rfl,?_⟩;skip;refine FW.ret ⟨.inl rfl,.flat (.cons (.tmp 6 rfl rfl) (.cons (.tmp 7 rfl rfl) .nil)) ?_ rfl⟩;simp [zaK,h4n];exact ⟨rfl,rfl⟩
  ·have h4n:¬ i<n:=by simp at h4;omega
   refine zw ?_;refine ⟨by kernel_rfl,?_⟩;skip;refine FW.ret ⟨.inl rfl,.flat (.cons (.tmp 6 rfl rfl) (.cons (.tmp 7 rfl rfl) .nil)) ?_ rfl⟩;simp [zaK,h4n];exact ⟨rfl,rfl⟩
theorem zfG (l:List OpV) (s:Bool) (c:List Int) (k:Nat):XC l s c (k+1)=XC l s c k++[((nth c k).toNat,(nth c ((k+1) % c.length)).toNat,hd0 (xy l s (nth c k).toNat (nth c ((k+1) % c.length)).toNat))]:=by
 unfold XC;rw [List.range_succ,List.map_append];rfl
theorem zdt (l:List OpV) (s:Bool) (c:List Int) (k:Nat):(XC l s c k).length=k:=by simp [XC]
theorem zbf (l:List OpV) (s:Bool) (hl:l.length≤1000) (hc:ym l s≠[]) (hcl:(ym l s).length≤1000):zY Try.prog 15 [.list 1 ((ym l s).map zj),.list 3 ((yb l s).map EdV.fv)] (.ow 28 3) (.list 3 ((XC l s (ym l s) (ym l s).length).map EdV.fv)):=by
 have hok:=fun i hi=>zcF hc (i:=i) hi;have hel:=zcL l s (i:=l.length) (Nat.le_refl _) hl;have hpos:∀ i k,i<l.length→k<l.length→xy l s i k≠[]→_:=fun i k hi hk hw=>zhn (s:=s) hi hk hw;obtain ⟨E,hE⟩:∃ E,yb l s=E:=⟨_,rfl⟩
 have hEl:E.length≤4000000:=by rw [← hE];exact hel
 rw [hE] at hpos ⊢;obtain ⟨c,hcc⟩:∃ c,ym l s=c:=⟨_,rfl⟩
 rw [hcc] at hok hcl ⊢;obtain ⟨m,hm⟩:∃ m,c.length=m:=⟨_,rfl⟩
 have hsu:=zfG l s c;have hlen:=zdt l s c;rw [hm] at hok hcl hsu ⊢;clear hc hcc hel;refine zY.of_body (c:=(xa Try.prog zD zq 43)) ⟨Try.func15,rfl,Try.ntmps15,by kernel_rfl⟩ zC zp rfl ?_;change FW _ _ _ ⟨[(0,.list 1 (c.map zj)),(1,.list 3 (E.map EdV.fv))],[]⟩;refine za ?_;rw [hm];refine FW.loop (fun k:Nat=>⟨[(0,.list 1 (c.map zj)),(1,.list 3 (E.map EdV.fv)),(5,.own 100 0 0 k),(11,.list 1 (c.map zj)),(12,.int .i64 m),(13,.int .i64 k)],[(100,⟨0,.own,28,3,(XC l s c k).map EdV.fv⟩)]⟩) (fun k=>k≤m) (fun k=>m - k) 0 (Nat.zero_le _)
  (FLe.cv [⟨100,none,0,⟨0,.own,28,3,[]⟩⟩] zf zd) ?_
 intro k hk;have hkl:=hlen k;have hks:=hsu k;have hlast:k=m→XC l s c m=XC l s c k:=fun e=>by rw [e]
 generalize XC l s c k=C at hkl hks hlast;subst hkl;refine za ?_;refine FW.cond rfl (fun h=>?_) (fun h=>?_)
 ·have hlt:C.length<m:=by simpa using h
  clear h hlast;obtain ⟨a,b,ha,hb,hal,hbl,hw⟩:=hok C.length hlt;obtain ⟨p1,p2,p3⟩:=hpos a b hal hbl hw;rw [ha,hb,Int.toNat_natCast,Int.toNat_natCast] at hks;have hbs:=za7 E (a,b,0) 39 [] (zhm l s a b) hEl zb p3 (fun e=>by have:=zbi e (a,b,0);simpa using this);generalize zhm l s a b=q at p1 p2 hbs;obtain ⟨r,hr⟩:∃ r,(C.length+1) % m=r:=⟨_,rfl⟩
  have hrm:r<c.length:=by rw [← hr,hm];exact Nat.mod_lt _ zb
  have hf:((C.length:Int)+1).tmod m=(r:Int):=by
   rw [← hr];rw [show (C.length:Int)+1=((C.length+1:Nat):Int) by omega];rfl
  rw [hr] at hb
  (repeat (first|refine FW.seq ?_|refine FW.region ?_|refine FW.block ?_|refine FW.skip ?_|refine zi.nil ?_|refine zO rfl rfl rfl ?_|refine zG rfl rfl rfl ?_|refine XV rfl rfl (by first|exact List.length_map _|rfl|(simp;omega)) rfl rfl ?_|refine Yc rfl rfl rfl rfl rfl rfl zI rfl rfl ?_|refine Xs rfl rfl rfl zI xZ rfl rfl rfl rfl ?_|refine Xp rfl rfl zb rfl rfl ?_))
  rw [hm];rw [ha];skip;refine ziz rfl rfl zb rfl rfl ?_;rw [hf];refine za ?_;rw [hb];skip;refine zV hbs (by repeat (first|exact zx.nil|refine zx.cons zt ?_)) rfl rfl ?_;refine za ?_;rw [p2];refine ⟨C.length+1,by omega,by omega,?_⟩;rw [hks,List.map_append];exact (FLe.cv [⟨100,some 40,0+1,⟨0,.own,28,3,C.map EdV.fv++[(a,b,hd0 (xy l s a b))].map EdV.fv⟩⟩] zf zd)
 ·obtain rfl:C.length=m:=by simp at h;omega
  rw [hlast rfl];refine za ?_;exact FW.ret ⟨.inl rfl,VG rfl rfl rfl zc zg rfl (EdV.flatsM _)⟩
theorem zf7 {P:Program} {k i:TypeId} {fs:Array Field} (hu:P.underlying k=some (.struct fs)) (hf:fs.toList.map (fun f=>(f.type,f.offset))=[(i,0),(i,1)]) (hn:fs.all (·.name != "_")=true)
  (hi:P.underlying i=some (.int .i64)) (c1:P.cellsOf i=1) (c2:P.cellsOf k=2) (hk:P.keyType k=true) (n:Nat) (ht:P.types.size=n+1) {a b:Int} (ha:(Lit.int .i64 a).wf=true) (hb:(Lit.int .i64 b).wf=true) :
  ∃ l,keyOf P k (.agg #[.int .i64 a,.int .i64 b])=some l:=by
 have hfs:∃ f g,fs.toList=[f,g]∧f.type=i∧f.offset=0∧g.type=i∧g.offset=1:=by
  generalize fs.toList=l at hf;rcases l with _|⟨f,_|⟨g,_|⟨h,t⟩⟩⟩ <;> simp at hf
  exact ⟨f,g,rfl,hf.1.1,hf.1.2,hf.2.1,hf.2.2⟩
 obtain ⟨f,g,hl,f1,f2,g1,g2⟩:=hfs;have one:∀ x,(Lit.int .i64 x).wf=true→P.keyLits (n+1) i [.int .i64 x]=some [.int .i64 x]:=fun x hx=>by
  unfold Program.keyLits;rw [hi];simp [hx]
 have two:P.keyLits (P.types.size+1) k [.int .i64 a,.int .i64 b]=some [.int .i64 a,.int .i64 b]:=by
  unfold Program.keyLits;rw [hu];have hall:(fs.toList.all fun x=>x.name != "_")=true:=by
   rw [Array.all_toList];exact hn
  simp only;rw [if_pos ⟨by rw [c2];rfl,by simpa using hn⟩,hl,ht];simp [f1,f2,g1,g2,c1,one a ha,one b hb]
 unfold keyOf;rw [hu];refine ⟨.string (keyBytes [.int .i64 a,.int .i64 b]),?_⟩;have hfm:(Value.agg #[.int .i64 a,.int .i64 b]).formed P k=true:=by simp [Value.formed,hu,c2]
 simp only [hk,hfm,Bool.and_self,if_true];rw [show (Value.agg #[.int .i64 a,.int .i64 b]).cells.toList=[.int .i64 a,.int .i64 b] from rfl,two];rfl
theorem zii:laidOutB Try.prog=true:=by kernel_rfl
def zhH (P:Program) (k:TypeId):Array Field:=match P.underlying k with|some (.struct fs)=>fs|_=>#[]
def zhf (a b:Int):FV:=.agg [.int .i64 a,.int .i64 b]
theorem zhW {a:Int} (h:I64 a):(Lit.int .i64 a).wf=true:=by
 have h1:IntKind.i64.min = -9223372036854775808:=by kernel_rfl
 have h2:IntKind.i64.max=9223372036854775807:=by kernel_rfl
 unfold I64 at h;simp [Lit.wf,h1,h2,h]
theorem zhg {a b c d:Int} (h:zhf a b=zhf c d):a=c∧b=d:=by
 unfold zhf at h;injection h with h
 injection h with h1 h2
 injection h2 with h2 _
 injection h1 with _ h1
 injection h2 with _ h2
 exact ⟨h1,h2⟩
end
end Go.Proofs.Ytlnehfplfoikaaa
