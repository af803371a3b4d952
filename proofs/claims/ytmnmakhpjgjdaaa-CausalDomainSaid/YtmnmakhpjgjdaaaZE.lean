/-
  Some texts as one: Observed, Events, RefOf, HistOf, HistPlain, SoundPlain, GenPlain, Same, Picks, Appends, RCheck, CheckPlain.
-/
import Derived.Test.YtmnmakhpjgjdaaaZD
import Derived.Deep.RegionHeld3
import Derived.Deep.DrawnRows
import Derived.Deep.DeepCutAuto
namespace Go.Proofs.Ytmnmakhpjgjdaaa
set_option linter.unusedVariables false
set_option maxHeartbeats 16000000
section
open Go.RowKit
attribute [local go_sem ↓] Go.wp_at_zero Go.wp_at_succ
theorem zA {w:World} {base:Nat} {e:TypeId} {sz n:Nat} {v:Value} {xs:List Value} (h:w.ownsRow base e sz v n xs) {p:Addr} (hp:some p.block≠v.ownBlock) (u:Value):(w.setCell p u).ownsRow base e sz v n xs:=by
 refine ⟨h.1,?_⟩;rcases h.2 with hn|⟨g,cap,cur,rfl,hb',hgg,rest⟩
 ·exact .inl hn
 ·exact .inr ⟨g,cap,cur,rfl,hb',(Below.heap_setCell w p u g (fun e=>hp (by simp [Value.ownBlock,e]))).trans hgg,rest⟩
end
section
open Go.RowKit
attribute [local go_sem ↓] Go.wp_at_zero Go.wp_at_succ
structure EvV where
 p:Int
 inv:Bool
 n:Int
 deriving DecidableEq,Inhabited
def EvV.vals (o:EvV):List Value:=[.int .i64 o.p,.bool o.inv,.int .i64 o.n]
theorem EvV.wide:znC 3 EvV.vals:=fun _=>rfl
theorem zpx:zhc Try.prog 49 53 3 24:=⟨Try.underlying49,by
 obtain ⟨i,h0,h1,h2,h3⟩:=info_parts (P:=Try.prog) (e:=53) (z:=.agg #[.int .i64 0,.bool false,.int .i64 0]) (size:=3) (bytes:=24) zj;exact ⟨i,_,h0,h1,h2,h3,rfl⟩,by omega⟩
section
variable {w:World} {B:Nat} {A:Option Addr}
theorem Sl.ev {l:List EvV} (h:Sl EvV.vals w B A l) {i:Nat} (hi:i<l.length):∃ b off,A=some ⟨b,off,none⟩∧b<B∧
  w.cell? ⟨b,off+i * 3,none⟩=some (.int .i64 (nth l i).p)∧w.cell? ⟨b,off+i * 3+1,none⟩=some (.bool (nth l i).inv)∧w.cell? ⟨b,off+i * 3+2,none⟩=some (.int .i64 (nth l i).n):=by
 obtain ⟨b,off,rfl,hb,hc⟩:=h.get EvV.wide hi;rw [← nth_eq hi] at hc;exact ⟨b,off,rfl,hb,hc 0 _ za rfl,hc 1 _ za rfl,hc 2 _ za rfl⟩
end
structure zij where
 out:List EvV
 pend:List Int
 calls:Nat
def zhw:zij:=⟨[],[0,0,0,0],0⟩
def VX (most n:Int) (p:Nat) (s:zij):zij:=
 if nth s.pend p=0∧(s.calls:Int)<most then ⟨s.out++[⟨p,true,n / 4⟩],s.pend.set p 1,s.calls+1⟩
 else if nth s.pend p=1∧n / 4 % 11=10 then { s with pend:=s.pend.set p 2 }
 else if nth s.pend p=1 then { s with pend:=s.pend.set p 0,out:=s.out++[⟨p,false,n / 4⟩] }
 else s
def UB (l:List Int) (most:Int) (i:Nat) (s:zij):zij:=VX most (ZP (nth l i) 1000000) (ZP (nth l i) 1000000 % 4).toNat s
def zb2 (l:List Int) (most:Int) (k:Nat):zij:=Ue (UB l most) zhw k
def xV (l:List Int) (most:Int):List EvV:=(zb2 l most (min l.length 40)).out
structure zpA (k:Nat) (s:zij):Prop where
 lo:s.out.length≤k
 lp:s.pend.length=4
 lc:s.calls≤k
theorem zkx (l:List Int) (most:Int) (k:Nat):zpA k (zb2 l most k):=by
 induction k with
 | zero => exact ⟨by simp [zb2, Ue, zhw], rfl, by simp [zb2, Ue, zhw]⟩
 | succ k ih=>
  have hs:zb2 l most (k+1)=UB l most k (zb2 l most k):=rfl;rw [hs];generalize zb2 l most k=s at ih;obtain ⟨h1,h2,h3⟩:=ih;unfold UB VX;split
  ·exact ⟨by simp;omega,by simp;omega,by simp;omega⟩
  ·split
   ·exact ⟨by simp;omega,by simp;omega,by simp;omega⟩
   ·split
    ·exact ⟨by simp;omega,by simp;omega,by simp;omega⟩
    ·exact ⟨by omega,h2,by omega⟩
theorem zct {most n:Int} {p:Nat} {s:zij} (h:nth s.pend p=0) (h2:(s.calls:Int)<most):VX most n p s=⟨s.out++[⟨p,true,n / 4⟩],s.pend.set p 1,s.calls+1⟩:=by simp [VX,h,h2]
theorem zcw {most n:Int} {p:Nat} {s:zij} (h:nth s.pend p=1) (h2:n / 4 % 11=10):VX most n p s={ s with pend:=s.pend.set p 2 }:=by simp [VX,h,h2]
theorem zeP {most n:Int} {p:Nat} {s:zij} (h:nth s.pend p=1) (h2:¬ n / 4 % 11=10):VX most n p s={ s with pend:=s.pend.set p 0,out:=s.out++[⟨p,false,n / 4⟩] }:=by simp [VX,h,h2]
theorem zcu {most n:Int} {p:Nat} {s:zij} (h:nth s.pend p=0) (h2:¬ (s.calls:Int)<most):VX most n p s=s:=by simp [VX,h,h2]
theorem zcv {most n:Int} {p:Nat} {s:zij} (h:¬ nth s.pend p=0) (h2:¬ nth s.pend p=1):VX most n p s=s:=by simp [VX,h,h2]
theorem Ys {w:World} {base:Nat} {e:TypeId} {sz n c:Nat} {A:Option Addr} {xs:List Value} (h:w.ownsRow base e sz (.slice A n c) n xs) {p:Addr} (hp:p.block<base) (u:Value):(w.setCell p u).ownsRow base e sz (.slice A n c) n xs:=by
 refine zA h ?_ u;rcases h.2 with ⟨hv,_⟩|⟨g,cap,cur,hv,hb,_⟩
 ·rw [hv];simp [Value.ownBlock]
 ·rw [hv];simp [Value.ownBlock];omega
set_option maxRecDepth 100000 in
theorem zcx (A:Option Addr) (c:Nat) (l:List Int) (most:Int) (w:World) (h1:Sl XD w w.heap.size A l) (hl:∀ x∈l,I64 x) (hlen:l.length≤9223372036854775807) (hmost:I64 most) :
  Calls Try.prog 24 #[.slice A l.length c,.int .i64 most] w fun e w'=>∃ A1 c1,e=.returned (.slice A1 (xV l most).length c1)∧
   w'.ownsRow w.heap.size 53 3 (.slice A1 (xV l most).length c1) (xV l most).length (flat EvV.vals (xV l most))∧Below w.heap.size w w':=by
 have hmk:∀ w,(Instr.makeSlice 22 (.int .i64 4) (.int .i64 4)).run Try.prog w=.ok (.slice (some ⟨w.heap.size,0,none⟩) 4 4) (w.alloc (.cells #[.int .i64 0,.int .i64 0,.int .i64 0,.int .i64 0] 3)):=fun _=>by kernel_rfl
 go_enter Try.func24,Try.ntmps24
 go_wp2_with fail
 go_loopw [5,7,8] (fun v5 v7 i wr=>∃ (k:Nat) (A1:Option Addr) (c1:Nat),k≤l.length∧k≤40∧i=.int .i64 k∧v5=.slice A1 (zb2 l most k).out.length c1∧v7=.int .i64 (zb2 l most k).calls∧
   wr.ownsRow (w.heap.size+1) 53 3 (.slice A1 (zb2 l most k).out.length c1) (zb2 l most k).out.length (flat EvV.vals (zb2 l most k).out)∧
   Blk wr w.heap.size 3 (flat XD (zb2 l most k).pend)∧Below w.heap.size w wr∧w.heap.size+1≤wr.heap.size) (fun _ _ i _=>40 - (intOf i).toNat)
 case atStart=>
  exact ⟨0,none,0,by omega,by omega,rfl,rfl,rfl,World.ownsRow_nil _ _ _ _,Blk.new w 3 [.int .i64 0,.int .i64 0,.int .i64 0,.int .i64 0],(Below.refl _ _).alloc (Nat.le_refl _) _,by simp⟩
 case round=>
  obtain ⟨k,A1,c1,hk1,hk2,rfl,rfl,rfl,ho1,hbe,hb,hsz⟩:=hrel;by_cases hlt:k<l.length∧k<40
  ·obtain ⟨hlt1,hlt2⟩:=hlt;obtain ⟨s,hs⟩:∃ s,s=zb2 l most k:=⟨_,rfl⟩
   have ok:=zkx l most k;have Hs:=Lib.hid (show zb2 l most (k+1)=UB l most k (zb2 l most k) from rfl);rw [← hs] at ho1 hbe ok Hs;rw [← hs];have hI:=hl _ (zC hlt1);obtain ⟨n,hn⟩:∃ n,ZP (nth l k) 1000000=n:=⟨_,rfl⟩
   have hn0:0≤n:=hn▸zau za;have hn1:n<1000000:=hn▸zat za;obtain ⟨p,hp⟩:∃ p:Nat,n % 4=p:=⟨(n % 4).toNat,by omega⟩
   have hp2:p<4:=by omega
   have hp3:(0:Int)≤(p:Int):=by omega
   have hp4:(p:Int)<4:=by omega
   have hstep:UB l most k s=VX most n p s:=by unfold UB;rw [hn,hp];rfl
   rw [hstep] at Hs;clear hstep hs;obtain ⟨b,o,rfl,hbl,q0⟩:=(h1.below hb).int hlt1;have hlo:=ok.lo;have hlc:=ok.lc;have hp5:p<s.pend.length:=by have:=ok.lp;omega
   have x1:=hbe.int (i:=p) hp5;have z1:=hbe.frozen p;clear ok;by_cases c1' : nth s.pend p=0
   ·rw [c1'] at x1;by_cases c2:(s.calls:Int)<most
    ·have Hs2:=Lib.hid (Hs.out.trans (zct c1' c2));clear c1' Hs;have hbe2:=hbe.setInt p 1;have ho2:=Ys ho1 (p:=⟨w.heap.size,p,none⟩) zc (.int .i64 1);have hb2:=hb.setCell (p:=⟨w.heap.size,p,none⟩) zc (.int .i64 1);have hsz2:(wr.setCell ⟨w.heap.size,p,none⟩ (.int .i64 1)).heap.size=wr.heap.size:=by simp
     go_wp2_with (first|(go_at_call 14;refine (ZL _ _ _ hI za za).mono ?_;rintro e w' ⟨rfl,rfl⟩;rw [hn])|(at_builtin;go_loud (refine xp zpx ho2 rfl (.tmp 44) (.tmp 49) rfl rfl (by rw [hsz2];rfl) rfl XX za za za ?_;intro A3 c3 w2 ho3 hb3 hg3 hl3)))
     go_roundw
     case rel=>
      refine ⟨k+1,A3,c3,by omega,by omega,by go_num,by rw [Hs2.out];simp,by rw [Hs2.out];simp,?_,?_,?_,?_⟩
      ·rw [Hs2.out,xj,Ym];simpa [EvV.vals] using ho3
      ·rw [Hs2.out];exact hbe2.below hb3 zc
      ·exact hb2.trans (hb3.mono za)
      ·have:=hb3.size;omega
     case measure=>simp [intOf];omega
    ·have Hs2:=Lib.hid (Hs.out.trans (zcu c1' c2));clear c1' Hs
     go_wp2_with (go_at_call 14;refine (ZL _ _ _ hI za za).mono ?_;rintro e w' ⟨rfl,rfl⟩;rw [hn])
     go_roundw
     case rel=>exact ⟨k+1,A1,c1,by omega,by omega,by go_num,by rw [Hs2.out],by rw [Hs2.out],by rw [Hs2.out];exact ho1,by rw [Hs2.out];exact hbe,hb,hsz⟩
     case measure=>simp [intOf];omega
   ·by_cases c3:nth s.pend p=1
    ·rw [c3] at x1;by_cases c4:n / 4 % 11=10
     ·have Hs2:=Lib.hid (Hs.out.trans (zcw c3 c4));have c4' : (n / 4 % 11 == 10)=true:=by simpa using c4
      clear c1' c3 c4 Hs
      go_wp2_with (go_at_call 14;refine (ZL _ _ _ hI za za).mono ?_;rintro e w' ⟨rfl,rfl⟩;rw [hn])
      go_roundw
      case rel=>exact ⟨k+1,A1,c1,by omega,by omega,by go_num,by rw [Hs2.out],by rw [Hs2.out],by rw [Hs2.out];exact Ys ho1 zc _,by rw [Hs2.out];exact hbe.setInt p _,hb.setCell zc _,by simpa using hsz⟩
      case measure=>simp [intOf];omega
     ·have Hs2:=Lib.hid (Hs.out.trans (zeP c3 c4));have c4' : (n / 4 % 11 == 10)=false:=by simpa using c4
      clear c1' c3 c4 Hs;have hbe2:=hbe.setInt p 0;have ho2:=Ys ho1 (p:=⟨w.heap.size,p,none⟩) zc (.int .i64 0);have hb2:=hb.setCell (p:=⟨w.heap.size,p,none⟩) zc (.int .i64 0);have hsz2:(wr.setCell ⟨w.heap.size,p,none⟩ (.int .i64 0)).heap.size=wr.heap.size:=by simp
      go_wp2_with (first|(go_at_call 14;refine (ZL _ _ _ hI za za).mono ?_;rintro e w' ⟨rfl,rfl⟩;rw [hn])|(at_builtin;go_loud (refine xp zpx ho2 rfl (.tmp 73) (.tmp 78) rfl rfl (by rw [hsz2];rfl) rfl XX za za za ?_;intro A3 c3 w2 ho3 hb3 hg3 hl3)))
      go_roundw
      case rel=>
       refine ⟨k+1,A3,c3,by omega,by omega,by go_num,by rw [Hs2.out];simp,by rw [Hs2.out],?_,?_,?_,?_⟩
       ·rw [Hs2.out,xj,Ym];simpa [EvV.vals] using ho3
       ·rw [Hs2.out];exact hbe2.below hb3 zc
       ·exact hb2.trans (hb3.mono za)
       ·have:=hb3.size;omega
      case measure=>simp [intOf];omega
    ·have Hs2:=Lib.hid (Hs.out.trans (zcv c1' c3));have c1'' : (nth s.pend p == 0)=false:=by simpa using c1'
     have c3' : (nth s.pend p == 1)=false:=by simpa using c3
     clear c1' c3 Hs
     go_wp2_with (go_at_call 14;refine (ZL _ _ _ hI za za).mono ?_;rintro e w' ⟨rfl,rfl⟩;rw [hn])
     go_roundw
     case rel=>exact ⟨k+1,A1,c1,by omega,by omega,by go_num,by rw [Hs2.out],by rw [Hs2.out],by rw [Hs2.out];exact ho1,by rw [Hs2.out];exact hbe,hb,hsz⟩
     case measure=>simp [intOf];omega
  ·have e:k=min l.length 40:=by omega
   by_cases hlt1:k<l.length
   ·have hk3:¬ k<40:=fun h=>hlt ⟨hlt1,h⟩
    go_wp2_with fail
    go_ret
    subst e;exact ⟨A1,c1,rfl,Wn ho1 za,hb⟩
   ·go_wp2_with fail
    go_ret
    subst e;exact ⟨A1,c1,rfl,Wn ho1 za,hb⟩
end
section
open Go.RowKit
attribute [local go_sem ↓] Go.wp_at_zero Go.wp_at_succ
end
section
open Go.RowKit
attribute [local go_sem ↓] Go.wp_at_zero Go.wp_at_succ
end
/-! ### the observations made from numbers are of sequential processes -/
/-! ### replies and invocations of observations made from numbers -/
/-! ### what an operation looks like -/
/-! ### how many are done -/
def pend (ev:List EvV):Nat→Int→Bool
 | 0, _ => false
 | k+1, p => if (nth ev k).p=p then (nth ev k).inv else pend ev k p
def Vs (ev:List EvV):Nat→Nat
 | 0 => 0
 | k+1 => Vs ev k+if (nth ev k).inv then 1 else 0
def Xu (ev:List EvV):Prop:=∀ k,k<ev.length→(0≤(nth ev k).p∧(nth ev k).p<4)∧(0≤(nth ev k).n∧(nth ev k).n≤250000)∧(nth ev k).inv=!pend ev k (nth ev k).p
theorem zah (ev:List EvV) (a:EvV):∀ k p,k≤ev.length→pend (ev++[a]) k p=pend ev k p
 | 0, _, _ => rfl
 | k+1, p, h => by
  unfold pend;rw [yE za,zah ev a k p za]
theorem zfd (ev:List EvV) (a:EvV):∀ k,k≤ev.length→Vs (ev++[a]) k=Vs ev k
 | 0, _ => rfl
 | k+1, h => by
  unfold Vs;rw [yE za,zfd ev a k za]
theorem zhV (ev:List EvV) (a:EvV) (p:Int):pend (ev++[a]) (ev++[a]).length p=if a.p=p then a.inv else pend ev ev.length p:=by
 rw [List.length_append,List.length_singleton,pend,yX,zah ev a _ _ (Nat.le_refl _)]
theorem zfe (ev:List EvV) (a:EvV):Vs (ev++[a]) (ev++[a]).length=Vs ev ev.length+if a.inv then 1 else 0:=by
 rw [List.length_append,List.length_singleton,Vs,yX,zfd ev a _ (Nat.le_refl _)]
theorem Xu.app {ev:List EvV} (h:Xu ev) {a:EvV} (h1:0≤a.p∧a.p<4) (h2:0≤a.n∧a.n≤250000) (h3:a.inv=!pend ev ev.length a.p):Xu (ev++[a]):=by
 intro k hk;rw [List.length_append,List.length_singleton] at hk;by_cases e:k<ev.length
 ·rw [yE e,zah ev a k _ za];exact h k e
 ·have:k=ev.length:=by omega
  subst this;rw [yX,zah ev a _ _ (Nat.le_refl _)];exact ⟨h1,h2,h3⟩
structure zpf (most:Int) (s:zij):Prop where
 good:Xu s.out
 lp:s.pend.length=4
 pe:∀ p:Nat,p<4→(nth s.pend p=0∧pend s.out s.out.length p=false∨(nth s.pend p=1∨nth s.pend p=2)∧pend s.out s.out.length p=true)
 cnt:Vs s.out s.out.length=s.calls
 le:s.calls=0∨(s.calls:Int)≤most
theorem zdC (l:List Int) (most:Int) (k:Nat):zpf most (zb2 l most k):=by
 induction k with
 | zero =>
  refine ⟨fun k hk=>by simp [zb2,Ue,zhw] at hk,rfl,fun p hp=>.inl ⟨?_,rfl⟩,rfl,.inl rfl⟩
  match p,hp with
  | 0, _ => rfl
  | 1, _ => rfl
  | 2, _ => rfl
  | 3, _ => rfl
 | succ k ih=>
  have hs:zb2 l most (k+1)=UB l most k (zb2 l most k):=rfl;rw [hs];generalize zb2 l most k=s at ih;unfold UB;have hn0:=zau (n:=nth l k) (most:=1000000) za;have hn1:=zat (n:=nth l k) (most:=1000000) za;generalize ZP (nth l k) 1000000=n at hn0 hn1;obtain ⟨p,hp⟩:∃ p:Nat,(n % 4).toNat=p:=⟨_,rfl⟩
  rw [hp];have hp4:p<4:=by omega
  obtain ⟨h1,h2,h3,h4,h5⟩:=ih;have hq:∀ (x:Int) (q:Nat),q<4→nth (s.pend.set p x) q=if q=p then x else nth s.pend q:=by
   intro x q hq4;by_cases e:q=p
   ·subst e;rw [if_pos rfl,zM za]
   ·rw [if_neg e,zZ (fun h=>e h.symm)]
  by_cases c1:nth s.pend p=0
  ·have hpe:pend s.out s.out.length p=false:=by rcases h3 p hp4 with ⟨_,h⟩|⟨h,_⟩;exact h;omega
   by_cases c2:(s.calls:Int)<most
   ·rw [zct c1 c2];refine ⟨h1.app ⟨by dsimp only;omega,by dsimp only;omega⟩ ⟨by dsimp only;omega,by dsimp only;omega⟩ (by dsimp only;rw [hpe];rfl),by simpa using h2,fun q hq4=>?_,?_,.inr (by dsimp only;omega)⟩
    ·dsimp only;rw [hq _ _ hq4,zhV];by_cases e:q=p
     ·subst e;right;simp
     ·have e2:¬ ((p:Int)=(q:Int)):=by omega
      simp only [if_neg e,if_neg e2];exact h3 q hq4
    ·dsimp only;rw [zfe,h4];rfl
   ·rw [zcu c1 c2];exact ⟨h1,h2,h3,h4,h5⟩
  ·by_cases c3:nth s.pend p=1
   ·have hpe:pend s.out s.out.length p=true:=by rcases h3 p hp4 with ⟨h,_⟩|⟨_,h⟩;omega;exact h
    by_cases c4:n / 4 % 11=10
    ·rw [zcw c3 c4];refine ⟨h1,by simpa using h2,fun q hq4=>?_,h4,h5⟩;dsimp only;rw [hq _ _ hq4];by_cases e:q=p
     ·subst e;right;simp [hpe]
     ·simp only [if_neg e];exact h3 q hq4
    ·rw [zeP c3 c4];refine ⟨h1.app ⟨by dsimp only;omega,by dsimp only;omega⟩ ⟨by dsimp only;omega,by dsimp only;omega⟩ (by dsimp only;rw [hpe];rfl),by simpa using h2,fun q hq4=>?_,?_,h5⟩
     ·dsimp only;rw [hq _ _ hq4,zhV];by_cases e:q=p
      ·subst e;left;simp
      ·have e2:¬ ((p:Int)=(q:Int)):=by omega
       simp only [if_neg e,if_neg e2];exact h3 q hq4
     ·dsimp only;rw [zfe,h4];rfl
   ·rw [zcv c1 c3];exact ⟨h1,h2,h3,h4,h5⟩
theorem Xd (l:List Int) (most:Int):Xu (xV l most):=(zdC l most _).good
theorem Wd (l:List Int) (most:Int):(xV l most).length≤40:=by have:=(zkx l most (min l.length 40)).lo;unfold xV;omega
theorem zaN (l:List Int) {most:Int} (h:0≤most):(Vs (xV l most) (xV l most).length:Int)≤most:=by
 have h1:=(zdC l most (min l.length 40)).cnt;have h2:=(zdC l most (min l.length 40)).le;unfold xV;omega
structure Xv (ev:List EvV) (k:Nat) (out:List OpV) (opn:List Int):Prop where
 lop:opn.length=4
 len:out.length=Vs ev k
 call:∀ j,j<out.length→∃ c:Nat,(nth out j).call=c∧c<k∧(nth ev c).inv=true∧(nth out j).p=(nth ev c).p
 mono:∀ i j,i<j→j<out.length→(nth out i).call<(nth out j).call
 ret:∀ j,j<out.length→(nth out j).done=true→∃ r:Nat,(nth out j).ret=r∧r<k∧(nth ev r).inv=false∧(nth out j).call<r
 stay:∀ j,j<out.length→(nth out j).done=false→(nth out j).ret=ev.length∧(nth out j).res=0∧pend ev k (nth out j).p=true
 one:∀ i j,i<j→j<out.length→(nth out i).done=true→(nth out j).done=true→(nth out i).ret≠(nth out j).ret
 seq:∀ i j,i<j→j<out.length→(nth out i).p=(nth out j).p→(nth out i).done=true∧(nth out i).ret<(nth out j).call
 opn:∀ p:Nat,p<4→pend ev k p=true→∃ j:Nat,nth opn p=j∧j<out.length∧(nth out j).p=p∧(nth out j).done=false
theorem Xv.zero (ev:List EvV):Xv ev 0 [] [0,0,0,0]:=
 ⟨rfl,rfl,fun _ h=>by simp at h,fun _ _ _ h=>by simp at h,fun _ h=>by simp at h,fun _ h=>by simp at h,fun _ _ _ h=>by simp at h,fun _ _ _ h=>by simp at h,fun _ _ h=>by simp [pend] at h⟩
theorem Xv.add {ev:List EvV} {k:Nat} {out:List OpV} {opn:List Int} (h:Xv ev k out opn) (hg:Xu ev) (hk:k<ev.length) (hi:(nth ev k).inv=true) {o:OpV} (h1:o.p=(nth ev k).p) (h2:o.call=k) (h3:o.ret=ev.length) (h4:o.done=false) (h5:o.res=0) {p:Nat} (hp:(nth ev k).p=p) :
  Xv ev (k+1) (out++[o]) (opn.set p out.length):=by
 obtain ⟨⟨g1,g2⟩,_,g3⟩:=hg k hk;have hpend:pend ev k (nth ev k).p=false:=by rw [hi] at g3;simpa using g3
 have hp4:p<4:=by omega
 have old:∀ i,i<out.length→nth (out++[o]) i=nth out i:=fun i hi=>yE hi;have new:nth (out++[o]) out.length=o:=yX;have hlen:(out++[o]).length=out.length+1:=by simp
 have free:∀ j,j<out.length→(nth out j).p=(nth ev k).p→(nth out j).done=true:=by
  intro j hj he;cases hd:(nth out j).done with
  | true => rfl
  | false => have := (h.stay j hj hd).2.2; rw [he, hpend] at this; cases this
 refine ⟨by simpa using h.lop,?_,fun j hj=>?_,fun i j hij hj=>?_,fun j hj hd=>?_,fun j hj hd=>?_,fun i j hij hj hdi hdj=>?_,fun i j hij hj he=>?_,fun q hq hpq=>?_⟩
 ·rw [hlen,h.len,Vs,hi];rfl
 ·by_cases e:j<out.length
  ·rw [old j e];obtain ⟨c,a1,a2,a3,a4⟩:=h.call j e;exact ⟨c,a1,by omega,a3,a4⟩
  ·obtain rfl:j=out.length:=by omega
   rw [new];exact ⟨k,h2,by omega,hi,h1⟩
 ·rw [old i za];by_cases e:j<out.length
  ·rw [old j e];exact h.mono i j hij e
  ·obtain rfl:j=out.length:=by omega
   rw [new,h2];obtain ⟨c,a1,a2,_⟩:=h.call i hij;omega
 ·by_cases e:j<out.length
  ·rw [old j e] at hd ⊢;obtain ⟨r,a1,a2,a3,a4⟩:=h.ret j e hd;exact ⟨r,a1,by omega,a3,a4⟩
  ·obtain rfl:j=out.length:=by omega
   rw [new,h4] at hd;cases hd
 ·by_cases e:j<out.length
  ·rw [old j e] at hd ⊢;obtain ⟨a1,a2,a3⟩:=h.stay j e hd;refine ⟨a1,a2,?_⟩;rw [pend];split
   ·exact hi
   ·exact a3
  ·obtain rfl:j=out.length:=by omega
   rw [new];exact ⟨h3,h5,by rw [pend,h1,if_pos rfl,hi]⟩
 ·rw [old i za] at hdi ⊢;by_cases e:j<out.length
  ·rw [old j e] at hdj ⊢;exact h.one i j hij e hdi hdj
  ·obtain rfl:j=out.length:=by omega
   rw [new,h4] at hdj;cases hdj
 ·rw [old i za] at he ⊢;by_cases e:j<out.length
  ·rw [old j e] at he ⊢;exact h.seq i j hij e he
  ·obtain rfl:j=out.length:=by omega
   rw [new] at he ⊢;have hd:=free i hij (he.trans h1);obtain ⟨r,a1,a2,_⟩:=h.ret i hij hd;exact ⟨hd,by omega⟩
 ·rw [pend] at hpq;by_cases e:q=p
  ·subst e;exact ⟨out.length,zM (by rw [h.lop];exact hq),by omega,by rw [new,h1,hp],by rw [new,h4]⟩
  ·rw [if_neg za] at hpq;obtain ⟨j,a1,a2,a3,a4⟩:=h.opn q hq hpq;exact ⟨j,by rw [zZ (fun e2=>e e2.symm)];exact a1,by omega,by rw [old j a2];exact a3,by rw [old j a2];exact a4⟩
theorem Xv.at_ {ev:List EvV} {k:Nat} {out:List OpV} {opn:List Int} (h:Xv ev k out opn) (hg:Xu ev) (hk:k<ev.length) (hi:(nth ev k).inv=false) {p:Nat} (hp:(nth ev k).p=p) :
  ∃ j:Nat,nth opn p=j∧j<out.length∧(nth out j).p=p∧(nth out j).done=false:=by
 obtain ⟨⟨g1,g2⟩,_,g3⟩:=hg k hk;refine h.opn p za ?_;rw [hi,hp] at g3;simpa using g3
theorem Xv.put {ev:List EvV} {k:Nat} {out:List OpV} {opn:List Int} (h:Xv ev k out opn) (hk:k<ev.length) (hi:(nth ev k).inv=false) {j:Nat} (hj:j<out.length) (hjp:(nth out j).p=(nth ev k).p) (hjd:(nth out j).done=false)
  {o:OpV} (h1:o.p=(nth out j).p) (h2:o.call=(nth out j).call) (h3:o.ret=k) (h4:o.done=true):Xv ev (k+1) (out.set j o) opn:=by
 have other:∀ i,i≠j→nth (out.set j o) i=nth out i:=fun i hi=>zZ (fun e=>hi e.symm);have here:nth (out.set j o) j=o:=zM hj;have hlen:(out.set j o).length=out.length:=by simp
 have pc:∀ i,(nth (out.set j o) i).p=(nth out i).p∧(nth (out.set j o) i).call=(nth out i).call:=by
  intro i;by_cases e:i=j
  ·subst e;rw [here];exact ⟨h1,h2⟩
  ·rw [other i e];exact ⟨rfl,rfl⟩
 have uniq:∀ i,i<out.length→i≠j→(nth out i).p=(nth out j).p→(nth out i).done=true:=by
  intro i hi he hpe;rcases Nat.lt_or_ge i j with e|e
  ·exact (h.seq i j e hj hpe).1
  ·have:=(h.seq j i za hi hpe.symm).1;rw [hjd] at this;cases this
 have retlt:∀ i,i<out.length→(nth out i).done=true→(nth out i).ret<k:=by
  intro i hi hd;obtain ⟨r,a1,a2,_⟩:=h.ret i hi hd;omega
 refine ⟨h.lop,?_,fun i hi2=>?_,fun a b hab hb=>?_,fun i hi2 hd=>?_,fun i hi2 hd=>?_,fun a b hab hb hda hdb=>?_,fun a b hab hb he=>?_,fun q hq hpq=>?_⟩
 ·rw [hlen,h.len,Vs,hi];rfl
 ·rw [hlen] at hi2;obtain ⟨c,a1,a2,a3,a4⟩:=h.call i hi2;exact ⟨c,by rw [(pc i).2];exact a1,by omega,a3,by rw [(pc i).1];exact a4⟩
 ·rw [hlen] at hb;rw [(pc a).2,(pc b).2];exact h.mono a b hab hb
 ·rw [hlen] at hi2;by_cases e:i=j
  ·subst e;rw [here];obtain ⟨c,a1,a2,_⟩:=h.call i hi2;exact ⟨k,h3,by omega,hi,by omega⟩
  ·rw [other i e] at hd ⊢;obtain ⟨r,a1,a2,a3,a4⟩:=h.ret i hi2 hd;exact ⟨r,a1,by omega,a3,a4⟩
 ·rw [hlen] at hi2;by_cases e:i=j
  ·subst e;rw [here,h4] at hd;cases hd
  ·rw [other i e] at hd ⊢;obtain ⟨a1,a2,a3⟩:=h.stay i hi2 hd;refine ⟨a1,a2,?_⟩;rw [pend,if_neg]
   ·exact a3
   ·intro e2;have:=uniq i hi2 e (e2.symm.trans hjp.symm);rw [hd] at this;cases this
 ·rw [hlen] at hb;by_cases ea:a=j
  ·subst ea;rw [other b za] at hdb ⊢;rw [here,h3];have:=retlt b hb hdb;omega
  ·rw [other a ea] at hda ⊢;by_cases eb:b=j
   ·subst eb;rw [here,h3];have:=retlt a za hda;omega
   ·rw [other b eb] at hdb ⊢;exact h.one a b hab hb hda hdb
 ·rw [hlen] at hb;rw [(pc a).1,(pc b).1] at he;rw [(pc b).2];obtain ⟨s1,s2⟩:=h.seq a b hab hb he;by_cases ea:a=j
  ·subst ea;rw [hjd] at s1;cases s1
  ·rw [other a ea];exact ⟨s1,s2⟩
 ·rw [pend] at hpq;split at hpq
  ·rw [hi] at hpq;cases hpq
  ·rename_i hne;obtain ⟨i,a1,a2,a3,a4⟩:=h.opn q hq hpq;have hij:i≠j:=by
    intro e;subst e;exact hne (by rw [← hjp,a3])
   exact ⟨i,a1,by rw [hlen];exact a2,by rw [other i hij];exact a3,by rw [other i hij];exact a4⟩
theorem Xv.history {ev:List EvV} {k:Nat} {out:List OpV} {opn:List Int} (h:Xv ev k out opn) (hg:Xu ev) (hk:k≤ev.length) (hlen:out.length≤300) (hkind:∀ o∈out,0≤o.k∧o.k≤4):xv out=0:=by
 rw [xv,if_neg za];refine XB _ _ fun j _ hj=>?_;have hj:j<out.length:=by omega
 obtain ⟨c,c1,c2,c3,c4⟩:=h.call j hj;have hkj:=hkind _ (zC hj);have hgc:=(hg c za).1;have hwf:wfB (nth out j)=true:=by
  simp only [wfB,Bool.and_eq_true,decide_eq_true_eq,Bool.or_eq_true];cases hd:(nth out j).done with
  | true =>
   obtain ⟨r,a1,a2,a3,a4⟩:=h.ret j hj hd;exact ⟨⟨⟨⟨⟨by omega,by omega⟩,by omega⟩,by omega⟩,by omega⟩,.inl rfl⟩
  | false =>
   obtain ⟨a1,a2,a3⟩:=h.stay j hj hd;exact ⟨⟨⟨⟨⟨by omega,by omega⟩,by omega⟩,by omega⟩,by omega⟩,.inr a2⟩
 unfold zdB;rw [if_neg (by rw [hwf];simp),if_neg,if_neg,if_neg]
 ·rintro ⟨hsome,hbad⟩;obtain ⟨o,ho⟩:=Option.isSome_iff_exists.1 hsome;rw [ho] at hbad;simp only [Option.getD_some] at hbad;obtain ⟨m,hm,hmo,hmp⟩:=WS ho;subst hmo;obtain ⟨s1,s2⟩:=h.seq m j hm hj hmp;rcases hbad with e|e
  ·rw [s1] at e;cases e
  ·omega
 ·intro hdup;simp only [Bool.or_eq_true,Bool.and_eq_true] at hdup;rcases hdup with e|⟨hd,e|e⟩
  ·obtain ⟨m,h1,h2,h3⟩:=UZ e;simp only [Bool.and_eq_true,beq_iff_eq] at h3;obtain ⟨r,a1,a2,a3,a4⟩:=h.ret m h2 h3.1;have:r=c:=by omega
   subst this;rw [a3] at c3;cases c3
  ·obtain ⟨m,h1,h2,h3⟩:=UZ e;simp only [Bool.and_eq_true,beq_iff_eq] at h3;exact h.one m j h1 hj h3.1 hd h3.2
  ·obtain ⟨m,h1,h2,h3⟩:=UZ e;simp only [beq_iff_eq] at h3;obtain ⟨r,a1,a2,a3,a4⟩:=h.ret j hj hd;obtain ⟨c',b1,b2,b3,b4⟩:=h.call m h2;have:r=c':=by omega
   subst this;rw [a3] at b3;cases b3
 ·rintro ⟨h0,hle⟩;have:=h.mono (j - 1) j za hj;omega
section
open Go.RowKit
end
section
open Go.RowKit
attribute [local go_sem ↓] Go.wp_at_zero Go.wp_at_succ
theorem zdO {l:List Int} {k:Nat} (h:k<l.length) {n:Int}:n∈l.take (k+1)↔n∈l.take k∨nth l k=n:=by
 rw [List.take_succ_eq_append_getElem h,List.mem_append,nth_eq h];simp [eq_comm]
set_option maxRecDepth 100000 in
theorem znM (A:Option Addr) (c:Nat) (l:List Int) (n:Int) (w:World) (h1:Sl XD w w.heap.size A l) (hlen:l.length≤1000000000) :
  Calls Try.prog 23 #[.slice A l.length c,.int .i64 n] w fun e w'=>e=.returned (.bool (decide (n∈l)))∧w=w':=by
 go_enter Try.func23,Try.ntmps23
 go_wp2_with fail
 go_loop [5] (fun v=>∃ k:Nat,k≤l.length∧v=.int .i64 k∧¬ n∈l.take k) (fun v=>l.length - (intOf v).toNat)
 case atStart=>exact ⟨0,by omega,rfl,by simp⟩
 case round=>
  obtain ⟨k,hk,rfl,hno⟩:=hrel;have Hno:=Lib.hid hno;clear hno;by_cases hlt:k<l.length
  ·obtain ⟨b,o,rfl,hbl,q0⟩:=h1.int hlt;cases hc:(nth l k == n) with
   | true =>
    have hm:n∈l:=by have:=zC hlt;rw [show nth l k=n by simpa using hc] at this;exact this
    have Hm:=Lib.hid hm;clear hm
    go_wp2_with fail
    go_ret
    exact ⟨by simp [Hm.out],rfl⟩
   | false =>
    go_wp2_with fail
    go_round
    case rel=>exact ⟨k+1,by omega,by go_num,by rw [zdO hlt];rintro (h|h);exact Hno.out h;simp [h] at hc⟩
    case measure=>simp [intOf];omega
  ·obtain rfl:k=l.length:=by omega
   go_wp2_with fail
   go_ret
   have:=Hno.out;rw [List.take_length] at this;exact ⟨by simp [this],rfl⟩
def zcd (l:List Int) (most:Int):Int:=if l.length=0 then 0 else ZP (nth l 0) most
theorem zmQ (l:List Int) {most:Int} (h:0<most):0≤zcd l most∧zcd l most<most:=by
 unfold zcd;split
 ·omega
 ·exact ⟨zau h,zat h⟩
set_option maxRecDepth 100000 in
theorem zle (A:Option Addr) (c:Nat) (l:List Int) (most:Int) (w:World) (h1:Sl XD w w.heap.size A l) (hl:∀ x∈l,I64 x) (hlen:l.length≤9223372036854775807) (h2:1≤most) (h3:most≤4611686018427387904) :
  Calls Try.prog 25 #[.slice A l.length c,.int .i64 0,.int .i64 most] w fun e w'=>e=.returned (.int .i64 (zcd l most))∧w=w':=by
 by_cases h:0<l.length
 ·obtain ⟨b,o,rfl,hbl,q0⟩:=h1.int h;simp only [Nat.add_zero] at q0;have hI:=hl _ (zC h);have e:zcd l most=ZP (nth l 0) most:=by rw [zcd,if_neg za]
  rw [e];have hlt:(0:Int)<(l.length:Int):=by omega
  have hne:decide (l=[])=false:=by cases l with|nil=>simp at h|cons a t=>simp
  go_enter Try.func25,Try.ntmps25
  go_wp2_with (go_at_call 14;refine (ZL _ _ _ hI za za).mono ?_;rintro e w' ⟨rfl,rfl⟩)
  go_ret
  exact ⟨rfl,rfl⟩
 ·have e:zcd l most=0:=by rw [zcd,if_pos za]
  rw [e];obtain rfl:l=[]:=by cases l with|nil=>rfl|cons a t=>simp at h
  go_enter Try.func25,Try.ntmps25
  go_wp2_with fail
  go_ret
  exact ⟨rfl,rfl⟩
/-! ### chosen -/
def Zc (ws:List Int) (key:Int):Nat→List Int
 | 0 => [0]
 | k+1 => if nth ws k=key then Zc ws key k ++ [(k:Int)+1] else Zc ws key k
theorem zbe (ws:List Int) (key:Int):∀ k,0<(Zc ws key k).length∧(Zc ws key k).length≤k+1
 | 0 => by simp [Zc]
 | k+1 => by
  have:=zbe ws key k;unfold Zc;split
  ·simp;omega
  ·omega
theorem zdT (ws:List Int) (key:Int):∀ k,∀ x∈Zc ws key k,0≤x∧x≤k
 | 0, x, h => by simp [Zc] at h; omega
 | k+1,x,h=>by
  unfold Zc at h;split at h
  ·rcases List.mem_append.1 h with h|h
   ·have:=zdT ws key k x h;omega
   ·simp at h;omega
  ·have:=zdT ws key k x h;omega
def xN (ws:List Int) (key n latest:Int) (fresh:Bool):Int:=
 if fresh=true∧0<n % 7 then latest
 else if n % 13=12 then 1+n / 13 % 12
 else nth (Zc ws key ws.length) (n / 2 % (Zc ws key ws.length).length).toNat
theorem ziu (ws:List Int) (key n latest:Int) (fresh:Bool) (h:0≤latest):0≤xN ws key n latest fresh∧(xN ws key n latest fresh≤latest∨xN ws key n latest fresh≤12∨xN ws key n latest fresh≤ws.length):=by
 unfold xN;split
 ·omega
 ·split
  ·omega
  ·have h1:=zbe ws key ws.length;have h2:(n / 2 % ((Zc ws key ws.length).length:Int)).toNat<(Zc ws key ws.length).length:=by
    have:=Int.emod_lt_of_pos (n / 2) (show (0:Int)<((Zc ws key ws.length).length:Int) by omega);have:=Int.emod_nonneg (n / 2) (show ((Zc ws key ws.length).length:Int)≠0 by omega);omega
   have:=zdT ws key ws.length _ (zC h2);omega
set_option maxRecDepth 100000 in
theorem ziv (A:Option Addr) (c:Nat) (ws:List Int) (key n latest:Int) (fresh:Bool) (w:World) (h1:Sl XD w w.heap.size A ws) (hlen:ws.length≤1000000) (hn0:0≤n) (hn1:n≤1000000) :
  Calls Try.prog 26 #[.slice A ws.length c,.int .i64 key,.int .i64 n,.int .i64 latest,.bool fresh] w fun e w'=>e=.returned (.int .i64 (xN ws key n latest fresh))∧Below w.heap.size w w':=by
 by_cases hf:fresh=true∧0<n % 7
 ·have e:xN ws key n latest fresh=latest:=by rw [xN,if_pos hf]
  rw [e];obtain ⟨rfl,hf2⟩:=hf
  go_enter Try.func26,Try.ntmps26
  go_wp2_with fail
  go_ret
  exact ⟨rfl,Below.refl _ _⟩
 ·obtain ⟨V,hV⟩:∃ V,xN ws key n latest fresh=V:=⟨_,rfl⟩
  have hV2:=hV;rw [xN,if_neg hf] at hV2;rw [hV];clear hV
  go_enter Try.func26,Try.ntmps26
  go_upto_region 1 with fail
  go_cut [18] (fun s wx=>s=.bool false∧w=wx)
  case first=>
   cases fresh with
   | false =>
    go_wp2_with fail
    go_meet
    case rel=>exact ⟨rfl,rfl⟩
   | true =>
    have hf2:¬ 0<n % 7:=fun h=>hf ⟨rfl,h⟩
    go_wp2_with fail
    go_meet
    case rel=>exact ⟨by simp,rfl⟩
  case rest=>
   obtain ⟨rfl,rfl⟩:=hcut;clear hf;by_cases hc:n % 13=12
   ·rw [if_pos hc] at hV2;have hc' : (n % 13 == 12)=true:=by simpa using hc
    clear hc;subst hV2
    go_wp2_with fail
    go_ret
    exact ⟨rfl,Below.refl _ _⟩
   ·rw [if_neg hc] at hV2;have hc' : (n % 13 == 12)=false:=by simpa using hc
    clear hc;have HV:=Lib.hid hV2;clear hV2
    go_wp2_with fail
    go_loopw [11,12] (fun v i wr=>∃ (k:Nat) (A1:Option Addr) (c1:Nat),k≤ws.length∧i=.int .i64 k∧v=.slice A1 (Zc ws key k).length c1∧
     wr.ownsRow w.heap.size 3 1 (.slice A1 (Zc ws key k).length c1) (Zc ws key k).length (flat XD (Zc ws key k))∧Below w.heap.size w wr) (fun _ i _=>ws.length - (intOf i).toNat)
    case atStart=>
     refine ⟨0,some ⟨w.heap.size,0,none⟩,1,by omega,rfl,rfl,?_,(Below.refl _ _).alloc (Nat.le_refl _) _⟩;refine ⟨by rfl,.inr ⟨w.heap.size,1,#[.int .i64 0],rfl,Nat.le_refl _,heap_alloc_new w _,?_⟩⟩;simp [Zc,flat,XD,maxLen]
    case round=>
     obtain ⟨k,A1,c1,hk,rfl,rfl,ho,hb⟩:=hrel;have hsz:=hb.size;obtain ⟨hl1,hl2⟩:=zbe ws key k;by_cases hlt:k<ws.length
     ·obtain ⟨b,o,rfl,hbl,q0⟩:=(h1.below hb).int hlt;cases hc:(nth ws k == key) with
      | true=>
       have Hs:=Lib.hid (show Zc ws key (k+1)=Zc ws key k++[(k:Int)+1] by rw [Zc,if_pos (by simpa using hc)])
       go_wp2_with (at_builtin;go_loud (refine xp znc ho rfl (.tmp 40) (.tmp 43) rfl rfl rfl rfl XX za za za ?_;intro A3 c3 w2 ho3 hb3 hg3 hl3))
       go_roundw
       case rel=>
        refine ⟨k+1,A3,c3,by omega,by go_num,by rw [Hs.out];simp,?_,hb.trans hb3⟩;rw [Hs.out,xj,Ym];simpa [XD] using ho3
       case measure=>simp [intOf];omega
      | false =>
       have Hs:=Lib.hid (show Zc ws key (k+1)=Zc ws key k by rw [Zc,if_neg (by simpa using hc)])
       go_wp2_with fail
       go_roundw
       case rel=>exact ⟨k+1,A1,c1,by omega,by go_num,by rw [Hs.out],by rw [Hs.out];exact ho,hb⟩
       case measure=>simp [intOf];omega
     ·obtain rfl:k=ws.length:=by omega
      obtain ⟨m,hm⟩:∃ m:Nat,m=(Zc ws key ws.length).length:=⟨_,rfl⟩
      obtain ⟨q,hq⟩:∃ q:Nat,n / 2 % (m:Int)=q:=⟨(n / 2 % (m:Int)).toNat,by have:=Int.emod_nonneg (n / 2) (show (m:Int)≠0 by omega);omega⟩
      have hqm:q<m:=by have:=Int.emod_lt_of_pos (n / 2) (show (0:Int)<(m:Int) by omega);omega
      obtain ⟨b2,o2,rfl,hbl2,q2⟩:=(Sl.of_own ho rfl).int (i:=q) za;have hq2:=HV.out;rw [← hm,hq] at hq2;simp only [Int.toNat_natCast] at hq2;rw [hq2] at q2;rw [← hm] at hl1 hl2 ⊢;have Hq:=Lib.hid hq;have hm0:(0:Int)<(m:Int):=by omega
      have hm1:(m:Int)≤1000001:=by omega
      have hq0:(0:Int)≤(q:Int):=by omega
      have hqm' : (q:Int)<(m:Int):=by omega
      clear hm hq2 ho
      go_wp2_with fail
      go_ret
      exact ⟨rfl,hb⟩
/-! ### popped -/
def Xg (pushed taken:List Int) (key:Int) (k:Nat):Nat→Int
 | 0 => 0
 | m+1 => if nth pushed k=key ∧ ¬ ((k:Int)+1) ∈ taken then (k:Int)+1 else Xg pushed taken key (k+1) m
def xz (pushed taken:List Int) (key n:Int):Int:=
 if n % 9=8 then n / 9 % 9 else if 0<n % 5 then Xg pushed taken key 0 pushed.length else 0
theorem zcQ (pushed taken:List Int) (key:Int):∀ m k,0≤Xg pushed taken key k m∧Xg pushed taken key k m≤(k:Int)+m
 | 0, k => by unfold Xg; omega
 | m+1, k => by
  have:=zcQ pushed taken key m (k+1);unfold Xg;split
  ·omega
  ·omega
theorem zjg (pushed taken:List Int) (key n:Int):0≤xz pushed taken key n∧(xz pushed taken key n≤8∨xz pushed taken key n≤pushed.length):=by
 unfold xz;have:=zcQ pushed taken key pushed.length 0;split
 ·omega
 ·split
  ·omega
  ·omega
set_option maxRecDepth 100000 in
theorem zjh (A1 A2:Option Addr) (c1 c2:Nat) (pushed taken:List Int) (key n:Int) (w:World) (h1:Sl XD w w.heap.size A1 pushed) (h2:Sl XD w w.heap.size A2 taken) (hl1:pushed.length≤1000000) (hl2:taken.length≤1000000) (hn0:0≤n) (hn1:n≤1000000) :
  Calls Try.prog 29 #[.slice A1 pushed.length c1,.slice A2 taken.length c2,.int .i64 key,.int .i64 n] w fun e w'=>e=.returned (.int .i64 (xz pushed taken key n))∧Below w.heap.size w w':=by
 obtain ⟨V,hV⟩:∃ V,xz pushed taken key n=V:=⟨_,rfl⟩
 have hV2:=hV;rw [xz] at hV2;rw [hV];clear hV;by_cases hc:n % 9=8
 ·rw [if_pos hc] at hV2;have hc' : (n % 9 == 8)=true:=by simpa using hc
  clear hc;subst hV2
  go_enter Try.func29,Try.ntmps29
  go_wp2_with fail
  go_ret
  exact ⟨rfl,Below.refl _ _⟩
 ·rw [if_neg hc] at hV2;have hc' : (n % 9 == 8)=false:=by simpa using hc
  clear hc;by_cases h5:0<n % 5
  ·rw [if_pos h5] at hV2;have HV:=Lib.hid hV2;clear hV2
   go_enter Try.func29,Try.ntmps29
   go_wp2_with fail
   go_loopw [9] (fun i wr=>∃ k:Nat,k≤pushed.length∧i=.int .i64 k∧Below w.heap.size w wr∧Xg pushed taken key k (pushed.length - k)=V) (fun i _=>pushed.length - (intOf i).toNat)
   case atStart=>exact ⟨0,by omega,rfl,Below.refl _ _,by simpa using HV.out⟩
   case round=>
    obtain ⟨k,hk,rfl,hb,hno⟩:=hrel;have Hno:=Lib.hid hno;clear hno;have hsz:=hb.size;by_cases hlt:k<pushed.length
    ·obtain ⟨b,o,rfl,hbl,q0⟩:=(h1.below hb).int hlt;have hstep:=Hno.out;rw [show pushed.length - k=(pushed.length - (k+1))+1 by omega,Xg] at hstep;have Hstep:=Lib.hid hstep;clear hstep
     go_upto_region 6 with fail
     obtain ⟨d,hd⟩:∃ d,decide (nth pushed k=key∧¬ ((k:Int)+1)∈taken)=d:=⟨_,rfl⟩
     have Hd:=Lib.hid hd;clear hd
     go_cut [39] (fun s wx=>s=.bool d∧Below w.heap.size w wx)
     case first=>
      cases hc:(nth pushed k == key) with
      | false =>
       go_wp2_with fail
       go_meet
       case rel=>exact ⟨by rw [← Hd.out];simp at hc;simp [hc],hb⟩
      | true =>
       go_wp2_with (go_at_call 23;refine (znM _ _ _ _ _ ((h2.ext hb)) za).mono ?_;rintro e w' ⟨rfl,rfl⟩)
       go_meet
       case rel=>exact ⟨by rw [← Hd.out];simp at hc;simp [hc],hb⟩
     case rest=>
      obtain ⟨rfl,hb2⟩:=hcut;cases d with
      | true =>
       have hh:=Hstep.out;rw [if_pos (by simpa using Hd.out)] at hh;subst hh
       go_wp2_with fail
       go_ret
       exact ⟨rfl,hb2⟩
      | false =>
       have hh:=Hstep.out;rw [if_neg (by simpa using Hd.out)] at hh;have Hh:=Lib.hid hh;clear hh
       go_wp2_with fail
       go_roundw
       case rel=>exact ⟨k+1,by omega,by go_num,hb2,Hh.out⟩
       case measure=>simp [intOf];omega
    ·obtain rfl:k=pushed.length:=by omega
     have hh:=Hno.out;simp [Xg] at hh;subst hh
     go_wp2_with fail
     go_ret
     exact ⟨rfl,hb⟩
  ·rw [if_neg h5] at hV2;subst hV2;have h5' : ¬ 0<n % 5:=h5
   go_enter Try.func29,Try.ntmps29
   go_wp2_with fail
   go_loop [9] (fun i=>i=.int .i64 0) (fun _=>0)
   case atStart=>rfl
   case round=>
    subst hrel
    go_wp2_with fail
    all_goals go_ret
    all_goals exact ⟨rfl,Below.refl _ _⟩
end
section
open Go.RowKit
end
section
open Go.RowKit
attribute [local go_sem ↓] Go.wp_at_zero Go.wp_at_succ
def zoq (l:List OpV) (o:OpV) (i j:Nat):Bool:=decide (j<i) && (nth l j).done && (o.call == (nth l j).ret || o.done && o.ret == (nth l j).ret)
def zor (l:List OpV) (o:OpV) (j:Nat):Bool:=o.done && o.ret == (nth l j).call
def zdz (l:List OpV) (o:OpV) (i k:Nat):Bool:=(List.range k).any fun j=>zoq l o i j || zor l o j
def zop (l:List OpV) (o:OpV) (j:Nat):Bool:=(nth l j).p == o.p && (!(nth l j).done || decide (o.call<(nth l j).ret))
def Vg (l:List OpV) (o:OpV) (k:Nat):Bool:=(List.range k).any fun j=>zop l o j
def zbV (l:List OpV) (k:Nat):Int:=
 if wfB (nth l k)=false then 1
 else if 0<k∧(nth l k).call≤(nth l (k - 1)).call then 5
 else if zdz l (nth l k) k l.length=true then 4
 else if Vg l (nth l k) k=true then 5
 else 0
theorem ziB (l:List OpV) (o:OpV) (i k:Nat):zdz l o i (k+1)=(zdz l o i k || (zoq l o i k || zor l o k)):=by
 unfold zdz;rw [List.range_succ,List.any_append];simp
theorem zgi (l:List OpV) (o:OpV) (k:Nat):Vg l o (k+1)=(Vg l o k || zop l o k):=by
 unfold Vg;rw [List.range_succ,List.any_append];simp
theorem zcp {l:List OpV} {o:OpV} {i k:Nat} (hk:k<l.length) (h:(zoq l o i k || zor l o k)=true):zdz l o i l.length=true:=
 List.any_eq_true.2 ⟨k,by simpa using hk,h⟩
theorem zgh {l:List OpV} {o:OpV} {i k:Nat} (hk:k<i) (h:zop l o k=true):Vg l o i=true:=
 List.any_eq_true.2 ⟨k,by simpa using hk,h⟩
set_option maxRecDepth 100000 in
theorem zl8 (A:Option Addr) (c:Nat) (l:List OpV) (i:Nat) (w:World) (h1:Sl OpV.vals w w.heap.size A l) (hi:i<l.length) (hlen:l.length≤1000000000) :
  Calls Try.prog 79 #[.slice A l.length c,.int .i64 i] w fun e w'=>e=.returned (.int .i64 (zbV l i))∧Below w.heap.size w w':=by
 obtain ⟨o,ho⟩:∃ o,nth l i=o:=⟨_,rfl⟩
 obtain ⟨X,hX⟩:∃ X,zbV l i=X:=⟨_,rfl⟩
 rw [hX];have HX:=Lib.hid hX;obtain ⟨b1,o1,rfl,hbl1,p0,p1,p2,p3,p4,p5,p6,p7⟩:=h1.op hi;rw [ho] at p0 p1 p2 p3 p4 p5 p6 p7;have Ho:=Lib.hid ho;clear ho hX;have hb1:b1<w.heap.size:=by omega
 go_enter Try.func79,Try.ntmps79
 go_upto_region 2 with fail
 have B1:Blk (w.alloc (.cells #[.int .i64 o.p,.int .i64 o.k,.int .i64 o.key,.int .i64 o.arg,.int .i64 o.res,.int .i64 o.call,.int .i64 o.ret,.bool o.done] 43)) w.heap.size 43 o.vals:=Blk.new w 43 o.vals;have hbW:Below w.heap.size w (w.alloc (.cells #[.int .i64 o.p,.int .i64 o.k,.int .i64 o.key,.int .i64 o.arg,.int .i64 o.res,.int .i64 o.call,.int .i64 o.ret,.bool o.done] 43)):=Xx _;have hsW:w.heap.size<(w.alloc (.cells #[.int .i64 o.p,.int .i64 o.k,.int .i64 o.key,.int .i64 o.arg,.int .i64 o.res,.int .i64 o.call,.int .i64 o.ret,.bool o.done] 43)).heap.size:=by simp
 obtain ⟨W,hW⟩:∃ W,W=(w.alloc (.cells #[.int .i64 o.p,.int .i64 o.k,.int .i64 o.key,.int .i64 o.arg,.int .i64 o.res,.int .i64 o.call,.int .i64 o.ret,.bool o.done] 43)):=⟨_,rfl⟩
 rw [← hW] at B1 hbW hsW ⊢;clear hW p0 p1 p2 p3 p4 p5 p6 p7;have h2:=h1.below hbW;have hWs:=hbW.size;obtain ⟨x0,x1,x2,x3,x4,x5,x6,x7⟩:=B1.op
 go_cut [46] (fun s wx=>s=.bool (!wfB o)∧W=wx)
 case first=>
  by_cases g1:0≤o.p
  ·by_cases g2:0≤o.k
   ·by_cases g3:o.k≤4
    ·by_cases g4:0≤o.call
     ·by_cases g5:o.call<o.ret
      ·cases g6:o.done with
       | true =>
        rw [g6] at x7
        go_wp2_with fail
        go_meet
        case rel=>exact ⟨by simp [wfB,g1,g2,g3,g4,g5,g6],rfl⟩
       | false=>
        rw [g6] at x7;by_cases g7:o.res=0
        ·have g7' : (o.res != 0)=false:=by simpa using g7
         go_wp2_with fail
         go_meet
         case rel=>exact ⟨by simp [wfB,g1,g2,g3,g4,g5,g6,g7],rfl⟩
        ·have g7' : (o.res != 0)=true:=by simpa using g7
         go_wp2_with fail
         go_meet
         case rel=>exact ⟨by simp [wfB,g1,g2,g3,g4,g5,g6,g7],rfl⟩
      ·go_wp2_with fail
       go_meet
       case rel=>exact ⟨by simp [wfB,g5],rfl⟩
     ·go_wp2_with fail
      go_meet
      case rel=>exact ⟨by simp [wfB,g4],rfl⟩
    ·go_wp2_with fail
     go_meet
     case rel=>exact ⟨by simp [wfB,g3],rfl⟩
   ·go_wp2_with fail
    go_meet
    case rel=>exact ⟨by simp [wfB,g2],rfl⟩
  ·go_wp2_with fail
   go_meet
   case rel=>exact ⟨by simp [wfB,g1],rfl⟩
 case rest =>
  obtain ⟨rfl,rfl⟩:=hcut;cases hwf:wfB o with
  | false =>
   have e:zbV l i=1:=by rw [zbV,if_pos (by rw [Ho.out];exact hwf)]
   rw [HX.out] at e;subst e
   go_wp2_with fail
   go_ret
   exact ⟨rfl,hbW⟩
  | true =>
   have Hwf:=Lib.hid (show ¬ (wfB (nth l i)=false) by rw [Ho.out,hwf];simp);clear hwf;by_cases hord:0<i∧o.call≤(nth l (i - 1)).call
   ·have e:zbV l i=5:=by rw [zbV,if_neg Hwf.out,if_pos (by rw [Ho.out];exact hord)]
    rw [HX.out] at e;subst e;obtain ⟨hi0,hord⟩:=hord;have hi1:i - 1<l.length:=by omega
    obtain ⟨_,_,_,_,_,q5,_,_⟩:=h2.op' hi1;have hi2:(0:Int)<(i:Int):=by omega
    go_wp2_with fail
    go_quiet (fail)
    go_wp2_with fail
    go_ret
    exact ⟨rfl,Yz hbW _⟩
   ·have Hord:=Lib.hid (show ¬ (0<i∧(nth l i).call≤(nth l (i - 1)).call) by rw [Ho.out];exact hord);clear hord
    go_upto_region 4 with fail
    go_cut [59] (fun s wx=>s=.bool false∧∃ n,wx=W.drewN n)
    case first=>
     by_cases hk0:0<i
     ·have hk1:i - 1<l.length:=by omega
      obtain ⟨_,_,_,_,_,q5,_,_⟩:=h2.op' hk1;have hk2:(0:Int)<(i:Int):=by omega
      have hle:(nth l (i - 1)).call<o.call:=by have:=Hord.out;rw [Ho.out] at this;omega
      go_wp2_with fail
      go_quiet (fail)
      go_wp2_with fail
      go_meet
      case rel=>exact ⟨by simp;omega,_,rfl⟩
     ·have hk2:decide ((0:Int)<(i:Int))=false:=by simp;omega
      go_wp2_with fail
      go_quiet (fail)
      go_wp2_with fail
      go_meet
      case rel=>exact ⟨by simp,_,rfl⟩
    case rest=>
     obtain ⟨rfl,n,rfl⟩:=hcut;have hbn:=Yz hbW n;have B2:=B1.drewN n;clear x0 x1 x2 x3 x4 x5 x6 x7 B1;obtain ⟨V,hV⟩:∃ V,V=W.drewN n:=⟨_,rfl⟩
     rw [← hV] at hbn B2 ⊢;have hVs:W.heap.size=V.heap.size:=by rw [hV];rfl
     clear hV hbW h2
     go_wp2_with fail
     go_loopw [6] (fun v wr=>∃ k:Nat,k≤l.length∧v=.int .i64 k∧Blk wr w.heap.size 43 o.vals∧Below w.heap.size w wr∧zdz l o i k=false) (fun v _=>l.length - (intOf v).toNat)
     case atStart=>exact ⟨0,by omega,rfl,B2,hbn,rfl⟩
     case round=>
      obtain ⟨k,hk,rfl,B3,hb,hno⟩:=hrel;have Hno:=Lib.hid hno;clear hno;by_cases hlt:k<l.length
      ·obtain ⟨q0,q1,q2,q3,q4,q5,q6,q7⟩:=(h1.below hb).op' hlt;obtain ⟨x0,x1,x2,x3,x4,x5,x6,x7⟩:=B3.op;obtain ⟨d1,hd1⟩:∃ d1,zoq l o i k=d1:=⟨_,rfl⟩
       have Hd1:=Lib.hid hd1;clear hd1
       go_upto_region 9 with fail
       go_cut [99] (fun s wx=>s=.bool d1∧∃ n,wx=wr.drewN n)
       case first=>
        have hd:=Hd1.out;unfold zoq at hd;by_cases c1:k<i
        ·have c1' : (k:Int)<(i:Int):=by omega
         cases c2:(nth l k).done with
         | false =>
          rw [c2] at q7
          go_wp2_with fail
          go_quiet (fail)
          go_wp2_with fail
          go_meet
          case rel=>exact ⟨by simp [← hd,c1,c2],_,rfl⟩
         | true=>
          rw [c2] at q7;cases c3:(o.call == (nth l k).ret) with
          | true =>
           go_wp2_with fail
           go_quiet (fail)
           go_wp2_with fail
           go_meet
           case rel=>exact ⟨by simp [← hd,c1,c2,c3],_,rfl⟩
          | false=>
           cases c4:o.done with
           | false =>
            rw [c4] at x7
            go_wp2_with fail
            go_quiet (fail)
            go_wp2_with fail
            go_meet
            case rel=>exact ⟨by simp [← hd,c1,c2,c3,c4],_,rfl⟩
           | true=>
            rw [c4] at x7;cases c5:(o.ret == (nth l k).ret) with
            | true =>
             go_wp2_with fail
             go_quiet (fail)
             go_wp2_with fail
             go_meet
             case rel=>exact ⟨by simp [← hd,c1,c2,c3,c4,c5],_,rfl⟩
            | false =>
             go_wp2_with fail
             go_quiet (fail)
             go_wp2_with fail
             go_meet
             case rel=>exact ⟨by simp [← hd,c1,c2,c3,c4,c5],_,rfl⟩
        ·have c1' : decide ((k:Int)<(i:Int))=false:=by simp;omega
         go_wp2_with fail
         go_quiet (fail)
         go_wp2_with fail
         go_meet
         case rel=>exact ⟨by simp [← hd,c1],_,rfl⟩
       case rest=>
        obtain ⟨rfl,n,rfl⟩:=hcut;cases d1 with
        | true =>
         have e:zbV l i=4:=by rw [zbV,if_neg Hwf.out,if_neg Hord.out,if_pos (by rw [Ho.out];exact zcp hlt (by rw [Hd1.out];rfl))]
         rw [HX.out] at e;subst e
         go_wp2_with fail
         go_ret
         exact ⟨rfl,Yz hb _⟩
        | false=>
         obtain ⟨d2,hd2⟩:∃ d2,zor l o k=d2:=⟨_,rfl⟩
         have Hd2:=Lib.hid hd2;clear hd2;have hs2:(wr.drewN n).heap.size=wr.heap.size:=rfl
         go_upto_region 11 with fail
         go_cut [111] (fun s wx=>s=.bool d2∧∃ m,wx=(wr.drewN n).drewN m)
         case first=>
          have hd:=Hd2.out;unfold zor at hd;cases c4:o.done with
          | false =>
           rw [c4] at x7
           go_wp2_with fail
           go_quiet (fail)
           go_wp2_with fail
           go_meet
           case rel=>exact ⟨by simp [← hd,c4],_,rfl⟩
          | true =>
           rw [c4] at x7
           go_wp2_with fail
           go_quiet (fail)
           go_wp2_with fail
           go_meet
           case rel=>exact ⟨by simp [← hd,c4],_,rfl⟩
         case rest=>
          obtain ⟨rfl,m,rfl⟩:=hcut;cases d2 with
          | true =>
           have e:zbV l i=4:=by rw [zbV,if_neg Hwf.out,if_neg Hord.out,if_pos (by rw [Ho.out];exact zcp hlt (by rw [Hd2.out];simp))]
           rw [HX.out] at e;subst e
           go_wp2_with fail
           go_ret
           exact ⟨rfl,Yz (Yz hb _) _⟩
          | false =>
           go_wp2_with fail
           go_roundw
           case rel=>exact ⟨k+1,by omega,by go_num,B3.drewN _,Yz hb _,by rw [ziB,Hno.out,Hd1.out,Hd2.out];rfl⟩
           case measure=>simp [intOf];omega
      ·obtain rfl:k=l.length:=by omega
       have Hdup:=Lib.hid (show ¬ (zdz l (nth l i) i l.length=true) by rw [Ho.out,Hno.out];simp);have B4:=B3;have hb4:=hb;obtain ⟨V2,rfl⟩:∃ V2:World,V2=wr:=⟨_,rfl⟩
       go_wp2_with fail
       go_loopw [7] (fun v wr=>∃ k:Nat,k≤i∧v=.int .i64 k∧Blk wr w.heap.size 43 o.vals∧Below w.heap.size w wr∧Vg l o k=false) (fun v _=>i - (intOf v).toNat)
       case atStart=>exact ⟨0,by omega,rfl,B4,hb4,rfl⟩
       case round=>
        obtain ⟨k,hk,rfl,B3,hb,hno⟩:=hrel;have Hnb:=Lib.hid hno;clear hno B4 hb4;by_cases hlt:k<i
        ·have hkl:k<l.length:=by omega
         have hint:(k:Int)<(i:Int):=by omega
         obtain ⟨q0,q1,q2,q3,q4,q5,q6,q7⟩:=(h1.below hb).op' hkl;obtain ⟨x0,x1,x2,x3,x4,x5,x6,x7⟩:=B3.op;obtain ⟨d1,hd1⟩:∃ d1,zop l o k=d1:=⟨_,rfl⟩
         have Hd1:=Lib.hid hd1;clear hd1
         go_upto_region 16 with fail
         go_cut [142] (fun s wx=>s=.bool d1∧∃ n,wx=wr.drewN n)
         case first=>
          have hd:=Hd1.out;unfold zop at hd;cases c1:((nth l k).p == o.p) with
          | false =>
           go_wp2_with fail
           go_quiet (fail)
           go_wp2_with fail
           go_meet
           case rel=>exact ⟨by simp [← hd,c1],_,rfl⟩
          | true=>
           cases c2:(nth l k).done with
           | false =>
            rw [c2] at q7
            go_wp2_with fail
            go_quiet (fail)
            go_wp2_with fail
            go_meet
            case rel=>exact ⟨by simp [← hd,c1,c2],_,rfl⟩
           | true =>
            rw [c2] at q7
            go_wp2_with fail
            go_quiet (fail)
            go_wp2_with fail
            go_meet
            case rel=>exact ⟨by simp [← hd,c1,c2],_,rfl⟩
         case rest=>
          obtain ⟨rfl,n,rfl⟩:=hcut;cases d1 with
          | true =>
           have e:zbV l i=5:=by rw [zbV,if_neg Hwf.out,if_neg Hord.out,if_neg Hdup.out,if_pos (by rw [Ho.out];exact zgh hlt Hd1.out)]
           rw [HX.out] at e;subst e
           go_wp2_with fail
           go_ret
           exact ⟨rfl,Yz hb _⟩
          | false =>
           go_wp2_with fail
           go_roundw
           case rel=>exact ⟨k+1,by omega,by go_num,B3.drewN _,Yz hb _,by rw [zgi,Hnb.out,Hd1.out];rfl⟩
           case measure=>simp [intOf];omega
        ·obtain rfl:k=i:=by omega
         have e:zbV l k=0:=by rw [zbV,if_neg Hwf.out,if_neg Hord.out,if_neg Hdup.out,if_neg (by rw [Ho.out,Hnb.out];simp)]
         rw [HX.out] at e;subst e
         go_wp2_with fail
         go_ret
         exact ⟨rfl,hb⟩
def yv (l:List OpV) (k:Nat):Nat→Int
 | 0 => 0
 | n+1 => if zbV l k=0 then yv l (k+1) n else zbV l k
def zbj (l:List OpV):Int:=if 300<l.length then 2 else yv l 0 l.length
theorem zdZ {l:List OpV} {k n:Nat} (h:zbV l k=0):yv l k (n+1)=yv l (k+1) n:=by simp [yv,h]
theorem zce {l:List OpV} {k n:Nat} (h:zbV l k≠0):yv l k (n+1)=zbV l k:=by simp [yv,h]
set_option maxRecDepth 100000 in
theorem zjl (A:Option Addr) (c:Nat) (l:List OpV) (w:World) (h1:Sl OpV.vals w w.heap.size A l) (hlen:l.length≤1000000000) :
  Calls Try.prog 65 #[.slice A l.length c] w fun e w'=>e=.returned (.int .i64 (zbj l))∧Below w.heap.size w w':=by
 by_cases hbig:300<l.length
 ·go_enter Try.func65,Try.ntmps65
  go_wp2_with fail
  go_ret
  exact ⟨by simp [zbj,hbig],Below.refl _ _⟩
 ·have hc:zbj l=yv l 0 l.length:=by simp [zbj,hbig]
  rw [hc]
  go_enter Try.func65,Try.ntmps65
  go_wp2_with fail
  go_loopw [3,4] (fun v _ wr=>∃ k:Nat,k≤l.length∧v=.int .i64 k∧Below w.heap.size w wr∧yv l k (l.length - k)=yv l 0 l.length) (fun v _ _=>l.length - (intOf v).toNat)
  case atStart=>exact ⟨0,by omega,rfl,Below.refl _ _,by simp⟩
  case round=>
   obtain ⟨k,hk,rfl,hb,hno⟩:=hrel;obtain ⟨X,hX⟩:∃ X,yv l 0 l.length=X:=⟨_,rfl⟩
   rw [hX] at hno ⊢;have HX:=Lib.hid hX;have Hno:=Lib.hid hno;clear hno hX;by_cases hlt:k<l.length
   ·obtain ⟨E,hE⟩:∃ E,zbV l k=E:=⟨_,rfl⟩
    have HE:=Lib.hid hE;clear hE;have hsl:=(h1.ext hb)
    go_wp2_with (go_at_call 79;refine (zl8 _ _ l k _ hsl hlt hlen).mono ?_;rintro e w2 ⟨rfl,hb2⟩;rw [HE.out])
    ·have hne:¬ E=0:=by simpa using ‹(E != 0)=true›
     have hh:=Hno.out;rw [show l.length - k=(l.length - (k+1))+1 by omega,zce (by rw [HE.out];exact hne),HE.out] at hh;subst hh
     go_ret
     exact ⟨by first|(rw [HX.out];done)|(rw [HX.out];rfl),zpb hb hb2⟩
    ·have hz:E=0:=by simpa using ‹(E != 0)=false›
     have hh:=Hno.out;rw [show l.length - k=(l.length - (k+1))+1 by omega,zdZ (by rw [HE.out];exact hz)] at hh
     go_roundw
     case rel=>exact ⟨k+1,by omega,by go_num,zpb hb hb2,by rw [hh]⟩
     case measure=>simp [intOf];omega
   ·obtain rfl:k=l.length:=by omega
    have hh:=Hno.out;simp [yv] at hh;have h0:X=0:=by omega
    subst h0
    go_wp2_with fail
    go_ret
    exact ⟨by first|(rw [HX.out];done)|(rw [HX.out];rfl),hb⟩
end
theorem zmt {l:List OpV} {k:Nat} (hk:k<l.length):(zcf l k (nth l k).call || (nth l k).done && (zcf l k (nth l k).ret || Wy l l.length (nth l k).ret))=zdz l (nth l k) k l.length:=by
 rw [Bool.eq_iff_iff];generalize nth l k=o;have e1:∀ x,zcf l k x=true↔∃ j,j<k∧(nth l j).done=true∧(nth l j).ret=x:=fun x=>by
  unfold zcf;rw [zic za];simp
 have e2:∀ x,Wy l l.length x=true↔∃ j,j<l.length∧(nth l j).call=x:=fun x=>by
  unfold Wy;rw [List.take_length,znE];simp
 unfold zdz;rw [zfG];simp only [Bool.or_eq_true,Bool.and_eq_true,e1,e2,zoq,zor,decide_eq_true_eq,beq_iff_eq];constructor
 ·rintro (⟨j,h1,h2,h3⟩|⟨hd,⟨j,h1,h2,h3⟩|⟨j,h1,h2⟩⟩)
  ·exact ⟨j,by omega,.inl ⟨⟨h1,h2⟩,.inl h3.symm⟩⟩
  ·exact ⟨j,by omega,.inl ⟨⟨h1,h2⟩,.inr ⟨hd,h3.symm⟩⟩⟩
  ·exact ⟨j,h1,.inr ⟨hd,h2.symm⟩⟩
 ·rintro ⟨j,hj,⟨⟨h1,h2⟩,h3|⟨hd,h3⟩⟩|⟨hd,h2⟩⟩
  ·exact .inl ⟨j,h1,h2,h3.symm⟩
  ·exact .inr ⟨hd,.inl ⟨j,h1,h2,h3.symm⟩⟩
  ·exact .inr ⟨hd,.inr ⟨j,hj,h2.symm⟩⟩
def zeq (l:List OpV) (k:Nat):Prop:=∀ j,j<k→∃ o,xb l k (nth l j).p=some o∧o.p=(nth l j).p∧(o=nth l j∨((nth l j).done=true∧(nth l j).ret≤o.call))∧o.call<o.ret
theorem zgK {l:List OpV} {k:Nat} (h:zeq l k) (he:zdB l k=0):zeq l (k+1):=by
 unfold zdB at he;split at he
 ·omega
 ·rename_i hwf;split at he
  ·omega
  ·split at he
   ·omega
   ·split at he
    ·omega
    ·rename_i hlast;have hwf2:(nth l k).call<(nth l k).ret:=by
      have hw:wfB (nth l k)=true:=by simpa using hwf
      simp only [wfB,Bool.and_eq_true,decide_eq_true_eq] at hw;omega
     intro j hj;rw [xb];by_cases hp:(nth l j).p=(nth l k).p
     ·rw [if_pos hp];refine ⟨_,rfl,hp.symm,?_,hwf2⟩;by_cases hjk:j=k
      ·subst hjk;exact .inl rfl
      ·right;obtain ⟨o,ho,hop,hrel,hret⟩:=h j za;rw [hp] at ho;rw [ho] at hlast;simp only [Option.isSome_some,Option.getD_some,true_and] at hlast;have hd:o.done=true:=by
        cases hd:o.done with
        | true => rfl
        | false => exact absurd (.inl hd) hlast
       have hr:o.ret≤(nth l k).call:=by
        rcases Int.lt_or_le (nth l k).call o.ret with h2|h2
        ·exact absurd (.inr h2) hlast
        ·exact h2
       rcases hrel with e|⟨e1,e2⟩
       ·rw [← e];exact ⟨hd,hr⟩
       ·exact ⟨e1,by omega⟩
     ·rw [if_neg hp];have hjk:j≠k:=fun e=>hp (by rw [e]);exact h j za
theorem zkj {l:List OpV} {k:Nat} (h:zeq l k):((xb l k (nth l k).p).isSome=true∧(((xb l k (nth l k).p).getD default).done=false∨(nth l k).call<((xb l k (nth l k).p).getD default).ret))↔Vg l (nth l k) k=true:=by
 generalize nth l k=o;unfold Vg;rw [zfG];simp only [zop,Bool.and_eq_true,Bool.or_eq_true,beq_iff_eq,decide_eq_true_eq,Bool.not_eq_true'];constructor
 ·rintro ⟨h1,h2⟩;obtain ⟨q,hq⟩:=Option.isSome_iff_exists.1 h1;rw [hq] at h2;simp only [Option.getD_some] at h2;obtain ⟨m,hm,hmq,hmp⟩:=WS hq;subst hmq;exact ⟨m,hm,hmp,h2⟩
 ·rintro ⟨j,hj,hp,h2⟩;obtain ⟨q,hq,hqp,hrel,hret⟩:=h j hj;rw [hp] at hq;rw [hq];simp only [Option.isSome_some,Option.getD_some,true_and];rcases hrel with e|⟨e1,e2⟩
  ·subst e;exact h2
  ·rcases h2 with h2|h2
   ·rw [e1] at h2;cases h2
   ·exact .inr za
theorem zmx {l:List OpV} {k:Nat} (hk:k<l.length) (h:zeq l k):zdB l k=zbV l k:=by
 unfold zdB zbV;rw [zmt hk];have hb:=zkj h;by_cases hbz:Vg l (nth l k) k=true
 ·rw [if_pos (hb.2 hbz),if_pos hbz]
 ·rw [if_neg (fun e=>hbz (hb.1 e)),if_neg hbz]
theorem zeW {l:List OpV}:∀ (n k:Nat),k+n≤l.length→zeq l k→ym l k n=yv l k n
 | 0, _, _, _ => rfl
 | n+1,k,hk,h=>by
  have e:=zmx (show k<l.length by omega) h;rw [ym,yv,← e];by_cases h0:zdB l k=0
  ·rw [if_pos h0,if_pos h0];exact zeW n (k+1) za (zgK h h0)
  ·rw [if_neg h0,if_neg h0]
theorem zit (l:List OpV):xv l=zbj l:=by
 unfold xv zbj;split
 ·rfl
 ·exact zeW _ _ za (fun j hj=>by omega)
end Go.Proofs.Ytmnmakhpjgjdaaa
