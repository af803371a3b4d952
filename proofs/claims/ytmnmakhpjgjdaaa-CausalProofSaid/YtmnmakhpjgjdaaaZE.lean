/-
  Some texts as one: Observed, Events, RefOf, HistOf, HistPlain, SoundPlain, GenPlain, Same, Picks, Appends.
-/
import Derived.Test.YtmnmakhpjgjdaaaZD
import Derived.Deep.RegionHeld3
import Derived.Deep.DrawnRows
import Derived.Deep.DeepCutAuto
namespace Go.Proofs.Ytmnmakhpjgjdaaa
set_option linter.unusedVariables false
set_option maxHeartbeats 16000000
section
open Go.RowKit
attribute [local go_sem ↓] Go.wp_at_zero Go.wp_at_succ
theorem zQ {w:World} {base:Nat} {e:TypeId} {sz n:Nat} {v:Value} {xs:List Value} (h:w.ownsRow base e sz v n xs) {p:Addr} (hp:some p.block≠v.ownBlock) (u:Value):(w.setCell p u).ownsRow base e sz v n xs:=by
 refine ⟨h.1,?_⟩
 rcases h.2 with hn|⟨g,cap,cur,rfl,hb',hgg,rest⟩
 ·exact .inl hn
 ·exact .inr ⟨g,cap,cur,rfl,hb',(Below.heap_setCell w p u g (fun e=>hp (by simp [Value.ownBlock,e]))).trans hgg,rest⟩
end
section
open Go.RowKit
attribute [local go_sem ↓] Go.wp_at_zero Go.wp_at_succ
structure EvV where
 p:Int
 inv:Bool
 n:Int
 deriving DecidableEq,Inhabited
def EvV.vals (o:EvV):List Value:=[.int .i64 o.p,.bool o.inv,.int .i64 o.n]
theorem EvV.wide:zl6 3 EvV.vals:=fun _=>rfl
theorem zna:zfs Try.prog 49 53 3 24:=⟨Try.underlying49,by
 obtain ⟨i,h0,h1,h2,h3⟩:=info_parts (P:=Try.prog) (e:=53) (z:=.agg #[.int .i64 0,.bool false,.int .i64 0]) (size:=3) (bytes:=24) zi
 exact ⟨i,_,h0,h1,h2,h3,rfl⟩,by omega⟩
section
variable {w:World} {B:Nat} {A:Option Addr}
theorem Sl.ev {l:List EvV} (h:Sl EvV.vals w B A l) {i:Nat} (hi:i<l.length):∃ b off,A=some ⟨b,off,none⟩∧b<B∧
  w.cell? ⟨b,off+i * 3,none⟩=some (.int .i64 (nth l i).p)∧w.cell? ⟨b,off+i * 3+1,none⟩=some (.bool (nth l i).inv)∧w.cell? ⟨b,off+i * 3+2,none⟩=some (.int .i64 (nth l i).n):=by
 obtain ⟨b,off,rfl,hb,hc⟩:=h.get EvV.wide hi
 rw [← nth_eq hi] at hc
 exact ⟨b,off,rfl,hb,hc 0 _ za rfl,hc 1 _ za rfl,hc 2 _ za rfl⟩
end
structure zgj where
 out:List EvV
 pend:List Int
 calls:Nat
def zfH:zgj:=⟨[],[0,0,0,0],0⟩
def Vj (most n:Int) (p:Nat) (s:zgj):zgj:=
 if nth s.pend p=0∧(s.calls:Int)<most then ⟨s.out++[⟨p,true,n / 4⟩],s.pend.set p 1,s.calls+1⟩
 else if nth s.pend p=1∧n / 4 % 11=10 then { s with pend:=s.pend.set p 2 }
 else if nth s.pend p=1 then { s with pend:=s.pend.set p 0,out:=s.out++[⟨p,false,n / 4⟩] }
 else s
def VK (l:List Int) (most:Int) (i:Nat) (s:zgj):zgj:=Vj most (Zt (nth l i) 1000000) (Zt (nth l i) 1000000 % 4).toNat s
def za7 (l:List Int) (most:Int) (k:Nat):zgj:=zaj (VK l most) zfH k
def xa (l:List Int) (most:Int):List EvV:=(za7 l most (min l.length 40)).out
structure znc (k:Nat) (s:zgj):Prop where
 lo:s.out.length≤k
 lp:s.pend.length=4
 lc:s.calls≤k
theorem zig (l:List Int) (most:Int) (k:Nat):znc k (za7 l most k):=by
 induction k with
 | zero => exact ⟨by simp [za7, zaj, zfH], rfl, by simp [za7, zaj, zfH]⟩
 | succ k ih=>
  have hs:za7 l most (k+1)=VK l most k (za7 l most k):=rfl
  rw [hs]
  generalize za7 l most k=s at ih
  obtain ⟨h1,h2,h3⟩:=ih
  unfold VK Vj
  split
  ·exact ⟨by simp;omega,by simp;omega,by simp;omega⟩
  ·split
   ·exact ⟨by simp;omega,by simp;omega,by simp;omega⟩
   ·split
    ·exact ⟨by simp;omega,by simp;omega,by simp;omega⟩
    ·exact ⟨by omega,h2,by omega⟩
theorem zbx {most n:Int} {p:Nat} {s:zgj} (h:nth s.pend p=0) (h2:(s.calls:Int)<most):Vj most n p s=⟨s.out++[⟨p,true,n / 4⟩],s.pend.set p 1,s.calls+1⟩:=by simp [Vj,h,h2]
theorem zbA {most n:Int} {p:Nat} {s:zgj} (h:nth s.pend p=1) (h2:n / 4 % 11=10):Vj most n p s={ s with pend:=s.pend.set p 2 }:=by simp [Vj,h,h2]
theorem zdt {most n:Int} {p:Nat} {s:zgj} (h:nth s.pend p=1) (h2:¬ n / 4 % 11=10):Vj most n p s={ s with pend:=s.pend.set p 0,out:=s.out++[⟨p,false,n / 4⟩] }:=by simp [Vj,h,h2]
theorem zby {most n:Int} {p:Nat} {s:zgj} (h:nth s.pend p=0) (h2:¬ (s.calls:Int)<most):Vj most n p s=s:=by simp [Vj,h,h2]
theorem zbz {most n:Int} {p:Nat} {s:zgj} (h:¬ nth s.pend p=0) (h2:¬ nth s.pend p=1):Vj most n p s=s:=by simp [Vj,h,h2]
theorem Wa {w:World} {base:Nat} {e:TypeId} {sz n c:Nat} {A:Option Addr} {xs:List Value} (h:w.ownsRow base e sz (.slice A n c) n xs) {p:Addr} (hp:p.block<base) (u:Value):(w.setCell p u).ownsRow base e sz (.slice A n c) n xs:=by
 refine zQ h ?_ u
 rcases h.2 with ⟨hv,_⟩|⟨g,cap,cur,hv,hb,_⟩
 ·rw [hv];simp [Value.ownBlock]
 ·rw [hv]
  simp [Value.ownBlock]
  omega
set_option maxRecDepth 100000 in
theorem zgA (A:Option Addr) (c:Nat) (l:List Int) (most:Int) (w:World) (h1:Sl Um w w.heap.size A l) (hl:∀ x∈l,I64 x) (hlen:l.length≤9223372036854775807) (hmost:I64 most) :
  Calls Try.prog 24 #[.slice A l.length c,.int .i64 most] w fun e w'=>∃ A1 c1,e=.returned (.slice A1 (xa l most).length c1)∧
   w'.ownsRow w.heap.size 53 3 (.slice A1 (xa l most).length c1) (xa l most).length (flat EvV.vals (xa l most))∧Below w.heap.size w w':=by
 have hmk:∀ w,(Instr.makeSlice 22 (.int .i64 4) (.int .i64 4)).run Try.prog w=.ok (.slice (some ⟨w.heap.size,0,none⟩) 4 4) (w.alloc (.cells #[.int .i64 0,.int .i64 0,.int .i64 0,.int .i64 0] 3)):=fun _=>by kernel_rfl
 go_enter Try.func24,Try.ntmps24
 go_wp2_with fail
 go_loopw [5,7,8] (fun v5 v7 i wr=>∃ (k:Nat) (A1:Option Addr) (c1:Nat),k≤l.length∧k≤40∧i=.int .i64 k∧v5=.slice A1 (za7 l most k).out.length c1∧v7=.int .i64 (za7 l most k).calls∧
   wr.ownsRow (w.heap.size+1) 53 3 (.slice A1 (za7 l most k).out.length c1) (za7 l most k).out.length (flat EvV.vals (za7 l most k).out)∧
   Blk wr w.heap.size 3 (flat Um (za7 l most k).pend)∧Below w.heap.size w wr∧w.heap.size+1≤wr.heap.size) (fun _ _ i _=>40 - (intOf i).toNat)
 case atStart=>
  exact ⟨0,none,0,by omega,by omega,rfl,rfl,rfl,World.ownsRow_nil _ _ _ _,Blk.new w 3 [.int .i64 0,.int .i64 0,.int .i64 0,.int .i64 0],(Below.refl _ _).alloc (Nat.le_refl _) _,by simp⟩
 case round=>
  obtain ⟨k,A1,c1,hk1,hk2,rfl,rfl,rfl,ho1,hbe,hb,hsz⟩:=hrel
  by_cases hlt:k<l.length∧k<40
  ·obtain ⟨hlt1,hlt2⟩:=hlt
   obtain ⟨s,hs⟩:∃ s,s=za7 l most k:=⟨_,rfl⟩
   have ok:=zig l most k
   have Hs:=Lib.hid (show za7 l most (k+1)=VK l most k (za7 l most k) from rfl)
   rw [← hs] at ho1 hbe ok Hs
   rw [← hs]
   have hI:=hl _ (zu hlt1)
   obtain ⟨n,hn⟩:∃ n,Zt (nth l k) 1000000=n:=⟨_,rfl⟩
   have hn0:0≤n:=hn▸Uz za
   have hn1:n<1000000:=hn▸Uy za
   obtain ⟨p,hp⟩:∃ p:Nat,n % 4=p:=⟨(n % 4).toNat,by omega⟩
   have hp2:p<4:=by omega
   have hp3:(0:Int)≤(p:Int):=by omega
   have hp4:(p:Int)<4:=by omega
   have hstep:VK l most k s=Vj most n p s:=by unfold VK;rw [hn,hp];rfl
   rw [hstep] at Hs
   clear hstep hs
   obtain ⟨b,o,rfl,hbl,q0⟩:=(h1.below hb).int hlt1
   have hlo:=ok.lo
   have hlc:=ok.lc
   have hp5:p<s.pend.length:=by have:=ok.lp;omega
   have x1:=hbe.int (i:=p) hp5
   have z1:=hbe.frozen p
   clear ok
   by_cases c1' : nth s.pend p=0
   ·rw [c1'] at x1
    by_cases c2:(s.calls:Int)<most
    ·have Hs2:=Lib.hid (Hs.out.trans (zbx c1' c2))
     clear c1' Hs
     have hbe2:=hbe.setInt p 1
     have ho2:=Wa ho1 (p:=⟨w.heap.size,p,none⟩) zd (.int .i64 1)
     have hb2:=hb.setCell (p:=⟨w.heap.size,p,none⟩) zd (.int .i64 1)
     have hsz2:(wr.setCell ⟨w.heap.size,p,none⟩ (.int .i64 1)).heap.size=wr.heap.size:=by simp
     go_wp2_with (first|(go_at_call 14;refine (Zr _ _ _ hI za za).mono ?_;rintro e w' ⟨rfl,rfl⟩;rw [hn])|(at_builtin;go_loud (refine ZK zna ho2 rfl (.tmp 44) (.tmp 49) rfl rfl (by rw [hsz2];rfl) rfl (by simp [Value.oneCell']) za za za ?_;intro A3 c3 w2 ho3 hb3 hg3 hl3)))
     go_roundw
     case rel=>
      refine ⟨k+1,A3,c3,by omega,by omega,by go_num,by rw [Hs2.out];simp,by rw [Hs2.out];simp,?_,?_,?_,?_⟩
      ·rw [Hs2.out,Zy,Wt];simpa [EvV.vals] using ho3
      ·rw [Hs2.out];exact hbe2.below hb3 zd
      ·exact hb2.trans (hb3.mono za)
      ·have:=hb3.size;omega
     case measure=>simp [intOf];omega
    ·have Hs2:=Lib.hid (Hs.out.trans (zby c1' c2))
     clear c1' Hs
     go_wp2_with (go_at_call 14;refine (Zr _ _ _ hI za za).mono ?_;rintro e w' ⟨rfl,rfl⟩;rw [hn])
     go_roundw
     case rel=>exact ⟨k+1,A1,c1,by omega,by omega,by go_num,by rw [Hs2.out],by rw [Hs2.out],by rw [Hs2.out];exact ho1,by rw [Hs2.out];exact hbe,hb,hsz⟩
     case measure=>simp [intOf];omega
   ·by_cases c3:nth s.pend p=1
    ·rw [c3] at x1
     by_cases c4:n / 4 % 11=10
     ·have Hs2:=Lib.hid (Hs.out.trans (zbA c3 c4))
      have c4' : (n / 4 % 11 == 10)=true:=by simpa using c4
      clear c1' c3 c4 Hs
      go_wp2_with (go_at_call 14;refine (Zr _ _ _ hI za za).mono ?_;rintro e w' ⟨rfl,rfl⟩;rw [hn])
      go_roundw
      case rel=>exact ⟨k+1,A1,c1,by omega,by omega,by go_num,by rw [Hs2.out],by rw [Hs2.out],by rw [Hs2.out];exact Wa ho1 zd _,by rw [Hs2.out];exact hbe.setInt p _,hb.setCell zd _,by simpa using hsz⟩
      case measure=>simp [intOf];omega
     ·have Hs2:=Lib.hid (Hs.out.trans (zdt c3 c4))
      have c4' : (n / 4 % 11 == 10)=false:=by simpa using c4
      clear c1' c3 c4 Hs
      have hbe2:=hbe.setInt p 0
      have ho2:=Wa ho1 (p:=⟨w.heap.size,p,none⟩) zd (.int .i64 0)
      have hb2:=hb.setCell (p:=⟨w.heap.size,p,none⟩) zd (.int .i64 0)
      have hsz2:(wr.setCell ⟨w.heap.size,p,none⟩ (.int .i64 0)).heap.size=wr.heap.size:=by simp
      go_wp2_with (first|(go_at_call 14;refine (Zr _ _ _ hI za za).mono ?_;rintro e w' ⟨rfl,rfl⟩;rw [hn])|(at_builtin;go_loud (refine ZK zna ho2 rfl (.tmp 73) (.tmp 78) rfl rfl (by rw [hsz2];rfl) rfl (by simp [Value.oneCell']) za za za ?_;intro A3 c3 w2 ho3 hb3 hg3 hl3)))
      go_roundw
      case rel=>
       refine ⟨k+1,A3,c3,by omega,by omega,by go_num,by rw [Hs2.out];simp,by rw [Hs2.out],?_,?_,?_,?_⟩
       ·rw [Hs2.out,Zy,Wt];simpa [EvV.vals] using ho3
       ·rw [Hs2.out];exact hbe2.below hb3 zd
       ·exact hb2.trans (hb3.mono za)
       ·have:=hb3.size;omega
      case measure=>simp [intOf];omega
    ·have Hs2:=Lib.hid (Hs.out.trans (zbz c1' c3))
     have c1'' : (nth s.pend p == 0)=false:=by simpa using c1'
     have c3' : (nth s.pend p == 1)=false:=by simpa using c3
     clear c1' c3 Hs
     go_wp2_with (go_at_call 14;refine (Zr _ _ _ hI za za).mono ?_;rintro e w' ⟨rfl,rfl⟩;rw [hn])
     go_roundw
     case rel=>exact ⟨k+1,A1,c1,by omega,by omega,by go_num,by rw [Hs2.out],by rw [Hs2.out],by rw [Hs2.out];exact ho1,by rw [Hs2.out];exact hbe,hb,hsz⟩
     case measure=>simp [intOf];omega
  ·have e:k=min l.length 40:=by omega
   by_cases hlt1:k<l.length
   ·have hk3:¬ k<40:=fun h=>hlt ⟨hlt1,h⟩
    go_wp2_with fail
    go_ret
    subst e
    exact ⟨A1,c1,rfl,WN ho1 za,hb⟩
   ·go_wp2_with fail
    go_ret
    subst e
    exact ⟨A1,c1,rfl,WN ho1 za,hb⟩
end
section
open Go.RowKit
attribute [local go_sem ↓] Go.wp_at_zero Go.wp_at_succ
end
section
open Go.RowKit
attribute [local go_sem ↓] Go.wp_at_zero Go.wp_at_succ
end
/-! ### the observations made from numbers are of sequential processes -/
/-! ### replies and invocations of observations made from numbers -/
/-! ### what an operation looks like -/
/-! ### how many are done -/
def pend (ev:List EvV):Nat→Int→Bool
 | 0, _ => false
 | k+1, p => if (nth ev k).p=p then (nth ev k).inv else pend ev k p
def WE (ev:List EvV):Nat→Nat
 | 0 => 0
 | k+1 => WE ev k+if (nth ev k).inv then 1 else 0
def YN (ev:List EvV):Prop:=∀ k,k<ev.length→(0≤(nth ev k).p∧(nth ev k).p<4)∧(0≤(nth ev k).n∧(nth ev k).n≤250000)∧(nth ev k).inv=!pend ev k (nth ev k).p
theorem Un (ev:List EvV) (a:EvV):∀ k p,k≤ev.length→pend (ev++[a]) k p=pend ev k p
 | 0, _, _ => rfl
 | k+1, p, h => by
  unfold pend
  rw [yq za,Un ev a k p za]
theorem zdP (ev:List EvV) (a:EvV):∀ k,k≤ev.length→WE (ev++[a]) k=WE ev k
 | 0, _ => rfl
 | k+1, h => by
  unfold WE
  rw [yq za,zdP ev a k za]
theorem zfZ (ev:List EvV) (a:EvV) (p:Int):pend (ev++[a]) (ev++[a]).length p=if a.p=p then a.inv else pend ev ev.length p:=by
 rw [List.length_append,List.length_singleton,pend,yJ,Un ev a _ _ (Nat.le_refl _)]
theorem zdQ (ev:List EvV) (a:EvV):WE (ev++[a]) (ev++[a]).length=WE ev ev.length+if a.inv then 1 else 0:=by
 rw [List.length_append,List.length_singleton,WE,yJ,zdP ev a _ (Nat.le_refl _)]
theorem YN.app {ev:List EvV} (h:YN ev) {a:EvV} (h1:0≤a.p∧a.p<4) (h2:0≤a.n∧a.n≤250000) (h3:a.inv=!pend ev ev.length a.p):YN (ev++[a]):=by
 intro k hk
 rw [List.length_append,List.length_singleton] at hk
 by_cases e:k<ev.length
 ·rw [yq e,Un ev a k _ za]
  exact h k e
 ·have:k=ev.length:=by omega
  subst this
  rw [yJ,Un ev a _ _ (Nat.le_refl _)]
  exact ⟨h1,h2,h3⟩
structure zmP (most:Int) (s:zgj):Prop where
 good:YN s.out
 lp:s.pend.length=4
 pe:∀ p:Nat,p<4→(nth s.pend p=0∧pend s.out s.out.length p=false∨(nth s.pend p=1∨nth s.pend p=2)∧pend s.out s.out.length p=true)
 cnt:WE s.out s.out.length=s.calls
 le:s.calls=0∨(s.calls:Int)≤most
theorem zct (l:List Int) (most:Int) (k:Nat):zmP most (za7 l most k):=by
 induction k with
 | zero =>
  refine ⟨fun k hk=>by simp [za7,zaj,zfH] at hk,rfl,fun p hp=>.inl ⟨?_,rfl⟩,rfl,.inl rfl⟩
  match p,hp with
  | 0, _ => rfl
  | 1, _ => rfl
  | 2, _ => rfl
  | 3, _ => rfl
 | succ k ih=>
  have hs:za7 l most (k+1)=VK l most k (za7 l most k):=rfl
  rw [hs]
  generalize za7 l most k=s at ih
  unfold VK
  have hn0:=Uz (n:=nth l k) (most:=1000000) za
  have hn1:=Uy (n:=nth l k) (most:=1000000) za
  generalize Zt (nth l k) 1000000=n at hn0 hn1
  obtain ⟨p,hp⟩:∃ p:Nat,(n % 4).toNat=p:=⟨_,rfl⟩
  rw [hp]
  have hp4:p<4:=by omega
  obtain ⟨h1,h2,h3,h4,h5⟩:=ih
  have hq:∀ (x:Int) (q:Nat),q<4→nth (s.pend.set p x) q=if q=p then x else nth s.pend q:=by
   intro x q hq4
   by_cases e:q=p
   ·subst e;rw [if_pos rfl,zF za]
   ·rw [if_neg e,zJ (fun h=>e h.symm)]
  by_cases c1:nth s.pend p=0
  ·have hpe:pend s.out s.out.length p=false:=by rcases h3 p hp4 with ⟨_,h⟩|⟨h,_⟩;exact h;omega
   by_cases c2:(s.calls:Int)<most
   ·rw [zbx c1 c2]
    refine ⟨h1.app ⟨by dsimp only;omega,by dsimp only;omega⟩ ⟨by dsimp only;omega,by dsimp only;omega⟩ (by dsimp only;rw [hpe];rfl),by simpa using h2,fun q hq4=>?_,?_,.inr (by dsimp only;omega)⟩
    ·dsimp only
     rw [hq _ _ hq4,zfZ]
     by_cases e:q=p
     ·subst e;right;simp
     ·have e2:¬ ((p:Int)=(q:Int)):=by omega
      simp only [if_neg e,if_neg e2];exact h3 q hq4
    ·dsimp only;rw [zdQ,h4];rfl
   ·rw [zby c1 c2];exact ⟨h1,h2,h3,h4,h5⟩
  ·by_cases c3:nth s.pend p=1
   ·have hpe:pend s.out s.out.length p=true:=by rcases h3 p hp4 with ⟨h,_⟩|⟨_,h⟩;omega;exact h
    by_cases c4:n / 4 % 11=10
    ·rw [zbA c3 c4]
     refine ⟨h1,by simpa using h2,fun q hq4=>?_,h4,h5⟩
     dsimp only
     rw [hq _ _ hq4]
     by_cases e:q=p
     ·subst e;right;simp [hpe]
     ·simp only [if_neg e];exact h3 q hq4
    ·rw [zdt c3 c4]
     refine ⟨h1.app ⟨by dsimp only;omega,by dsimp only;omega⟩ ⟨by dsimp only;omega,by dsimp only;omega⟩ (by dsimp only;rw [hpe];rfl),by simpa using h2,fun q hq4=>?_,?_,h5⟩
     ·dsimp only
      rw [hq _ _ hq4,zfZ]
      by_cases e:q=p
      ·subst e;left;simp
      ·have e2:¬ ((p:Int)=(q:Int)):=by omega
       simp only [if_neg e,if_neg e2];exact h3 q hq4
     ·dsimp only;rw [zdQ,h4];rfl
   ·rw [zbz c1 c3];exact ⟨h1,h2,h3,h4,h5⟩
theorem XU (l:List Int) (most:Int):YN (xa l most):=(zct l most _).good
theorem Vk (l:List Int) (most:Int):(xa l most).length≤40:=by have:=(zig l most (min l.length 40)).lo;unfold xa;omega
theorem zeW (l:List Int) {most:Int} (h:0≤most):(WE (xa l most) (xa l most).length:Int)≤most:=by
 have h1:=(zct l most (min l.length 40)).cnt
 have h2:=(zct l most (min l.length 40)).le
 unfold xa
 omega
structure XH (ev:List EvV) (k:Nat) (out:List OpV) (opn:List Int):Prop where
 lop:opn.length=4
 len:out.length=WE ev k
 call:∀ j,j<out.length→∃ c:Nat,(nth out j).call=c∧c<k∧(nth ev c).inv=true∧(nth out j).p=(nth ev c).p
 mono:∀ i j,i<j→j<out.length→(nth out i).call<(nth out j).call
 ret:∀ j,j<out.length→(nth out j).done=true→∃ r:Nat,(nth out j).ret=r∧r<k∧(nth ev r).inv=false∧(nth out j).call<r
 stay:∀ j,j<out.length→(nth out j).done=false→(nth out j).ret=ev.length∧(nth out j).res=0∧pend ev k (nth out j).p=true
 one:∀ i j,i<j→j<out.length→(nth out i).done=true→(nth out j).done=true→(nth out i).ret≠(nth out j).ret
 seq:∀ i j,i<j→j<out.length→(nth out i).p=(nth out j).p→(nth out i).done=true∧(nth out i).ret<(nth out j).call
 opn:∀ p:Nat,p<4→pend ev k p=true→∃ j:Nat,nth opn p=j∧j<out.length∧(nth out j).p=p∧(nth out j).done=false
theorem XH.zero (ev:List EvV):XH ev 0 [] [0,0,0,0]:=
 ⟨rfl,rfl,fun _ h=>by simp at h,fun _ _ _ h=>by simp at h,fun _ h=>by simp at h,fun _ h=>by simp at h,fun _ _ _ h=>by simp at h,fun _ _ _ h=>by simp at h,fun _ _ h=>by simp [pend] at h⟩
theorem XH.add {ev:List EvV} {k:Nat} {out:List OpV} {opn:List Int} (h:XH ev k out opn) (hg:YN ev) (hk:k<ev.length) (hi:(nth ev k).inv=true) {o:OpV} (h1:o.p=(nth ev k).p) (h2:o.call=k) (h3:o.ret=ev.length) (h4:o.done=false) (h5:o.res=0) {p:Nat} (hp:(nth ev k).p=p) :
  XH ev (k+1) (out++[o]) (opn.set p out.length):=by
 obtain ⟨⟨g1,g2⟩,_,g3⟩:=hg k hk
 have hpend:pend ev k (nth ev k).p=false:=by rw [hi] at g3;simpa using g3
 have hp4:p<4:=by omega
 have old:∀ i,i<out.length→nth (out++[o]) i=nth out i:=fun i hi=>yq hi
 have new:nth (out++[o]) out.length=o:=yJ
 have hlen:(out++[o]).length=out.length+1:=by simp
 have free:∀ j,j<out.length→(nth out j).p=(nth ev k).p→(nth out j).done=true:=by
  intro j hj he
  cases hd:(nth out j).done with
  | true => rfl
  | false => have := (h.stay j hj hd).2.2; rw [he, hpend] at this; cases this
 refine ⟨by simpa using h.lop,?_,fun j hj=>?_,fun i j hij hj=>?_,fun j hj hd=>?_,fun j hj hd=>?_,fun i j hij hj hdi hdj=>?_,fun i j hij hj he=>?_,fun q hq hpq=>?_⟩
 ·rw [hlen,h.len,WE,hi];rfl
 ·by_cases e:j<out.length
  ·rw [old j e];obtain ⟨c,a1,a2,a3,a4⟩:=h.call j e;exact ⟨c,a1,by omega,a3,a4⟩
  ·obtain rfl:j=out.length:=by omega
   rw [new];exact ⟨k,h2,by omega,hi,h1⟩
 ·rw [old i za]
  by_cases e:j<out.length
  ·rw [old j e];exact h.mono i j hij e
  ·obtain rfl:j=out.length:=by omega
   rw [new,h2];obtain ⟨c,a1,a2,_⟩:=h.call i hij;omega
 ·by_cases e:j<out.length
  ·rw [old j e] at hd ⊢;obtain ⟨r,a1,a2,a3,a4⟩:=h.ret j e hd;exact ⟨r,a1,by omega,a3,a4⟩
  ·obtain rfl:j=out.length:=by omega
   rw [new,h4] at hd;cases hd
 ·by_cases e:j<out.length
  ·rw [old j e] at hd ⊢
   obtain ⟨a1,a2,a3⟩:=h.stay j e hd
   refine ⟨a1,a2,?_⟩
   rw [pend]
   split
   ·exact hi
   ·exact a3
  ·obtain rfl:j=out.length:=by omega
   rw [new];exact ⟨h3,h5,by rw [pend,h1,if_pos rfl,hi]⟩
 ·rw [old i za] at hdi ⊢
  by_cases e:j<out.length
  ·rw [old j e] at hdj ⊢;exact h.one i j hij e hdi hdj
  ·obtain rfl:j=out.length:=by omega
   rw [new,h4] at hdj;cases hdj
 ·rw [old i za] at he ⊢
  by_cases e:j<out.length
  ·rw [old j e] at he ⊢;exact h.seq i j hij e he
  ·obtain rfl:j=out.length:=by omega
   rw [new] at he ⊢
   have hd:=free i hij (he.trans h1)
   obtain ⟨r,a1,a2,_⟩:=h.ret i hij hd
   exact ⟨hd,by omega⟩
 ·rw [pend] at hpq
  by_cases e:q=p
  ·subst e
   exact ⟨out.length,zF (by rw [h.lop];exact hq),by omega,by rw [new,h1,hp],by rw [new,h4]⟩
  ·rw [if_neg za] at hpq
   obtain ⟨j,a1,a2,a3,a4⟩:=h.opn q hq hpq
   exact ⟨j,by rw [zJ (fun e2=>e e2.symm)];exact a1,by omega,by rw [old j a2];exact a3,by rw [old j a2];exact a4⟩
theorem XH.at_ {ev:List EvV} {k:Nat} {out:List OpV} {opn:List Int} (h:XH ev k out opn) (hg:YN ev) (hk:k<ev.length) (hi:(nth ev k).inv=false) {p:Nat} (hp:(nth ev k).p=p) :
  ∃ j:Nat,nth opn p=j∧j<out.length∧(nth out j).p=p∧(nth out j).done=false:=by
 obtain ⟨⟨g1,g2⟩,_,g3⟩:=hg k hk
 refine h.opn p za ?_
 rw [hi,hp] at g3
 simpa using g3
theorem XH.put {ev:List EvV} {k:Nat} {out:List OpV} {opn:List Int} (h:XH ev k out opn) (hk:k<ev.length) (hi:(nth ev k).inv=false) {j:Nat} (hj:j<out.length) (hjp:(nth out j).p=(nth ev k).p) (hjd:(nth out j).done=false)
  {o:OpV} (h1:o.p=(nth out j).p) (h2:o.call=(nth out j).call) (h3:o.ret=k) (h4:o.done=true):XH ev (k+1) (out.set j o) opn:=by
 have other:∀ i,i≠j→nth (out.set j o) i=nth out i:=fun i hi=>zJ (fun e=>hi e.symm)
 have here:nth (out.set j o) j=o:=zF hj
 have hlen:(out.set j o).length=out.length:=by simp
 have pc:∀ i,(nth (out.set j o) i).p=(nth out i).p∧(nth (out.set j o) i).call=(nth out i).call:=by
  intro i
  by_cases e:i=j
  ·subst e;rw [here];exact ⟨h1,h2⟩
  ·rw [other i e];exact ⟨rfl,rfl⟩
 have uniq:∀ i,i<out.length→i≠j→(nth out i).p=(nth out j).p→(nth out i).done=true:=by
  intro i hi he hpe
  rcases Nat.lt_or_ge i j with e|e
  ·exact (h.seq i j e hj hpe).1
  ·have:=(h.seq j i za hi hpe.symm).1
   rw [hjd] at this;cases this
 have retlt:∀ i,i<out.length→(nth out i).done=true→(nth out i).ret<k:=by
  intro i hi hd;obtain ⟨r,a1,a2,_⟩:=h.ret i hi hd;omega
 refine ⟨h.lop,?_,fun i hi2=>?_,fun a b hab hb=>?_,fun i hi2 hd=>?_,fun i hi2 hd=>?_,fun a b hab hb hda hdb=>?_,fun a b hab hb he=>?_,fun q hq hpq=>?_⟩
 ·rw [hlen,h.len,WE,hi];rfl
 ·rw [hlen] at hi2
  obtain ⟨c,a1,a2,a3,a4⟩:=h.call i hi2
  exact ⟨c,by rw [(pc i).2];exact a1,by omega,a3,by rw [(pc i).1];exact a4⟩
 ·rw [hlen] at hb;rw [(pc a).2,(pc b).2];exact h.mono a b hab hb
 ·rw [hlen] at hi2
  by_cases e:i=j
  ·subst e
   rw [here]
   obtain ⟨c,a1,a2,_⟩:=h.call i hi2
   exact ⟨k,h3,by omega,hi,by omega⟩
  ·rw [other i e] at hd ⊢;obtain ⟨r,a1,a2,a3,a4⟩:=h.ret i hi2 hd;exact ⟨r,a1,by omega,a3,a4⟩
 ·rw [hlen] at hi2
  by_cases e:i=j
  ·subst e;rw [here,h4] at hd;cases hd
  ·rw [other i e] at hd ⊢
   obtain ⟨a1,a2,a3⟩:=h.stay i hi2 hd
   refine ⟨a1,a2,?_⟩
   rw [pend,if_neg]
   ·exact a3
   ·intro e2
    have:=uniq i hi2 e (e2.symm.trans hjp.symm)
    rw [hd] at this;cases this
 ·rw [hlen] at hb
  by_cases ea:a=j
  ·subst ea
   rw [other b za] at hdb ⊢
   rw [here,h3]
   have:=retlt b hb hdb;omega
  ·rw [other a ea] at hda ⊢
   by_cases eb:b=j
   ·subst eb
    rw [here,h3]
    have:=retlt a za hda;omega
   ·rw [other b eb] at hdb ⊢;exact h.one a b hab hb hda hdb
 ·rw [hlen] at hb
  rw [(pc a).1,(pc b).1] at he
  rw [(pc b).2]
  obtain ⟨s1,s2⟩:=h.seq a b hab hb he
  by_cases ea:a=j
  ·subst ea;rw [hjd] at s1;cases s1
  ·rw [other a ea];exact ⟨s1,s2⟩
 ·rw [pend] at hpq
  split at hpq
  ·rw [hi] at hpq;cases hpq
  ·rename_i hne
   obtain ⟨i,a1,a2,a3,a4⟩:=h.opn q hq hpq
   have hij:i≠j:=by
    intro e;subst e
    exact hne (by rw [← hjp,a3])
   exact ⟨i,a1,by rw [hlen];exact a2,by rw [other i hij];exact a3,by rw [other i hij];exact a4⟩
theorem XH.history {ev:List EvV} {k:Nat} {out:List OpV} {opn:List Int} (h:XH ev k out opn) (hg:YN ev) (hk:k≤ev.length) (hlen:out.length≤300) (hkind:∀ o∈out,0≤o.k∧o.k≤4):xz out=0:=by
 rw [xz,if_neg za]
 refine YU _ _ fun j _ hj=>?_
 have hj:j<out.length:=by omega
 obtain ⟨c,c1,c2,c3,c4⟩:=h.call j hj
 have hkj:=hkind _ (zu hj)
 have hgc:=(hg c za).1
 have hwf:wfB (nth out j)=true:=by
  simp only [wfB,Bool.and_eq_true,decide_eq_true_eq,Bool.or_eq_true]
  cases hd:(nth out j).done with
  | true =>
   obtain ⟨r,a1,a2,a3,a4⟩:=h.ret j hj hd
   exact ⟨⟨⟨⟨⟨by omega,by omega⟩,by omega⟩,by omega⟩,by omega⟩,.inl rfl⟩
  | false =>
   obtain ⟨a1,a2,a3⟩:=h.stay j hj hd
   exact ⟨⟨⟨⟨⟨by omega,by omega⟩,by omega⟩,by omega⟩,by omega⟩,.inr a2⟩
 unfold zeB
 rw [if_neg (by rw [hwf];simp),if_neg,if_neg,if_neg]
 ·rintro ⟨hsome,hbad⟩
  obtain ⟨o,ho⟩:=Option.isSome_iff_exists.1 hsome
  rw [ho] at hbad
  simp only [Option.getD_some] at hbad
  obtain ⟨m,hm,hmo,hmp⟩:=zae ho
  subst hmo
  obtain ⟨s1,s2⟩:=h.seq m j hm hj hmp
  rcases hbad with e|e
  ·rw [s1] at e;cases e
  ·omega
 ·intro hdup
  simp only [Bool.or_eq_true,Bool.and_eq_true] at hdup
  rcases hdup with e|⟨hd,e|e⟩
  ·obtain ⟨m,h1,h2,h3⟩:=zce e
   simp only [Bool.and_eq_true,beq_iff_eq] at h3
   obtain ⟨r,a1,a2,a3,a4⟩:=h.ret m h2 h3.1
   have:r=c:=by omega
   subst this
   rw [a3] at c3;cases c3
  ·obtain ⟨m,h1,h2,h3⟩:=zce e
   simp only [Bool.and_eq_true,beq_iff_eq] at h3
   exact h.one m j h1 hj h3.1 hd h3.2
  ·obtain ⟨m,h1,h2,h3⟩:=zce e
   simp only [beq_iff_eq] at h3
   obtain ⟨r,a1,a2,a3,a4⟩:=h.ret j hj hd
   obtain ⟨c',b1,b2,b3,b4⟩:=h.call m h2
   have:r=c':=by omega
   subst this
   rw [a3] at b3;cases b3
 ·rintro ⟨h0,hle⟩
  have:=h.mono (j - 1) j za hj
  omega
section
open Go.RowKit
end
section
open Go.RowKit
attribute [local go_sem ↓] Go.wp_at_zero Go.wp_at_succ
def zbi (l:List Int) (most:Int):Int:=if l.length=0 then 0 else Zt (nth l 0) most
theorem zkF (l:List Int) {most:Int} (h:0<most):0≤zbi l most∧zbi l most<most:=by
 unfold zbi
 split
 ·omega
 ·exact ⟨Uz h,Uy h⟩
set_option maxRecDepth 100000 in
theorem ziX (A:Option Addr) (c:Nat) (l:List Int) (most:Int) (w:World) (h1:Sl Um w w.heap.size A l) (hl:∀ x∈l,I64 x) (hlen:l.length≤9223372036854775807) (h2:1≤most) (h3:most≤4611686018427387904) :
  Calls Try.prog 25 #[.slice A l.length c,.int .i64 0,.int .i64 most] w fun e w'=>e=.returned (.int .i64 (zbi l most))∧w=w':=by
 by_cases h:0<l.length
 ·obtain ⟨b,o,rfl,hbl,q0⟩:=h1.int h
  simp only [Nat.add_zero] at q0
  have hI:=hl _ (zu h)
  have e:zbi l most=Zt (nth l 0) most:=by rw [zbi,if_neg za]
  rw [e]
  have hlt:(0:Int)<(l.length:Int):=by omega
  have hne:decide (l=[])=false:=by cases l with|nil=>simp at h|cons a t=>simp
  go_enter Try.func25,Try.ntmps25
  go_wp2_with (go_at_call 14;refine (Zr _ _ _ hI za za).mono ?_;rintro e w' ⟨rfl,rfl⟩)
  go_ret
  exact ⟨rfl,rfl⟩
 ·have e:zbi l most=0:=by rw [zbi,if_pos za]
  rw [e]
  obtain rfl:l=[]:=by cases l with|nil=>rfl|cons a t=>simp at h
  go_enter Try.func25,Try.ntmps25
  go_wp2_with fail
  go_ret
  exact ⟨rfl,rfl⟩
/-! ### chosen -/
def xN (ws:List Int) (key:Int):Nat→List Int
 | 0 => [0]
 | k+1 => if nth ws k=key then xN ws key k ++ [(k:Int)+1] else xN ws key k
theorem zap (ws:List Int) (key:Int):∀ k,0<(xN ws key k).length∧(xN ws key k).length≤k+1
 | 0 => by simp [xN]
 | k+1 => by
  have:=zap ws key k
  unfold xN
  split
  ·simp;omega
  ·omega
theorem zcL (ws:List Int) (key:Int):∀ k,∀ x∈xN ws key k,0≤x∧x≤k
 | 0, x, h => by simp [xN] at h; omega
 | k+1,x,h=>by
  unfold xN at h
  split at h
  ·rcases List.mem_append.1 h with h|h
   ·have:=zcL ws key k x h;omega
   ·simp at h;omega
  ·have:=zcL ws key k x h;omega
def xr (ws:List Int) (key n latest:Int) (fresh:Bool):Int:=
 if fresh=true∧0<n % 7 then latest
 else if n % 13=12 then 1+n / 13 % 12
 else nth (xN ws key ws.length) (n / 2 % (xN ws key ws.length).length).toNat
theorem zgs (ws:List Int) (key n latest:Int) (fresh:Bool) (h:0≤latest):0≤xr ws key n latest fresh∧(xr ws key n latest fresh≤latest∨xr ws key n latest fresh≤12∨xr ws key n latest fresh≤ws.length):=by
 unfold xr
 split
 ·omega
 ·split
  ·omega
  ·have h1:=zap ws key ws.length
   have h2:(n / 2 % ((xN ws key ws.length).length:Int)).toNat<(xN ws key ws.length).length:=by
    have:=Int.emod_lt_of_pos (n / 2) (show (0:Int)<((xN ws key ws.length).length:Int) by omega)
    have:=Int.emod_nonneg (n / 2) (show ((xN ws key ws.length).length:Int)≠0 by omega)
    omega
   have:=zcL ws key ws.length _ (zu h2)
   omega
set_option maxRecDepth 100000 in
theorem zgt (A:Option Addr) (c:Nat) (ws:List Int) (key n latest:Int) (fresh:Bool) (w:World) (h1:Sl Um w w.heap.size A ws) (hlen:ws.length≤1000000) (hn0:0≤n) (hn1:n≤1000000) :
  Calls Try.prog 26 #[.slice A ws.length c,.int .i64 key,.int .i64 n,.int .i64 latest,.bool fresh] w fun e w'=>e=.returned (.int .i64 (xr ws key n latest fresh))∧Below w.heap.size w w':=by
 by_cases hf:fresh=true∧0<n % 7
 ·have e:xr ws key n latest fresh=latest:=by rw [xr,if_pos hf]
  rw [e]
  obtain ⟨rfl,hf2⟩:=hf
  go_enter Try.func26,Try.ntmps26
  go_wp2_with fail
  go_ret
  exact ⟨rfl,Below.refl _ _⟩
 ·obtain ⟨V,hV⟩:∃ V,xr ws key n latest fresh=V:=⟨_,rfl⟩
  have hV2:=hV
  rw [xr,if_neg hf] at hV2
  rw [hV]
  clear hV
  go_enter Try.func26,Try.ntmps26
  go_upto_region 1 with fail
  go_cut [18] (fun s wx=>s=.bool false∧w=wx)
  case first=>
   cases fresh with
   | false =>
    go_wp2_with fail
    go_meet
    case rel=>exact ⟨rfl,rfl⟩
   | true =>
    have hf2:¬ 0<n % 7:=fun h=>hf ⟨rfl,h⟩
    go_wp2_with fail
    go_meet
    case rel=>exact ⟨by simp,rfl⟩
  case rest=>
   obtain ⟨rfl,rfl⟩:=hcut
   clear hf
   by_cases hc:n % 13=12
   ·rw [if_pos hc] at hV2
    have hc' : (n % 13 == 12)=true:=by simpa using hc
    clear hc
    subst hV2
    go_wp2_with fail
    go_ret
    exact ⟨rfl,Below.refl _ _⟩
   ·rw [if_neg hc] at hV2
    have hc' : (n % 13 == 12)=false:=by simpa using hc
    clear hc
    have HV:=Lib.hid hV2
    clear hV2
    go_wp2_with fail
    go_loopw [11,12] (fun v i wr=>∃ (k:Nat) (A1:Option Addr) (c1:Nat),k≤ws.length∧i=.int .i64 k∧v=.slice A1 (xN ws key k).length c1∧
     wr.ownsRow w.heap.size 3 1 (.slice A1 (xN ws key k).length c1) (xN ws key k).length (flat Um (xN ws key k))∧Below w.heap.size w wr) (fun _ i _=>ws.length - (intOf i).toNat)
    case atStart=>
     refine ⟨0,some ⟨w.heap.size,0,none⟩,1,by omega,rfl,rfl,?_,(Below.refl _ _).alloc (Nat.le_refl _) _⟩
     refine ⟨by rfl,.inr ⟨w.heap.size,1,#[.int .i64 0],rfl,Nat.le_refl _,heap_alloc_new w _,?_⟩⟩
     simp [xN,flat,Um,maxLen]
    case round=>
     obtain ⟨k,A1,c1,hk,rfl,rfl,ho,hb⟩:=hrel
     have hsz:=hb.size
     obtain ⟨hl1,hl2⟩:=zap ws key k
     by_cases hlt:k<ws.length
     ·obtain ⟨b,o,rfl,hbl,q0⟩:=(h1.below hb).int hlt
      cases hc:(nth ws k == key) with
      | true=>
       have Hs:=Lib.hid (show xN ws key (k+1)=xN ws key k++[(k:Int)+1] by rw [xN,if_pos (by simpa using hc)])
       go_wp2_with (at_builtin;go_loud (refine ZK zmE ho rfl (.tmp 40) (.tmp 43) rfl rfl rfl rfl (by simp [Value.oneCell']) za za za ?_;intro A3 c3 w2 ho3 hb3 hg3 hl3))
       go_roundw
       case rel=>
        refine ⟨k+1,A3,c3,by omega,by go_num,by rw [Hs.out];simp,?_,hb.trans hb3⟩
        rw [Hs.out,Zy,Wt];simpa [Um] using ho3
       case measure=>simp [intOf];omega
      | false =>
       have Hs:=Lib.hid (show xN ws key (k+1)=xN ws key k by rw [xN,if_neg (by simpa using hc)])
       go_wp2_with fail
       go_roundw
       case rel=>exact ⟨k+1,A1,c1,by omega,by go_num,by rw [Hs.out],by rw [Hs.out];exact ho,hb⟩
       case measure=>simp [intOf];omega
     ·obtain rfl:k=ws.length:=by omega
      obtain ⟨m,hm⟩:∃ m:Nat,m=(xN ws key ws.length).length:=⟨_,rfl⟩
      obtain ⟨q,hq⟩:∃ q:Nat,n / 2 % (m:Int)=q:=⟨(n / 2 % (m:Int)).toNat,by have:=Int.emod_nonneg (n / 2) (show (m:Int)≠0 by omega);omega⟩
      have hqm:q<m:=by have:=Int.emod_lt_of_pos (n / 2) (show (0:Int)<(m:Int) by omega);omega
      obtain ⟨b2,o2,rfl,hbl2,q2⟩:=(Sl.of_own ho rfl).int (i:=q) za
      have hq2:=HV.out
      rw [← hm,hq] at hq2
      simp only [Int.toNat_natCast] at hq2
      rw [hq2] at q2
      rw [← hm] at hl1 hl2 ⊢
      have Hq:=Lib.hid hq
      have hm0:(0:Int)<(m:Int):=by omega
      have hm1:(m:Int)≤1000001:=by omega
      have hq0:(0:Int)≤(q:Int):=by omega
      have hqm' : (q:Int)<(m:Int):=by omega
      clear hm hq2 ho
      go_wp2_with fail
      go_ret
      exact ⟨rfl,hb⟩
/-! ### popped -/
def ziY (pushed taken:List Int) (key:Int) (k:Nat):Nat→Int
 | 0 => 0
 | m+1 => if nth pushed k=key ∧ ¬ ((k:Int)+1) ∈ taken then (k:Int)+1 else ziY pushed taken key (k+1) m
def ziZ (pushed taken:List Int) (key n:Int):Int:=
 if n % 9=8 then n / 9 % 9 else if 0<n % 5 then ziY pushed taken key 0 pushed.length else 0
end
section
open Go.RowKit
end
end Go.Proofs.Ytmnmakhpjgjdaaa
