/-
  Lemmas, in parts.
-/
import Derived.Test.YtphidhljdcledaaGreatZFmDel
import Derived.Deep.RegionHeld3
import Derived.Deep.DrawnRows
import Derived.Deep.DeepCutAuto
import Derived.Test.YtphidhljdcledaaGreatZD
import Derived.Test.YtphidhljdcledaaGreatZL
import Derived.Test.YtphidhljdcledaaGreatZM
import Derived.Test.YtphidhljdcledaaGreatZFmLinear
namespace Go.Proofs.YtphidhljdcledaaGreat
set_option linter.unusedVariables false
set_option maxHeartbeats 16000000
variable {α:Type} {c3 g i j:Nat} {A3:Option Addr} {o:List Int} {ev:List cY} {az:Int} {l l' : List aq}
section
open Go.RowKit
attribute [local go_sem ↓] Go.wp_at_zero Go.wp_at_succ
structure XY where
 out:List aq
 ws:List Int
 opn:List Int
 cK:List Int
 deriving Inhabited
def Ip:XY:=⟨[],[],[0,0,0,0],[0,0,0]⟩
def Ik (ev:List cY) (i:Nat) (e:cY) (s:XY):XY:=
 if e.n % 2=1 then ⟨s.out++[⟨e.p,1,1+e.n / 2 % 2,(s.ws.length:Int)+1,0,i,ev.length,false⟩],s.ws++[1+e.n / 2 % 2],s.opn.set e.p.toNat s.out.length,s.cK.set (1+e.n / 2 % 2).toNat ((s.ws.length:Int)+1)⟩
 else ⟨s.out++[⟨e.p,0,1+e.n / 2 % 2,0,0,i,ev.length,false⟩],s.ws,s.opn.set e.p.toNat s.out.length,s.cK⟩
def L5 (fresh:Bool) (i:Nat) (e:cY) (s:XY):XY:=
 { s with out:=s.out.set (nth s.opn e.p.toNat).toNat { nth s.out (nth s.opn e.p.toNat).toNat with done:=true,ret:=i,res:=if (nth s.out (nth s.opn e.p.toNat).toNat).k=0 then Xj s.ws (nth s.out (nth s.opn e.p.toNat).toNat).key e.n (nth s.cK (nth s.out (nth s.opn e.p.toNat).toNat).key.toNat) fresh else (nth s.out (nth s.opn e.p.toNat).toNat).res } }
def wZ (ev:List cY) (fresh:Bool) (i:Nat) (s:XY):XY:=
 if (nth ev i).inv then Ik ev i (nth ev i) s else L5 fresh i (nth ev i) s
def XP (ev:List cY) (fresh:Bool) (k:Nat):XY:=sH (wZ ev fresh) Ip k
def uZ (l:List Int):Bool:=decide (tR l 100 % 2=1)
def zV (l:List Int) (az:Int):List aq:=(XP (Yy l az) (uZ l) (Yy l az).length).out
def j9 (o:aq):Prop:=(0≤o.k∧o.k≤4)∧(1≤o.key∧o.key≤2)∧(0≤o.arg∧o.arg≤40)∧(0≤o.res∧o.res≤40)
structure zwU (ev:List cY) (k:Nat) (s:XY):Prop where
 ok:nk ev k s.out s.opn
 sm:∀ o∈s.out,j9 o
 cK:s.cK.length=3
 r9:∀ x∈s.cK,0≤x∧x≤40
 ws:s.ws.length≤k
 J7:∀ x∈s.ws,1≤x∧x≤2
theorem PL {l:List α} {v x:α} (h:x∈l.set i v):x∈l∨x=v:=ZE h
theorem KX {ev:List cY} (fresh:Bool) (hg:sA ev) (hl:ev.length≤40):∀ k,k≤ev.length→zwU ev k (XP ev fresh k)
 | 0, _ => ⟨nk.zero ev, fun _ h => by simp [XP, sH, Ip] at h, rfl, fun x h => by simp [XP, sH, Ip] at h; omega, zp _, fun _ h => by simp [XP, sH, Ip] at h⟩
 | k + 1,hk=>by
  have ih:=KX fresh hg hl k za;have hs:XP ev fresh (k+1)=wZ ev fresh k (XP ev fresh k):=rfl;rw [hs];generalize XP ev fresh k=s at ih;obtain ⟨g1,g2,g3⟩:=hg k za;obtain ⟨ok,sm,cK,r9,ws,J7⟩:=ih;obtain ⟨p,hp⟩:∃ p:Nat,(nth ev k).p=p:=⟨(nth ev k).p.toNat,by omega⟩
  unfold wZ;cases hi:(nth ev k).inv with
  | true=>
   simp only [if_true];unfold Ik;have Gq:(nth ev k).p.toNat=p:=by omega
   rw [Gq];split
   ·refine ⟨ok.add hg za hi rfl rfl rfl rfl rfl hp,fun o ho=>?_,by simpa using cK,fun x hx=>?_,by simp;omega,fun x hx=>?_⟩
    ·rcases zC.1 ho with h|h
     ·exact sm o h
     ·simp only [zq] at h;subst h;unfold j9;dsimp only;omega
    ·rcases PL hx with h|h
     ·have:=r9 x h;omega
     ·omega
    ·rcases zC.1 hx with h|h
     ·exact J7 x h
     ·simp only [zq] at h;omega
   ·refine ⟨ok.add hg za hi rfl rfl rfl rfl rfl hp,fun o ho=>?_,cK,fun x hx=>?_,by dsimp only;omega,J7⟩
    ·rcases zC.1 ho with h|h
     ·exact sm o h
     ·simp only [zq] at h;subst h;unfold j9;dsimp only;omega
    ·have:=r9 x hx;omega
  | false=>
   simp only [Lt,if_false];unfold L5;have Gq:(nth ev k).p.toNat=p:=by omega
   rw [Gq];obtain ⟨j,j1,j2,j3,j4⟩:=ok.at_ hg za hi hp;have gj:(nth s.opn p).toNat=j:=by omega
   rw [gj];refine ⟨ok.put za hi j2 za j4 rfl rfl rfl rfl,fun o ho=>?_,cK,fun x hx=>by have:=r9 x hx;omega,by dsimp only;omega,J7⟩;rcases PL ho with h|h
   ·exact sm o h
   ·subst h;have hj:=sm _ (zu j2);unfold j9 at hj ⊢;dsimp only;refine ⟨hj.1,hj.2.1,hj.2.2.1,?_⟩;split
    ·have F1:=r9 _ (zu (l:=s.cK) (i:=(nth s.out j).key.toNat) za);have:=zpm s.ws (nth s.out j).key (nth ev k).n (nth s.cK (nth s.out j).key.toNat) fresh za;omega
    ·exact hj.2.2.2
theorem zsL {w:World} {base:Nat} {t:TypeId} {n c:Nat} {out:List aq} (h:w.ownsRow base t 8 (.slice (some ⟨g,0,none⟩) n c) n (flat aq.aE out)) (hj:j<out.length) (o:aq) :
  ((((((((w.setCell ⟨g,j * 8,none⟩ (.int .i64 o.p)).setCell ⟨g,j * 8+1,none⟩ (.int .i64 o.k)).setCell ⟨g,j * 8+2,none⟩ (.int .i64 o.key)).setCell ⟨g,j * 8+3,none⟩ (.int .i64 o.arg)).setCell ⟨g,j * 8+4,none⟩ (.int .i64 o.res)).setCell ⟨g,j * 8+5,none⟩ (.int .i64 o.call)).setCell ⟨g,j * 8+6,none⟩ (.int .i64 o.ret)).setCell ⟨g,j * 8+7,none⟩ (.bool o.done)).ownsRow base t 8 (.slice (some ⟨g,0,none⟩) n c) n (flat aq.aE (out.set j o)):=by
 have s0:=(h.stored (j * 8+0) (.int .i64 o.p)).1;have s1:=(s0.stored (j * 8+1) (.int .i64 o.k)).1;have s2:=(s1.stored (j * 8+2) (.int .i64 o.key)).1;have s3:=(s2.stored (j * 8+3) (.int .i64 o.arg)).1;have s4:=(s3.stored (j * 8+4) (.int .i64 o.res)).1;have s5:=(s4.stored (j * 8+5) (.int .i64 o.call)).1;have s6:=(s5.stored (j * 8+6) (.int .i64 o.ret)).1;have s7:=(s6.stored (j * 8+7) (.bool o.done)).1;have step:∀ (l:List aq) (m:Nat) (u:Value) (a:aq),l.length=out.length→m<8→a.aE=(nth l j).aE.set m u→(flat aq.aE l).set (j * 8+m) u=flat aq.aE (l.set j a):=fun l m u a hl hm ha=>
  zon aq.wide l j m u a za hm (by rw [← ak za];exact ha)
 have q0:=step out 0 (.int .i64 o.p) { nth out j with p:=o.p } rfl za rfl;have q1:=step _ 1 (.int .i64 o.k) { nth out j with p:=o.p,k:=o.k } (by simp:(out.set j { nth out j with p:=o.p }).length=out.length) za (by rw [yf hj];rfl);have q2:=step _ 2 (.int .i64 o.key) { nth out j with p:=o.p,k:=o.k,key:=o.key } (by simp:(out.set j { nth out j with p:=o.p,k:=o.k }).length=out.length) za (by rw [yf hj];rfl);have q3:=step _ 3 (.int .i64 o.arg) { nth out j with p:=o.p,k:=o.k,key:=o.key,arg:=o.arg } (by simp:(out.set j { nth out j with p:=o.p,k:=o.k,key:=o.key }).length=out.length) za (by rw [yf hj];rfl);have q4:=step _ 4 (.int .i64 o.res) { nth out j with p:=o.p,k:=o.k,key:=o.key,arg:=o.arg,res:=o.res } (by simp:(out.set j { nth out j with p:=o.p,k:=o.k,key:=o.key,arg:=o.arg }).length=out.length) za (by rw [yf hj];rfl);have q5:=step _ 5 (.int .i64 o.call) { nth out j with p:=o.p,k:=o.k,key:=o.key,arg:=o.arg,res:=o.res,call:=o.call } (by simp:(out.set j { nth out j with p:=o.p,k:=o.k,key:=o.key,arg:=o.arg,res:=o.res }).length=out.length) za (by rw [yf hj];rfl);have q6:=step _ 6 (.int .i64 o.ret) { nth out j with p:=o.p,k:=o.k,key:=o.key,arg:=o.arg,res:=o.res,call:=o.call,ret:=o.ret } (by simp:(out.set j { nth out j with p:=o.p,k:=o.k,key:=o.key,arg:=o.arg,res:=o.res,call:=o.call }).length=out.length) za (by rw [yf hj];rfl);have q7:=step _ 7 (.bool o.done) o (by simp:(out.set j { nth out j with p:=o.p,k:=o.k,key:=o.key,arg:=o.arg,res:=o.res,call:=o.call,ret:=o.ret }).length=out.length) za (by rw [yf hj];rfl);rw [q0,q1,Vd,q2,Vd,q3,Vd,q4,Vd,q5,Vd,q6,Vd,q7,Vd] at s7;simpa using s7
structure jq (wa w:World) (out:List aq) (ws opn cK:List Int) (A1:Option Addr) (c1:Nat) (A2:Option Addr) (c2:Nat):Prop where
 out:w.ownsRow (wa.heap.size+2) 43 8 (.slice A1 out.length c1) out.length (flat aq.aE out)
 ws:w.ownsRow (wa.heap.size+2) 3 1 (.slice A2 ws.length c2) ws.length (flat jm ws)
 opn:cI w wa.heap.size 3 (flat jm opn)
 cK:cI w (wa.heap.size+1) 3 (flat jm cK)
 bB:Below wa.heap.size wa w
 sz:wa.heap.size+2≤w.heap.size
section
variable {wa w w' : World} {out:List aq} {ws opn cK:List Int} {A1 A2:Option Addr} {c1 c2:Nat}
theorem jq.below (h:jq wa w out ws opn cK A1 c1 A2 c2) (hb:Below w.heap.size w w'):jq wa w' out ws opn cK A1 c1 A2 c2:=
 ⟨zlR h.out hb,zlR h.ws hb,h.opn.below hb (by have:=h.sz;omega),h.cK.below hb (by have:=h.sz;omega),h.bB.trans (hb.mono (by have:=h.sz;omega)),by have:=h.sz;have:=hb.size;omega⟩
theorem jq.BR (h:jq wa w out ws opn cK A1 c1 A2 c2) (i:Nat) (x:Int):jq wa (w.setCell ⟨wa.heap.size+1,i,none⟩ (.int .i64 x)) out ws opn (cK.set i x) A1 c1 A2 c2:=
 ⟨Cf h.out zc _,Cf h.ws zc _,h.opn.iT zc _,h.cK.setInt i x,h.bB.setCell zc _,by simpa using h.sz⟩
theorem jq.BS (h:jq wa w out ws opn cK A1 c1 A2 c2) (i:Nat) (x:Int):jq wa (w.setCell ⟨wa.heap.size,i,none⟩ (.int .i64 x)) out ws (opn.set i x) cK A1 c1 A2 c2:=
 ⟨Cf h.out zc _,Cf h.ws zc _,h.opn.setInt i x,h.cK.iT zc _,h.bB.setCell zc _,by simpa using h.sz⟩
theorem jq.EA (h:jq wa w out ws opn cK A1 c1 A2 c2) {x:Int} (ho:w'.ownsRow (wa.heap.size+2) 3 1 (.slice A3 (ws.length+1) c3) (ws.length+1) (flat jm ws++[.int .i64 x])) (hb:Below (wa.heap.size+2) w w') (hg:w.grownBy w' (Value.slice A2 ws.length c2).ownBlock) :
  jq wa w' out (ws++[x]) opn cK A1 c1 A3 c3:=
 ⟨h.out.kept hg (PN h.out h.ws zd),by rw [zN,Vq,H8];simpa [jm] using ho,h.opn.below hb za,h.cK.below hb za,h.bB.trans (hb.mono za),by have:=h.sz;have:=hb.size;omega⟩
theorem jq.Ak (h:jq wa w out ws opn cK A1 c1 A2 c2) {o:aq} (ho:w'.ownsRow (wa.heap.size+2) 43 8 (.slice A3 (out.length+1) c3) (out.length+1) (flat aq.aE out++o.aE)) (hb:Below (wa.heap.size+2) w w') (hg:w.grownBy w' (Value.slice A1 out.length c1).ownBlock) :
  jq wa w' (out++[o]) ws opn cK A3 c3 A2 c2:=
 ⟨by rw [zN,Vq,H8];simpa using ho,h.ws.kept hg (PN h.ws h.out zd),h.opn.below hb za,h.cK.below hb za,h.bB.trans (hb.mono za),by have:=h.sz;have:=hb.size;omega⟩
theorem jq.Hc (h:jq wa w out ws opn cK (some ⟨g,0,none⟩) c1 A2 c2) (qy:wa.heap.size+2≤g) (hj:j<out.length) (o:aq) :
  jq wa ((((((((w.setCell ⟨g,j * 8,none⟩ (.int .i64 o.p)).setCell ⟨g,j * 8+1,none⟩ (.int .i64 o.k)).setCell ⟨g,j * 8+2,none⟩ (.int .i64 o.key)).setCell ⟨g,j * 8+3,none⟩ (.int .i64 o.arg)).setCell ⟨g,j * 8+4,none⟩ (.int .i64 o.res)).setCell ⟨g,j * 8+5,none⟩ (.int .i64 o.call)).setCell ⟨g,j * 8+6,none⟩ (.int .i64 o.ret)).setCell ⟨g,j * 8+7,none⟩ (.bool o.done)) (out.set j o) ws opn cK (some ⟨g,0,none⟩) c1 A2 c2:=by
 have aN:some g≠(Value.slice A2 ws.length c2).ownBlock:=by
  rcases PN h.ws h.out zd with e|e
  ·rw [e];simp
  ·exact fun e2=>e (by rw [← e2];rfl)
 refine ⟨?_,?_,?_,?_,?_,by simpa using h.sz⟩
 ·have:=zsL h.out hj o;rwa [yA]
 ·exact yO (yO (yO (yO (yO (yO (yO (yO h.ws aN _) aN _) aN _) aN _) aN _) aN _) aN _) aN _
 ·have e:wa.heap.size≠g:=by omega
  exact (((((((h.opn.iT (p:=⟨g,_,none⟩) e _).iT (p:=⟨g,_,none⟩) e _).iT (p:=⟨g,_,none⟩) e _).iT (p:=⟨g,_,none⟩) e _).iT (p:=⟨g,_,none⟩) e _).iT (p:=⟨g,_,none⟩) e _).iT (p:=⟨g,_,none⟩) e _).iT (p:=⟨g,_,none⟩) e _
 ·have e:wa.heap.size+1≠g:=by omega
  exact (((((((h.cK.iT (p:=⟨g,_,none⟩) e _).iT (p:=⟨g,_,none⟩) e _).iT (p:=⟨g,_,none⟩) e _).iT (p:=⟨g,_,none⟩) e _).iT (p:=⟨g,_,none⟩) e _).iT (p:=⟨g,_,none⟩) e _).iT (p:=⟨g,_,none⟩) e _).iT (p:=⟨g,_,none⟩) e _
 ·have e:wa.heap.size≤g:=by omega
  exact (((((((h.bB.setCell (p:=⟨g,_,none⟩) e _).setCell (p:=⟨g,_,none⟩) e _).setCell (p:=⟨g,_,none⟩) e _).setCell (p:=⟨g,_,none⟩) e _).setCell (p:=⟨g,_,none⟩) e _).setCell (p:=⟨g,_,none⟩) e _).setCell (p:=⟨g,_,none⟩) e _).setCell (p:=⟨g,_,none⟩) e _
theorem jq.cells (h:jq wa w out ws opn cK (some ⟨g,0,none⟩) c1 A2 c2) (hj:j<out.length) :
  (w.cell? ⟨g,j * 8,none⟩=some (.int .i64 (nth out j).p)∧w.cell? ⟨g,j * 8+1,none⟩=some (.int .i64 (nth out j).k)∧w.cell? ⟨g,j * 8+2,none⟩=some (.int .i64 (nth out j).key)∧w.cell? ⟨g,j * 8+3,none⟩=some (.int .i64 (nth out j).arg)∧
  w.cell? ⟨g,j * 8+4,none⟩=some (.int .i64 (nth out j).res)∧w.cell? ⟨g,j * 8+5,none⟩=some (.int .i64 (nth out j).call)∧w.cell? ⟨g,j * 8+6,none⟩=some (.int .i64 (nth out j).ret)∧w.cell? ⟨g,j * 8+7,none⟩=some (.bool (nth out j).done))∧
  (w.frozen? ⟨g,j * 8,none⟩=false∧w.frozen? ⟨g,j * 8+1,none⟩=false∧w.frozen? ⟨g,j * 8+2,none⟩=false∧w.frozen? ⟨g,j * 8+3,none⟩=false∧w.frozen? ⟨g,j * 8+4,none⟩=false∧w.frozen? ⟨g,j * 8+5,none⟩=false∧w.frozen? ⟨g,j * 8+6,none⟩=false∧w.frozen? ⟨g,j * 8+7,none⟩=false):=by
 have hs:=(Sl.jB h.out rfl).G8 hj;simp only [yh] at hs;exact ⟨hs,h.out.frozenAt _,h.out.frozenAt _,h.out.frozenAt _,h.out.frozenAt _,h.out.frozenAt _,h.out.frozenAt _,h.out.frozenAt _,h.out.frozenAt _⟩
end
end
section
open Go.RowKit
attribute [local go_sem ↓] Go.wp_at_zero Go.wp_at_succ
set_option maxRecDepth 100000 in
theorem zkg (A:Option Addr) (c:Nat) (l:List Int) (az:Int) (w:World) (h1:Sl jm w w.heap.size A l) (hl:∀ x∈l,bU x) (hlen:l.length≤9223372036854775807) (wh:bU az) :
  Calls Tryz.prog 4 #[.slice A l.length c,.int .i64 az] w fun e w'=>∃ A1 c1,e=.returned (.slice A1 (zV l az).length c1)∧
   w'.ownsRow w.heap.size 43 8 (.slice A1 (zV l az).length c1) (zV l az).length (flat aq.aE (zV l az))∧Below w.heap.size w w':=by
 have hmk4:∀ w,(Instr.makeSlice 22 (.int .i64 4) (.int .i64 4)).run Tryz.prog w=.ok (.slice (some ⟨w.heap.size,0,none⟩) 4 4) (w.alloc (.cells #[.int .i64 0,.int .i64 0,.int .i64 0,.int .i64 0] 3)):=fun _=>by kernel_rfl
 have hmk3:∀ w,(Instr.makeSlice 22 (.int .i64 3) (.int .i64 3)).run Tryz.prog w=.ok (.slice (some ⟨w.heap.size,0,none⟩) 3 3) (w.alloc (.cells #[.int .i64 0,.int .i64 0,.int .i64 0] 3)):=fun _=>by kernel_rfl
 obtain ⟨ev,C4⟩:∃ ev,Yy l az=ev:=⟨_,rfl⟩
 obtain ⟨fr,iC⟩:∃ fr,uZ l=fr:=⟨_,rfl⟩
 have Gu:zV l az=(XP ev fr ev.length).out:=by rw [zV,C4,iC]
 rw [Gu];have ry:=Pr l az;have FA:=PB l az;rw [C4] at ry FA;have Dg:=zuO l (az:=100) za;obtain ⟨pk,Bo⟩:∃ pk,tR l 100=pk:=⟨_,rfl⟩
 rw [Bo] at Dg;obtain ⟨hpk0,hpk1⟩:=Dg;have hfrv:(pk % 2 == 1)=fr:=by rw [← iC,uZ,Bo];rw [VM];simp
 have qW:=yd ry;clear ry iC Gu
 go_enter Tryz.func4,Tryz.ntmps4
 go_upto_region 4 with (go_at_call 9;refine (zpJ _ _ _ _ _ h1 hl hlen wh).mono ?_;rintro e wa ⟨Ae,ce,rfl,er,JA⟩;rw [C4] at er ⊢)
 have hse:=Sl.jB er rfl;have SW:=h1.below JA;have OK:=JA.size
 go_wp2_with (go_at_call 10;refine (zsN _ _ _ _ _ (((SW.more OK).keep fun p hp=>by rw [World.cell?_alloc_lt _ _ _ zM,World.cell?_alloc_lt _ _ _ hp]).more zM) hl hlen za za).mono ?_;rintro e w' ⟨rfl,rfl⟩;rw [Bo])
 have Hh1:=yd h1;clear h1 SW hl
 go_loopw [6,7,11] (fun v6 v7 i wr=>∃ (k:Nat) (A1:Option Addr) (c1:Nat) (A2:Option Addr) (c2:Nat),k≤ev.length∧i=.int .i64 k∧v6=.slice A1 (XP ev fr k).out.length c1∧v7=.slice A2 (XP ev fr k).ws.length c2∧
   jq wa wr (XP ev fr k).out (XP ev fr k).ws (XP ev fr k).opn (XP ev fr k).cK A1 c1 A2 c2) (fun _ _ i _=>ev.length - (intOf i).toNat)
 case atStart=>
  refine ⟨0,none,0,none,0,by omega,rfl,rfl,rfl,Wj _ _ _ _,Wj _ _ _ _,(cI.new wa 3 [.int .i64 0,.int .i64 0,.int .i64 0,.int .i64 0]).alloc _,?_,((Zc _ _).alloc (zg _) _).alloc zc _,by simp⟩;have:=cI.new (wa.alloc (.cells #[.int .i64 0,.int .i64 0,.int .i64 0,.int .i64 0] 3)) 3 [.int .i64 0,.int .i64 0,.int .i64 0];simp only [Uv] at this;exact this
 case round=>
  obtain ⟨k,A1,c1,A2,c2,hk,rfl,rfl,rfl,gw⟩:=hrel;have aY:=gw.sz;by_cases aA:k<ev.length
  ·have inv:=KX fr qW.out FA k za;have Hs:=yd (show XP ev fr (k+1)=wZ ev fr k (XP ev fr k) from rfl);obtain ⟨s,hs⟩:∃ s,s=XP ev fr k:=⟨_,rfl⟩
   rw [← hs] at gw inv Hs ⊢;clear hs;obtain ⟨be,oe,rfl,lz,q0,q1,q2⟩:=(hse.below gw.bB).ev aA;obtain ⟨⟨g1,g2⟩,⟨g3,g4⟩,_⟩:=qW.out k aA;obtain ⟨p,hp⟩:∃ p:Nat,(nth ev k).p=p:=⟨(nth ev k).p.toNat,by omega⟩
   obtain ⟨n,hn⟩:∃ n,(nth ev k).n=n:=⟨_,rfl⟩
   rw [hp] at q0 g1 g2;rw [hn] at q2 g3 g4;have Oo:(0:Int)≤(p:Int):=by omega
   have Gn:(p:Int)<4:=by omega
   have Gq:(nth ev k).p.toNat=p:=by omega
   have ok:=inv.ok;have FY:p<s.opn.length:=by have:=ok.J4;omega
   have hlat:=inv.cK;have hwsl:=inv.ws;have nQ:s.out.length≤100:=by
    rcases Yv s.out.length with h0|h0
    ·omega
    ·obtain ⟨c',_,c'2,_⟩:=ok.call (s.out.length - 1) za;have key:∀ j,j<s.out.length→∃ c:Nat,(nth s.out j).call=c∧c<k∧j≤c:=by
      intro j
      induction j with
      | zero => intro hj; obtain ⟨c, a, b, _⟩ := ok.call 0 hj; exact ⟨c, a, b, zp _⟩
      | succ j ih =>
       intro hj;obtain ⟨c,a,b,d⟩:=ih za;obtain ⟨c2,a2,b2,_⟩:=ok.call (j+1) hj;have:=ok.mono j (j+1) za hj;exact ⟨c2,a2,b2,by omega⟩
     obtain ⟨c,_,b,d⟩:=key (s.out.length - 1) za;omega
   cases hi:(nth ev k).inv with
   | true=>
    rw [hi] at q1;obtain ⟨key,jV⟩:∃ key:Nat,1+n / 2 % 2=(key:Int):=⟨(1+n / 2 % 2).toNat,by omega⟩
    have FM:(0:Int)≤(key:Int):=by omega
    have FN:(key:Int)<3:=by omega
    have bT:XP ev fr (k+1)=Ik ev k (nth ev k) s:=by rw [Hs.out,wZ,hi];rfl
    unfold Ik at bT;rw [hn,hp,jV] at bT;simp only [zK] at bT;obtain ⟨o',Dt,r8,aO,dE⟩:∃ o' Dt r8,XP ev fr (k+1)=⟨s.out++[o'],Dt,s.opn.set p s.out.length,r8⟩∧
      ((n % 2=1∧o'=⟨p,n % 2,key,(s.ws.length:Int)+1,0,k,ev.length,false⟩∧Dt=s.ws++[(key:Int)]∧r8=s.cK.set key ((s.ws.length:Int)+1))∨(n % 2=0∧o'=⟨p,n % 2,key,0,0,k,ev.length,false⟩∧Dt=s.ws∧r8=s.cK)):=by
     by_cases h2:n % 2=1
     ·rw [if_pos h2] at bT;exact ⟨_,_,_,bT,.inl ⟨h2,by rw [h2],rfl,rfl⟩⟩
     ·have h3:n % 2=0:=by omega
      rw [if_neg h2] at bT;exact ⟨_,_,_,bT,.inr ⟨h3,by rw [h3],rfl,rfl⟩⟩
    have sU:=yd aO;clear aO bT Hs ok inv;have hE:=aY
    go_upto_if 53 with fail
    have Je:=gw.below (w':=(wr.alloc (.cells #[.int .i64 p,.bool true,.int .i64 n] 41)).alloc (.cells #[.int .i64 p,.int .i64 (n % 2),.int .i64 key,.int .i64 0,.int .i64 0,.int .i64 k,.int .i64 ev.length,.bool false] 43)) (((Zc _ _).alloc (zg _) _).alloc zc _);have Jd:∀ v,jq wa (((wr.alloc (.cells #[.int .i64 p,.bool true,.int .i64 n] 41)).alloc (.cells #[.int .i64 p,.int .i64 (n % 2),.int .i64 key,.int .i64 0,.int .i64 0,.int .i64 k,.int .i64 ev.length,.bool false] 43)).setCell ⟨wr.heap.size+1,3,none⟩ v) s.out s.ws s.opn s.cK A1 c1 A2 c2:=fun v=>gw.below ((((Zc _ _).alloc (zg _) _).alloc zc _).setCell zc _);have ug:cI ((wr.alloc (.cells #[.int .i64 p,.bool true,.int .i64 n] 41)).alloc (.cells #[.int .i64 p,.int .i64 (n % 2),.int .i64 key,.int .i64 0,.int .i64 0,.int .i64 k,.int .i64 ev.length,.bool false] 43)) wr.heap.size 41 (cY.aE ⟨p,true,n⟩):=(cI.new wr 41 (cY.aE ⟨p,true,n⟩)).alloc _;have oC:cI ((wr.alloc (.cells #[.int .i64 p,.bool true,.int .i64 n] 41)).alloc (.cells #[.int .i64 p,.int .i64 (n % 2),.int .i64 key,.int .i64 0,.int .i64 0,.int .i64 k,.int .i64 ev.length,.bool false] 43)) (wr.heap.size+1) 43 (aq.aE ⟨p,n % 2,key,0,0,k,ev.length,false⟩):=by
     have:=cI.new (wr.alloc (.cells #[.int .i64 p,.bool true,.int .i64 n] 41)) 43 (aq.aE ⟨p,n % 2,key,0,0,k,ev.length,false⟩);simp only [Uv] at this;exact this
    have Dr:wr.heap.size+2≤((wr.alloc (.cells #[.int .i64 p,.bool true,.int .i64 n] 41)).alloc (.cells #[.int .i64 p,.int .i64 (n % 2),.int .i64 key,.int .i64 0,.int .i64 0,.int .i64 k,.int .i64 ev.length,.bool false] 43)).heap.size:=by simp
    obtain ⟨w1,eK⟩:∃ w1,w1=(wr.alloc (.cells #[.int .i64 p,.bool true,.int .i64 n] 41)).alloc (.cells #[.int .i64 p,.int .i64 (n % 2),.int .i64 key,.int .i64 0,.int .i64 0,.int .i64 k,.int .i64 ev.length,.bool false] 43):=⟨_,rfl⟩
    rw [← eK] at Je Jd ug oC Dr;rw [← eK];clear eK gw q0 q1 q2;obtain ⟨E,ET⟩:∃ E,E=wr.heap.size:=⟨_,rfl⟩
    rw [← ET] at Jd ug oC Dr aY hE ⊢;clear ET;obtain ⟨x0,x1,x2,x3,x4,x5,x6,x7⟩:=oC.op
    go_cut [7] (fun v7 wx=>∃ A3 c3,v7=.slice A3 Dt.length c3∧jq wa wx s.out Dt s.opn r8 A1 c1 A3 c3∧cI wx E 41 (cY.aE ⟨p,true,n⟩)∧cI wx (E+1) 43 o'.aE∧E+2≤wx.heap.size)
    case first=>
     rcases dE with ⟨h2,rfl,rfl,rfl⟩|⟨h2,rfl,rfl,rfl⟩
     ·have eG : (n % 2 == 1)=true:=by simpa using h2
      have f3:=oC.frozen 3;have qZ:=oC.su 3 (.int .i64 ((s.ws.length:Int)+1));have SM:=ug.iT (p:=⟨E+1,3,none⟩) zc (.int .i64 ((s.ws.length:Int)+1));have Jc:=Jd (.int .i64 ((s.ws.length:Int)+1));have OJ:(w1.setCell ⟨E+1,3,none⟩ (.int .i64 ((s.ws.length:Int)+1))).heap.size=w1.heap.size:=by simp
      have y2:(w1.setCell ⟨E+1,3,none⟩ (.int .i64 ((s.ws.length:Int)+1))).cell? ⟨E+1,2,none⟩=some (.int .i64 key):=qZ.cell 2;clear Jd Je
      go_wp2_with (at_builtin;go_loud (refine VF zxB Jc.ws rfl (.tmp 58) (.tmp 61) rfl rfl (by rw [OJ];rfl) rfl (by simp [Value.oneCell']) za za za ?_;intro A5 c5 w5 ho5 AN NF hl5;have MH:=Jc.EA ho5 AN NF;have My:=qZ.grown NF (ziN Jc.ws qZ zd);have be5:=SM.grown NF (ziN Jc.ws SM zd);have xl:=MH.cK.int (i:=key) za;have fl:=MH.cK.frozen key;have k2:w5.cell? ⟨E+1,2,none⟩=some (.int .i64 key):=My.cell 2;have k3:w5.cell? ⟨E+1,3,none⟩=some (.int .i64 ((s.ws.length:Int)+1)):=My.cell 3;have GH:=AN.size))
      go_meet
      case rel=>exact ⟨A5,c5,by simp,MH.BR key _,be5.iT zM _,My.iT zM _,by simp;omega⟩
     ·have eG : (n % 2 == 1)=false:=by simp [h2]
      go_wp2_with fail
      go_meet
      case rel=>exact ⟨A2,c2,rfl,Je,ug,oC,by omega⟩
    case rest=>
     obtain ⟨A3,c3,rfl,gx,I6,CN,p8⟩:=hcut;clear dE Je ug oC x0 x1 x2 x3 x4 x5 x6 x7;obtain ⟨x0,x1,x2,x3,x4,x5,x6,x7⟩:=CN.op;have y0:wc.cell? ⟨E,0,none⟩=some (.int .i64 p):=I6.cell 0;have fo:=gx.opn.frozen p;have xo:=gx.opn.int (i:=p) FY;have g2:=gx.BS p s.out.length;have qZ:=CN.iT (p:=⟨wa.heap.size,p,none⟩) zM (.int .i64 s.out.length);obtain ⟨z0,z1,z2,z3,z4,z5,z6,z7⟩:=qZ.op;have pL:(wc.setCell ⟨wa.heap.size,p,none⟩ (.int .i64 s.out.length)).heap.size=wc.heap.size:=by simp
     have hszc:=gx.sz
     go_wp2_with (at_builtin;go_loud (refine VF zyn g2.out rfl (.tmp 75) (.tmp 77) rfl rfl (by rw [pL];rfl) (cs:=o'.aE) rfl o'.one za za za ?_;intro A4 c4 w4 Og CY rv hl4))
     go_roundw
     case rel=>exact ⟨k+1,A4,c4,A3,c3,by omega,by go_num,by rw [sU.out];simp,by rw [sU.out],by rw [sU.out];exact g2.Ak Og CY rv⟩
     case measure=>simp [intOf];omega
   | false=>
    rw [hi] at q1;have pI:(nth ev k).p=(p:Int):=hp;obtain ⟨j,j1,j2,j3,j4⟩:=ok.at_ qW.out aA hi pI;have oK:(0:Int)≤(j:Int):=by omega
    have cN:(j:Int)<(s.out.length:Int):=by omega
    obtain ⟨oj,nP⟩:∃ oj,nth s.out j=oj:=⟨_,rfl⟩
    have dw:=inv.sm _ (zu j2);rw [nP] at dw;obtain ⟨key,jV⟩:∃ key:Nat,oj.key=(key:Int):=⟨oj.key.toNat,by have:=dw.2.1;omega⟩
    have FN:(key:Int)<3:=by have:=dw.2.1;omega
    have FM:(0:Int)≤(key:Int):=by omega
    obtain ⟨o',eJ⟩:∃ o' : aq,o'={ oj with done:=true,ret:=(k:Int),res:=if oj.k=0 then Xj s.ws oj.key n (nth s.cK key) fr else oj.res }:=⟨_,rfl⟩
    have aO:XP ev fr (k+1)=⟨s.out.set j o',s.ws,s.opn,s.cK⟩:=by
     have gj:(nth s.opn p).toNat=j:=by omega
     have gU:oj.key.toNat=key:=by omega
     rw [Hs.out,wZ,hi];simp only [Lt,if_false];unfold L5;rw [Gq,gj,hn,nP,gU,eJ]
    have sU:=yd aO;clear aO Hs;obtain ⟨g,rfl,qx,hgw⟩:=zuM gw.out za;obtain ⟨⟨e0,e1,e2,e3,e4,e5,e6,e7⟩,_⟩:=gw.cells j2;rw [nP] at e0 e1 e2 e3 e4 e5 e6 e7;have xo:=gw.opn.int (i:=p) FY;rw [j1] at xo;have xl:=gw.cK.int (i:=key) za;have iv:=Sl.jB gw.ws rfl;have Hsm:=yd dw;have Hoj:=yd nP;have Hj:=yd (And.intro j1 (And.intro j3 j4));have Ev:=yd jV;have FT:key<s.cK.length:=by omega
    clear ok inv dw nP j1 j3 j4 jV pI;have rG:wa.heap.size<wr.heap.size:=by omega
    have eM:wa.heap.size+1<wr.heap.size:=by omega
    go_upto_region 21 with fail
    have ug:cI ((wr.alloc (.cells #[.int .i64 p,.bool false,.int .i64 n] 41)).alloc (.cells #[.int .i64 oj.p,.int .i64 oj.k,.int .i64 oj.key,.int .i64 oj.arg,.int .i64 oj.res,.int .i64 oj.call,.int .i64 oj.ret,.bool oj.done] 43)) wr.heap.size 41 (cY.aE ⟨p,false,n⟩):=(cI.new wr 41 (cY.aE ⟨p,false,n⟩)).alloc _;have oC:cI ((wr.alloc (.cells #[.int .i64 p,.bool false,.int .i64 n] 41)).alloc (.cells #[.int .i64 oj.p,.int .i64 oj.k,.int .i64 oj.key,.int .i64 oj.arg,.int .i64 oj.res,.int .i64 oj.call,.int .i64 oj.ret,.bool oj.done] 43)) (wr.heap.size+1) 43 oj.aE:=by
     have:=cI.new (wr.alloc (.cells #[.int .i64 p,.bool false,.int .i64 n] 41)) 43 oj.aE;simp only [Uv] at this;exact this
    have B1:Below wr.heap.size wr ((wr.alloc (.cells #[.int .i64 p,.bool false,.int .i64 n] 41)).alloc (.cells #[.int .i64 oj.p,.int .i64 oj.k,.int .i64 oj.key,.int .i64 oj.arg,.int .i64 oj.res,.int .i64 oj.call,.int .i64 oj.ret,.bool oj.done] 43)):=((Zc _ _).alloc (zg _) _).alloc zc _;have Dr:wr.heap.size+2≤((wr.alloc (.cells #[.int .i64 p,.bool false,.int .i64 n] 41)).alloc (.cells #[.int .i64 oj.p,.int .i64 oj.k,.int .i64 oj.key,.int .i64 oj.arg,.int .i64 oj.res,.int .i64 oj.call,.int .i64 oj.ret,.bool oj.done] 43)).heap.size:=by simp
    obtain ⟨w1,eK⟩:∃ w1,w1=(wr.alloc (.cells #[.int .i64 p,.bool false,.int .i64 n] 41)).alloc (.cells #[.int .i64 oj.p,.int .i64 oj.k,.int .i64 oj.key,.int .i64 oj.arg,.int .i64 oj.res,.int .i64 oj.call,.int .i64 oj.ret,.bool oj.done] 43):=⟨_,rfl⟩
    rw [← eK] at ug oC B1 Dr;rw [← eK];clear eK q0 q1 q2 e0 e1 e2 e3 e4 e5 e6 e7 xo;have f7:=oC.frozen 7;have f6:=oC.frozen 6;obtain ⟨x0,x1,x2,x3,x4,x5,x6,x7⟩:=oC.op
    go_upto_if 93 with fail
    have CN:=(oC.su 7 (.bool true)).su 6 (.int .i64 k);have I6:=(ug.iT (p:=⟨wr.heap.size+1,7,none⟩) zc (.bool true)).iT (p:=⟨wr.heap.size+1,6,none⟩) zc (.int .i64 k);have B2:=(B1.setCell (p:=⟨wr.heap.size+1,7,none⟩) zc (.bool true)).setCell (p:=⟨wr.heap.size+1,6,none⟩) zc (.int .i64 k);have p8:wr.heap.size+2≤((w1.setCell ⟨wr.heap.size+1,7,none⟩ (.bool true)).setCell ⟨wr.heap.size+1,6,none⟩ (.int .i64 k)).heap.size:=by simpa using Dr
    obtain ⟨w2,ew⟩:∃ w2,w2=(w1.setCell ⟨wr.heap.size+1,7,none⟩ (.bool true)).setCell ⟨wr.heap.size+1,6,none⟩ (.int .i64 k):=⟨_,rfl⟩
    rw [← ew] at I6 CN B2 p8;rw [← ew];clear ew x0 x1 x2 x3 x4 x5 x6 x7 f7 f6 ug oC B1 Dr;have Al : cI w2 (wr.heap.size+1) 43 (aq.aE { oj with done:=true,ret:=(k:Int) }):=CN;clear CN
    go_cut [15] (fun v15 wx=>v15=.pointer (some ⟨wr.heap.size+1,0,none⟩)∧Below wr.heap.size wr wx∧cI wx (wr.heap.size+1) 43 o'.aE)
    case first=>
     by_cases h0:oj.k=0
     ·have Jf : (oj.k == 0)=true:=by simpa using h0
      have jX:o'={ oj with done:=true,ret:=(k:Int),res:=Xj s.ws oj.key n (nth s.cK key) fr }:=by rw [eJ,if_pos h0]
      have Mv:=yd jX;clear eJ jX
      go_upto_region 24 with fail
      have SV:=gw.below B2;have SN : w2.cell? ⟨wr.heap.size+1,2,none⟩=some (.int .i64 oj.key):=Al.cell 2;rw [Ev.out] at SN;have cn:w2.cell? ⟨wr.heap.size,2,none⟩=some (.int .i64 n):=I6.cell 2;have cl:=SV.cK.int (i:=key) FT;have OW:=Sl.jB SV.ws rfl;have qD:s.ws.length≤1000000:=by omega
      go_region_held3 (fun w'=>w'.cell? ⟨wr.heap.size+1,2,none⟩=some (.int .i64 key)∧w'.cell? ⟨wr.heap.size,2,none⟩=some (.int .i64 n)∧w'.cell? ⟨wa.heap.size+1,key,none⟩=some (.int .i64 (nth s.cK key)))
       (first|(refine ⟨?_,?_,?_⟩ <;> assumption)|(go_keep;done)|(refine ⟨(Qd _ _ _ _ zc).trans ?_,(Qd _ _ _ _ zc).trans ?_,(Qd _ _ _ _ zc).trans ?_⟩ <;> assumption))
       ((go_at_call 11;refine (zpn _ _ _ _ _ _ _ _ (by exact OW) qD g3 za).mono ?_;rintro e w3 ⟨rfl,kN⟩;have d1:=(kN.cell (p:=⟨wr.heap.size+1,2,none⟩) (by show wr.heap.size+1<w2.heap.size;omega)).trans SN;have d2:=(kN.cell (p:=⟨wr.heap.size,2,none⟩) (by show wr.heap.size<w2.heap.size;omega)).trans cn;have d3:=(kN.cell (p:=⟨wa.heap.size+1,key,none⟩) (by show wa.heap.size+1<w2.heap.size;omega)).trans cl;have qZ:=Al.drew.below kN (by show wr.heap.size+1<w2.heap.size;omega);have f4:=qZ.frozen 4;have k4:=qZ.cell 4))
      go_wp2_with fail
      go_meet
      case rel=>
       refine ⟨rfl,((zwX B2).trans (kN.mono (by show wr.heap.size≤w2.heap.size;omega))).setCell zc _,?_⟩;have pw:=qZ.su 4 (.int .i64 (Xj s.ws oj.key n (nth s.cK key) fr));rw [Mv.out];rw [Ev.out] at pw ⊢;exact pw
     ·have Jf : (oj.k == 0)=false:=by simpa using h0
      have jX:o'={ oj with done:=true,ret:=(k:Int) }:=by rw [eJ,if_neg h0]
      have Mv:=yd jX;clear eJ jX
      go_wp2_with fail
      go_meet
      case rel=>exact ⟨rfl,B2,by rw [Mv.out];exact Al⟩
    case rest=>
     obtain ⟨rfl,B3,qZ⟩:=hcut;have gx:=gw.below B3;obtain ⟨⟨e0,e1,e2,e3,e4,e5,e6,e7⟩,f0,f1,f2,f3,f4,f5,f6,f7⟩:=gx.cells j2;obtain ⟨x0,x1,x2,x3,x4,x5,x6,x7⟩:=qZ.op;clear eJ
     go_wp2_with fail
     go_roundw
     case rel=>exact ⟨k+1,some ⟨g,0,none⟩,c1,A2,c2,by omega,by go_num,by rw [sU.out];simp,by rw [sU.out],by rw [sU.out];exact gx.Hc qx j2 o'⟩
     case measure=>simp [intOf];omega
  ·obtain rfl:k=ev.length:=by omega
   go_wp2_with fail
   go_ret
   have OM:=JA.size;exact ⟨A1,c1,rfl,Ic gw.out za,JA.trans (gw.bB.mono OM)⟩
end
section
open Go.RowKit
attribute [local go_sem ↓] Go.wp_at_zero Go.wp_at_succ
def zxD (ev:List cY) (i:Nat) (e:cY) (s:XY):XY:=
 if 0<e.n % 3 then ⟨s.out++[⟨e.p,2,1+e.n / 2 % 2,(s.ws.length:Int)+1,0,i,ev.length,false⟩],s.ws++[1+e.n / 2 % 2],s.opn.set e.p.toNat s.out.length,s.cK⟩
 else ⟨s.out++[⟨e.p,0,1+e.n / 2 % 2,0,0,i,ev.length,false⟩],s.ws,s.opn.set e.p.toNat s.out.length,s.cK⟩
def zx2 (fresh:Bool) (i:Nat) (e:cY) (s:XY):XY:=
 { s with out:=s.out.set (nth s.opn e.p.toNat).toNat { nth s.out (nth s.opn e.p.toNat).toNat with done:=true,ret:=i,res:=Xj s.ws (nth s.out (nth s.opn e.p.toNat).toNat).key e.n (nth s.cK (nth s.out (nth s.opn e.p.toNat).toNat).key.toNat) fresh }
          cK:=if (nth s.out (nth s.opn e.p.toNat).toNat).k=2 then s.cK.set (nth s.out (nth s.opn e.p.toNat).toNat).key.toNat (nth s.out (nth s.opn e.p.toNat).toNat).arg else s.cK }
def zxE (ev:List cY) (fresh:Bool) (i:Nat) (s:XY):XY:=
 if (nth ev i).inv then zxD ev i (nth ev i) s else zx2 fresh i (nth ev i) s
def zyo (ev:List cY) (fresh:Bool) (k:Nat):XY:=sH (zxE ev fresh) Ip k
def zx3 (l:List Int) (az:Int):List aq:=(zyo (Yy l az) (uZ l) (Yy l az).length).out
end
section
open Go.RowKit
attribute [local go_sem ↓] Go.wp_at_zero Go.wp_at_succ
end
section
open Go.RowKit
attribute [local go_sem ↓] Go.wp_at_zero Go.wp_at_succ
def zxq (ev:List cY) (i:Nat) (e:cY) (s:XY):XY:=
 if e.n % 2=0 then ⟨s.out++[⟨e.p,3,1+e.n / 2 % 2,(s.ws.length:Int)+1,0,i,ev.length,false⟩],s.ws++[1+e.n / 2 % 2],s.opn.set e.p.toNat s.out.length,s.cK⟩
 else ⟨s.out++[⟨e.p,4,1+e.n / 2 % 2,0,0,i,ev.length,false⟩],s.ws,s.opn.set e.p.toNat s.out.length,s.cK⟩
def zxZ (i:Nat) (e:cY) (s:XY):XY:=
 if (nth s.out (nth s.opn e.p.toNat).toNat).k=4 then { s with out:=s.out.set (nth s.opn e.p.toNat).toNat { nth s.out (nth s.opn e.p.toNat).toNat with done:=true,ret:=i,res:=zsP s.ws s.cK (nth s.out (nth s.opn e.p.toNat).toNat).key e.n },cK:=s.cK++[zsP s.ws s.cK (nth s.out (nth s.opn e.p.toNat).toNat).key e.n] }
 else { s with out:=s.out.set (nth s.opn e.p.toNat).toNat { nth s.out (nth s.opn e.p.toNat).toNat with done:=true,ret:=i } }
def zxr (ev:List cY) (i:Nat) (s:XY):XY:=
 if (nth ev i).inv then zxq ev i (nth ev i) s else zxZ i (nth ev i) s
def zyl (ev:List cY) (k:Nat):XY:=sH (zxr ev) ⟨[],[],[0,0,0,0],[]⟩ k
def zxs (l:List Int) (az:Int):List aq:=(zyl (Yy l az) (Yy l az).length).out
section
variable {wa w w' : World} {out:List aq} {ws opn cK:List Int} {A1 A2 A9:Option Addr} {c1 c2 c9:Nat}
end
end
section
open Go.RowKit
attribute [local go_sem ↓] Go.wp_at_zero Go.wp_at_succ
end
section
open Go.RowKit
attribute [local go_sem ↓] Go.wp_at_zero Go.wp_at_succ
def mixed (l:List Int) (which:Int):List aq:=
 if WZ which 3=0 then zV l 12 else if WZ which 3=1 then zx3 l 12 else zxs l 12
/-! ### what the generated operations are -/
theorem zoq {out:List aq} {opn:List Int} (hg:sA ev) (hl:ev.length≤40) (h:nk ev ev.length out opn) (dw:∀ o∈out,j9 o):Zj out=0∧(∀ o∈out,Ue o):=by
 have hle:∀ k,o3 ev k≤k:=by
  intro k
  induction k with
  | zero => exact zg _
  | succ k ih => unfold o3; split <;> omega
 have hlen:out.length≤40:=by have:=h.len;have:=hle ev.length;omega
 refine ⟨h.uB hg (zg _) za fun o ho=>(dw o ho).1,fun o ho=>?_⟩;obtain ⟨j,hj,rfl⟩:=zU ho;rw [← ak hj];have hs:=dw _ (zu hj);unfold j9 at hs;obtain ⟨c,c1,c2,_,c4⟩:=h.call j hj;have hp:=(hg c za).1;have hr:0≤(nth out j).ret∧(nth out j).ret≤40:=by
  cases hd:(nth out j).done with
  | true => obtain ⟨r, a1, a2, _⟩ := h.ret j hj hd; omega
  | false => have := (h.stay j hj hd).1; omega
 unfold Ue bU;omega
/-! ### Bent -/
end
section
open Go.RowKit
attribute [local go_sem ↓] Go.wp_at_zero Go.wp_at_succ
end
section
open Go.RowKit
theorem Z2 (l:List Int) (az:Int) (hl:∀ x∈l,bU x) (hlen:l.length≤9223372036854775807) (hm:bU az):xA Tryz.prog 4 [.list 1 (l.map zJ),.int .i64 az] (.ow 43 8) (.list 8 ((zV l az).map aq.fv)) where
 go:=by kernel_rfl
 hand:=rfl
 calls w I vs hI hv:=by
  obtain ⟨_,_,rfl,e1,e2⟩:=hv.inv2;obtain ⟨A,c,rfl,_,hs⟩:=lO.of e1 hI;rw [e2.dr];refine (zkg A c l az w hs hl hlen hm).mono ?_;rintro e w' ⟨A1,c1,rfl,ho,hb⟩;exact ⟨_,rfl,hb,V3.res ho⟩
/-! ### what the registers are -/
theorem XQ (l:List Int) (h0:0≤az) (h1:az≤20):Zj (zV l az)=0∧(∀ o∈zV l az,Ue o)∧(∀ o∈zV l az,j9 o)∧((zV l az).length:Int)≤az:=by
 have hg:=Pr l az;have hl:=PB l az;have hi:=zm3 l (az:=az) h0;have inv:=KX (uZ l) hg hl _ (zg _);exact ⟨(zoq hg hl inv.ok inv.sm).1,(zoq hg hl inv.ok inv.sm).2,inv.sm,by have:=inv.ok.len;unfold zV;omega⟩
structure tU where
 check:Int
 cls:Int
 arg:Int
 ord:List Int
 ed:List dF
 deriving DecidableEq,Inhabited
def tU.fv (v:tU):List FV:=[.int .i64 v.check,.int .i64 v.cls,.int .i64 v.arg,.list 1 (v.ord.map zJ),.list 3 (v.ed.map dF.fv)]
def Cs (L:List Nat):List Int:=L.map fun i:Nat=>(i:Int)
def IL (l:List aq):tU:=match qM l with
 | some i => ⟨5, 2, (nth l i).key, Cs [i], []⟩
 | none=>if iz l≠[] then ⟨5,6,0,[],qb l (iz l) (iz l).length⟩ else match qL l with
  | some (w1, w2, i) => ⟨5, 7, (nth l w2).key, Cs [w1, w2, i], eP l w1 w2 ++ eP l w2 i⟩
  | none => match qI l with
   | some (w, i) => ⟨5, 8, (nth l w).key, Cs [w, i], eP l w i⟩
   | none => ⟨5, 0, 0, pW l, []⟩
def qi (l:List aq):tU:=if Ub l≠0 then ⟨0,0,0,[],[]⟩ else IL l
def Ms (l:List aq):tU:=match Cw l with
 | some (r, k, i) => ⟨6, 9+r, (nth l i).key, Cs [k, i], []⟩
 | none => ⟨6, 0, 0, [], []⟩
def CJ (l:List aq):tU:=if Ub l≠0 then ⟨0,0,0,[],[]⟩ else Ms l
theorem zsD (sz:Nat) (es:List (List FV)):FV.le (CH sz es) (.list sz es):=by
 cases es with
 | nil => exact .nil sz
 | cons e es => exact .refl _
theorem zuI (L:List Nat):L.map yx=(Cs L).map zJ:=by unfold Cs;rw [xb];rfl
theorem IU {c k a:Int} {f g:FV} {e:List dF} (h1:FV.le f (.list 1 (o.map zJ))) (h2:FV.le g (.list 3 (e.map dF.fv))):FV.le (.agg [.int .i64 c,.int .i64 k,.int .i64 a,f,g]) (.agg (tU.fv ⟨c,k,a,o,e⟩)):=
 .agg (.cons (.refl _) (.cons (.refl _) (.cons (.refl _) (.cons h1 (.cons h2 .nil)))))
theorem Ir (c k a:Int) (o:List Nat) (e:List dF):FV.le (.agg (ix c k a o e)) (.agg (tU.fv ⟨c,k,a,Cs o,e⟩)):=by
 unfold ix;refine IU ?_ (zsD 3 _);rw [zuI];exact zsD 1 _
theorem zrd (l:List aq):FV.le (.agg (u4 l)) (.agg (IL l).fv):=by
 unfold u4 IL;cases qM l with
 | some i => exact Ir 5 2 _ [i] []
 | none=>
  dsimp only;by_cases h:iz l≠[]
  ·rw [if_pos h,if_pos h];exact IU (.nil 1) (.refl _)
  ·rw [if_neg h,if_neg h];cases qL l with
   | some x =>
    obtain ⟨w1,w2,i⟩:=x;exact Ir 5 7 _ [w1,w2,i] _
   | none=>
    dsimp only;cases qI l with
    | some x =>
     obtain ⟨w,i⟩:=x;exact Ir 5 8 _ [w,i] _
    | none => exact IU (.refl _) (.nil 3)
theorem ztq (l:List aq):FV.le (.agg (DU l)) (.agg (Ms l).fv):=by
 unfold DU Ms;cases Cw l with
 | some x =>
  obtain ⟨r,k,i⟩:=x;exact Ir 6 (9+r) _ [k,i] []
 | none => exact Ir 6 0 0 [] []
theorem zvM (l:List aq):FV.le (CF l) (.bd [.agg (qi l).fv,.int .i64 (Ub l)]):=by
 unfold CF qi;by_cases h:Ub l≠0
 ·rw [if_pos h,if_pos h];exact .bd (.cons (IU (.nil 1) (.nil 3)) (.cons (.refl _) .nil))
 ·rw [if_neg h,if_neg h,show Ub l=0 by simpa using h];exact .bd (.cons (zrd l) (.cons (.refl _) .nil))
theorem zwt (l:List aq):FV.le (CI l) (.bd [.agg (CJ l).fv,.int .i64 (Ub l)]):=by
 unfold CI CJ;by_cases h:Ub l≠0
 ·rw [if_pos h,if_pos h];exact .bd (.cons (IU (.nil 1) (.nil 3)) (.cons (.refl _) .nil))
 ·rw [if_neg h,if_neg h,show Ub l=0 by simpa using h];exact .bd (.cons (ztq l) (.cons (.refl _) .nil))
theorem zgR (l:List aq) (hl:l.length≤14) (aP:∀ o∈l,Ue o):xA Tryz.prog 7 [.list 8 (l.map aq.fv)] .sh (.bd [.agg (qi l).fv,.int .i64 (Ub l)]):=xA.le (zmG l hl aP) (zvM l) rfl
theorem zj9 (l:List aq) (hl:l.length≤1000) (aP:∀ o∈l,Ue o):xA Tryz.prog 28 [.list 8 (l.map aq.fv)] .sh (.bd [.agg (CJ l).fv,.int .i64 (Ub l)]):=xA.le (zjx l hl aP) (zwt l) rfl
theorem zul (x:dF):D5 Tryz.prog 71 x.fv x.fv true:=by
 refine ⟨by kernel_rfl,fun w=>?_⟩;obtain ⟨a1,a2,a3⟩:=x;show (Op.equalIn 10000 71 (.agg #[.int .i64 (a1:Int),.int .i64 (a2:Int),.int .i64 (a3:Int)]) (.agg #[.int .i64 (a1:Int),.int .i64 (a2:Int),.int .i64 (a3:Int)])).run Tryz.prog w=_;have hS:Tryz.prog.underlying 71=some (.struct (Tryz.prog.fieldsOf 71)):=by kernel_rfl
 have hp:Tryz.prog.stoodInHeld 71=false:=by kernel_rfl
 rw [show (10000:Nat)=9999+1 from rfl,run_equalIn_agg w 9999 71 _ _ hS hp];simp only [Program.fieldsOf,Tryz.underlying71];simp [go_sem]
theorem zhe (V:tU) (h1:V.ord.length≤1000) (h2:V.ed.length≤1000):xA Tryz.prog 29 [.agg V.fv,.agg V.fv] .fr (.bool true):=by
 have kX:=zkn V.ord V.ord za za;rw [decide_eq_true rfl] at kX;obtain ⟨ck,cls,arg,O,E⟩:=V;dsimp only at h1 h2 kX;obtain ⟨n,hn⟩:∃ n,E.length=n:=⟨_,rfl⟩
 obtain ⟨X,hX⟩:∃ X,O.map zJ=X:=⟨_,rfl⟩
 show xA _ _ [.agg [.int .i64 ck,.int .i64 cls,.int .i64 arg,.list 1 (O.map zJ),.list 3 (E.map dF.fv)],.agg [.int .i64 ck,.int .i64 cls,.int .i64 arg,.list 1 (O.map zJ),.list 3 (E.map dF.fv)]] _ _;rw [hX] at kX ⊢;refine ym 67 Tryz.func29 Tryz.ntmps29 rfl ?_;change FW _ _ _ ⟨[(0,.agg [.int .i64 ck,.int .i64 cls,.int .i64 arg,.list 1 X,.list 3 (E.map dF.fv)]),(1,.agg [.int .i64 ck,.int .i64 cls,.int .i64 arg,.list 1 X,.list 3 (E.map dF.fv)])],[]⟩;refine zb ?_;refine yR (fun h=>absurd rfl (of_decide_eq_true h)) (fun h=>?_);refine zb ?_;refine yR (fun h=>absurd rfl (of_decide_eq_true h)) (fun h=>?_);refine zb ?_;refine yR (fun h=>absurd rfl (of_decide_eq_true h)) (fun h=>?_);refine zb ?_;refine yP kX (by repeat (first|exact zH.nil|refine zH.cons zB ?_)) rfl ⟨_,_,rfl,rfl,rfl⟩ ?_;refine zb ?_;refine FW.cond rfl (fun h=>absurd rfl (of_decide_eq_true h)) (fun h=>?_);clear h;refine zb ?_;refine FW.loop (fun j:Nat=>⟨[(2,.ptr 102 0 0 0),(3,.ptr 103 0 0 0),(5,.int .i64 j)],[(102,⟨0,.own,31,5,[[.int .i64 ck,.int .i64 cls,.int .i64 arg,.list 1 X,.list 3 (E.map dF.fv)]]⟩),(103,⟨0,.own,31,5,[[.int .i64 ck,.int .i64 cls,.int .i64 arg,.list 1 X,.list 3 (E.map dF.fv)]]⟩)]⟩) (fun j=>j≤n) (fun j=>n - j) 0 (zp _) (ar.cv [⟨102,some 2,0+1,⟨0,.own,31,5,[[.int .i64 ck,.int .i64 cls,.int .i64 arg,.list 1 X,.list 3 (E.map dF.fv)]]⟩⟩,⟨103,some 3,0+1,⟨0,.own,31,5,[[.int .i64 ck,.int .i64 cls,.int .i64 arg,.list 1 X,.list 3 (E.map dF.fv)]]⟩⟩] zh zf) ?_;intro j hj;refine zb ?_;refine FW.cond rfl (fun h=>?_) (fun h=>?_)
 ·have aA:j<E.length:=by simpa using h
  refine Zf ?_;refine zxw rfl rfl rfl rfl (zul (nth E j)) rfl rfl ?_;refine yH ?_;refine ⟨by kernel_rfl,?_⟩;refine zb ?_;exact ⟨j+1,by omega,by omega,(ar.cv [⟨102,some 102,0,⟨0,.own,31,5,[[.int .i64 ck,.int .i64 cls,.int .i64 arg,.list 1 X,.list 3 (E.map dF.fv)]]⟩⟩,⟨103,some 103,0,⟨0,.own,31,5,[[.int .i64 ck,.int .i64 cls,.int .i64 arg,.list 1 X,.list 3 (E.map dF.fv)]]⟩⟩] zh zf)⟩
 ·refine zb ?_;exact FW.ret ⟨.inl rfl,yt rfl rfl rfl rfl⟩
def Cz:List aq:=[⟨0,1,3,1,0,0,1,true⟩,⟨0,0,3,0,0,2,3,true⟩]
theorem zxV:qi Cz=⟨5,8,3,[0,1],[(0,1,1)]⟩:=by decide +kernel
theorem zxU:CJ Cz=⟨6,9,3,[0,1],[]⟩:=by decide +kernel
theorem zxa:Ub Cz=0:=by decide +kernel
theorem zsz:∀ o∈Cz,Ue o:=fun o ho=>by simp only [Cz,zA,Ky,or_false] at ho;rcases ho with rfl|rfl <;> (unfold Ue bU;decide)
theorem zlH:xA Tryz.prog 8 [] .fr (.bool true):=by
 have hA:=zgR Cz zd zsz;have hB:=zj9 Cz zd zsz;rw [zxV,zxa] at hA;rw [zxU,zxa] at hB;change xA _ _ [.list 8 [aq.fv ⟨0,1,3,1,0,0,1,true⟩,aq.fv ⟨0,0,3,0,0,2,3,true⟩]] _ (.bd [.agg [.int .i64 5,.int .i64 8,.int .i64 3,.list 1 ([0,1].map zJ),.list 3 [[.int .i64 0,.int .i64 1,.int .i64 1]]],.int .i64 0]) at hA;change xA _ _ [.list 8 [aq.fv ⟨0,1,3,1,0,0,1,true⟩,aq.fv ⟨0,0,3,0,0,2,3,true⟩]] _ (.bd [.agg [.int .i64 6,.int .i64 9,.int .i64 3,.list 1 ([0,1].map zJ),.list 3 []],.int .i64 0]) at hB;have s1:=zhe ⟨5,8,3,[0,1],[(0,1,1)]⟩ zd zd;have s2:=zhe ⟨6,9,3,[0,1],[]⟩ zd zd;change xA _ _ [.agg [.int .i64 5,.int .i64 8,.int .i64 3,.list 1 ([0,1].map zJ),.list 3 [[.int .i64 0,.int .i64 1,.int .i64 1]]],.agg [.int .i64 5,.int .i64 8,.int .i64 3,.list 1 ([0,1].map zJ),.list 3 [[.int .i64 0,.int .i64 1,.int .i64 1]]]] _ _ at s1;change xA _ _ [.agg [.int .i64 6,.int .i64 9,.int .i64 3,.list 1 ([0,1].map zJ),.list 3 []],.agg [.int .i64 6,.int .i64 9,.int .i64 3,.list 1 ([0,1].map zJ),.list 3 []]] _ _ at s2;refine ym 45 Tryz.func8 Tryz.ntmps8 rfl ?_;change FW _ _ _ ⟨[],[]⟩;refine zb ?_;refine Vy (es:=[aq.fv ⟨0,1,3,1,0,0,1,true⟩,aq.fv ⟨0,0,3,0,0,2,3,true⟩]) rfl rfl rfl (by refine Xi.agg rfl rfl rfl ?_;refine Xi.agg rfl rfl rfl ?_;exact Xi.nil) rfl rfl rfl rfl rfl rfl ?_;refine zt.le ?_ (ar.share 10 rfl rfl (by rfl));refine zb ?_;refine Zg hA (by repeat (first|exact zH.nil|refine zH.cons zB ?_)) rfl rfl ?_;refine zb ?_;refine Zg hB (by repeat (first|exact zH.nil|refine zH.cons zB ?_)) rfl rfl ?_;refine zb ?_;refine Vy (es:=[0,1].map zJ) rfl rfl rfl (by refine Xi.int rfl rfl ?_;refine Xi.int rfl rfl ?_;exact Xi.nil) rfl rfl rfl rfl rfl rfl ?_;refine zt.le ?_ (ar.share 21 rfl rfl rfl);refine zl6 rfl rfl rfl rfl ?_;refine VI.one rfl rfl rfl rfl rfl ?_;refine VI.one rfl rfl rfl rfl rfl ?_;refine VI.one rfl rfl rfl rfl rfl ?_;refine VI.nil ?_;refine Vy (es:=[[.int .i64 0,.int .i64 1,.int .i64 1]]) rfl rfl rfl (by refine Xi.agg rfl rfl rfl ?_;exact Xi.nil) rfl rfl rfl rfl rfl rfl ?_;refine zt.le ?_ (ar.share 23 rfl rfl rfl);refine zb ?_;refine Vy (es:=[0,1].map zJ) rfl rfl rfl (by refine Xi.int rfl rfl ?_;refine Xi.int rfl rfl ?_;exact Xi.nil) rfl rfl rfl rfl rfl rfl ?_;refine zt.le ?_ (ar.share 26 rfl rfl rfl);refine zb ?_;refine yP s1 (by repeat (first|exact zH.nil|refine zH.cons zB ?_)) rfl ⟨_,_,rfl,rfl,rfl⟩ ?_;refine zb ?_;refine yP s2 HY rfl ⟨_,_,rfl,rfl,rfl⟩ ?_;refine zb ?_;exact FW.ret ⟨.inl rfl,yt rfl rfl rfl rfl⟩
def B8 (i:Nat) (s:List aq×List Int):List aq×List Int:=
 if (nth s.1 i).k=1 then (s.1,s.2.set (nth s.1 i).key.toNat (nth s.1 i).arg)
 else if (nth s.1 i).done=true then (s.1.set i { nth s.1 i with res:=nth s.2 (nth s.1 i).key.toNat },s.2) else s
def qG (h:List aq):Nat→List aq×List Int
 | 0 => (h, [0, 0, 0])
 | k+1 => B8 k (qG h k)
def ZC (h:List aq):List aq:=(qG h h.length).1
structure zwS (h:List aq) (k:Nat) (s:List aq×List Int):Prop where
 len:s.1.length=h.length
 now:s.2.length=3
 sm:∀ x∈s.2,0≤x∧x≤40
 bL:∀ j,k≤j→nth s.1 j=nth h j
 same:∀ j,nth s.1 j={ nth h j with res:=(nth s.1 j).res }
 res:∀ j,(nth s.1 j).res=(nth h j).res∨(0≤(nth s.1 j).res∧(nth s.1 j).res≤40)
theorem Q2 [Inhabited α] {l:List α} {v:α} (hi:i<l.length):nth (l.set i v) j=if j=i then v else nth l j:=by
 by_cases h:j=i
 ·subst h;rw [if_pos rfl,ak (by simpa using hi)];simp
 ·rw [if_neg h];unfold nth;rw [yz,yz,Rt (fun e=>h e.symm)]
theorem WQ {h:List aq} (hs:∀ o∈h,j9 o):∀ k,k≤h.length→zwS h k (qG h k)
 | 0, _ => ⟨rfl, rfl, fun x hx => by have hx:x ∈ [0, 0, 0] := hx; simp at hx; omega, fun _ _ => rfl, fun _ => rfl, fun _ => .inl rfl⟩
 | k + 1,hk=>by
  have ih:=WQ hs k za;show zwS h (k+1) (B8 k (qG h k));generalize qG h k=s at ih;have gU:nth s.1 k=nth h k:=ih.bL k (zg _);have dw:=hs _ (zu (l:=h) (i:=k) za);have eR:k<s.1.length:=by rw [ih.len];omega
  unfold B8;rw [gU];unfold j9 at dw;obtain ⟨s1,s2,s3,s4⟩:=dw;split
  ·refine ⟨ih.len,by simpa using ih.now,fun x hx=>?_,fun j hj=>ih.bL j za,ih.same,ih.res⟩;rcases PL hx with h1|h1
   ·exact ih.sm x h1
   ·rw [h1];exact s3
  ·split
   ·have Oe:=ih.sm _ (zu (l:=s.2) (i:=(nth h k).key.toNat) (by rw [ih.now];omega));refine ⟨by simpa using ih.len,ih.now,ih.sm,fun j hj=>?_,fun j=>?_,fun j=>?_⟩
    ·rw [Q2 eR,if_neg za];exact ih.bL j za
    ·dsimp only;rw [Q2 eR];by_cases hj:j=k
     ·rw [if_pos hj,hj]
     ·rw [if_neg hj];exact ih.same j
    ·dsimp only;rw [Q2 eR];by_cases hj:j=k
     ·rw [if_pos hj];exact .inr Oe
     ·rw [if_neg hj];exact ih.res j
   ·exact ⟨ih.len,ih.now,ih.sm,fun j hj=>ih.bL j za,ih.same,ih.res⟩
theorem WP {h:List aq} (hs:∀ o∈h,j9 o):(ZC h).length=h.length:=(WQ hs _ (zg _)).len
theorem Vm {h:List aq} (hs:∀ o∈h,j9 o) (j:Nat):nth (ZC h) j={ nth h j with res:=(nth (ZC h) j).res }:=(WQ hs _ (zg _)).same j
theorem zrk {h:List aq} (hs:∀ o∈h,j9 o):∀ o∈ZC h,j9 o:=fun o ho=>by
 obtain ⟨j,hj,rfl⟩:=zU ho;rw [← ak hj];have hI:=WQ hs _ (zg _);have cN:j<h.length:=by rw [WP hs] at hj;exact hj
 have h1:=hs _ (zu cN);have h2:=Vm hs j;have h3:=hI.res j;change (nth (ZC h) j).res=_∨_ at h3;rw [h2];unfold j9 at h1 ⊢;refine ⟨h1.1,h1.2.1,h1.2.2.1,?_⟩;dsimp only;rcases h3 with h3|h3
 ·rw [h3];exact h1.2.2.2
 ·exact h3
theorem zrj {h:List aq} (hs:∀ o∈h,j9 o) (hi:∀ o∈h,Ue o):∀ o∈ZC h,Ue o:=fun o ho=>by
 have dw:=zrk hs o ho;obtain ⟨j,hj,rfl⟩:=zU ho;rw [← ak hj] at dw ⊢;have cN:j<h.length:=by rw [WP hs] at hj;exact hj
 have h1:=hi _ (zu cN);have h2:=Vm hs j;rw [h2] at dw ⊢;unfold j9 at dw;unfold Ue at h1 ⊢;dsimp only at dw ⊢;unfold bU at *;omega
theorem zrm (l:List Int) (hl:∀ x∈l,bU x) (hlen:l.length≤9223372036854775807):xA Tryz.prog 5 [.list 1 (l.map zJ)] (.ow 43 8) (.list 8 ((ZC (zV l 12)).map aq.fv)):=by
 have hR:=Z2 l 12 hl hlen (by unfold bU;omega);obtain ⟨_,aP,dw,hn⟩:=XQ l (az:=12) za za;generalize zV l 12=H at *;have hI:=fun k hk=>WQ dw k hk;unfold ZC;have aO:∀ k,qG H (k+1)=B8 k (qG H k):=fun _=>rfl;have h0:qG H 0=(H,[0,0,0]):=rfl;generalize qG H=S at *;refine ym 51 Tryz.func5 Tryz.ntmps5 rfl ?_;change FW _ _ _ ⟨[(0,.list 1 (l.map zJ))],[]⟩;refine zb ?_;refine Yr hR (by repeat (first|exact zH.nil|refine zH.cons zB ?_)) (zj _) rfl rfl rfl ?_;refine zb ?_;obtain ⟨n,na⟩:∃ n,H.length=n:=⟨_,rfl⟩
 refine FW.loop (fun k:Nat=>⟨[(0,.list 1 (l.map zJ)),(3,.own 100 0 0 n),(4,.own 101 0 0 3),(5,.int .i64 k)],[(100,⟨0,.own,43,8,(S k).1.map aq.fv⟩),(101,⟨0,.own,3,1,(S k).2.map zJ⟩)]⟩) (fun k=>k≤n) (fun k=>n - k) 0 (zp _) ?_ ?_
 ·rw [h0,na];exact (ar.cv [⟨100,some 7,0+1,⟨0,.own,43,8,H.map aq.fv⟩⟩,⟨101,some 8,0+1,⟨0,.own,3,1,[0,0,0].map zJ⟩⟩] zh zf)
 intro k hk;have Jm:=hI k za;have hIn:=aO k;unfold B8 at hIn;obtain ⟨⟨T,N⟩,hT⟩:∃ T,S k=T:=⟨_,rfl⟩
 rw [hT] at Jm hIn ⊢;dsimp only at hIn ⊢;have E9:T.length=n:=by rw [← na];exact Jm.len
 have Tc:N.length=3:=Jm.now;have hold:=Jm.bL;dsimp only at hold;refine zb ?_;refine FW.cond rfl (fun h=>?_) (fun h=>?_)
 ·have aA:k<n:=by simpa using h
  clear h;have hkT:k<T.length:=by omega
  have hs:=dw _ (zu (l:=H) (i:=k) za);rw [← hold k (zg _)] at hs;obtain ⟨o,ho⟩:∃ o,nth T k=o:=⟨_,rfl⟩
  rw [ho] at hs hIn;obtain ⟨⟨s1,s2⟩,⟨s3,s4⟩,⟨s5,s6⟩,s7,s8⟩:=hs;obtain ⟨y,hy⟩:∃ y:Nat,o.key=y:=⟨o.key.toNat,by omega⟩
  have hyN:y<N.length:=by omega
  have JY:y<3:=by omega
  rw [show o.key.toNat=y by omega] at hIn;refine zb ?_;rw [ho];skip;refine FW.cond rfl (fun h=>?_) (fun h=>?_)
  ·have h:o.k=1:=by simpa using h
   rw [if_pos h] at hIn;refine Zf ?_;refine zR.ai (yL rfl rfl (by rw [ho];exact hy) rfl rfl rfl zd rfl JY) rfl rfl ?_;refine yH ?_;refine ⟨by kernel_rfl,?_⟩;rw [ho];refine zb ?_;refine ⟨k+1,by omega,by omega,?_⟩;rw [hIn];dsimp only;rw [xc];exact (ar.cv [⟨100,some 100,0,⟨0,.own,43,8,T.map aq.fv⟩⟩,⟨101,some 101,0,⟨0,.own,3,1,(N.map zJ).set y [.int .i64 o.arg]⟩⟩] zh zf)
  ·have h:¬ o.k=1:=by simpa using h
   rw [if_neg h] at hIn;refine zb ?_;rw [ho];skip;refine FW.cond rfl (fun h=>?_) (fun h=>?_)
   ·rw [if_pos h] at hIn;refine zb ?_;refine zt.ai (yL rfl rfl (by rw [ho];exact hy) rfl rfl rfl zd rfl JY) rfl rfl ?_;refine zb ?_;rw [ho];refine ⟨k+1,by omega,by omega,?_⟩;rw [hIn];dsimp only;rw [xc];exact (ar.cv [⟨100,some 100,0,⟨0,.own,43,8,(T.map aq.fv).set k (aq.fv { o with res:=nth N y })⟩⟩,⟨101,some 101,0,⟨0,.own,3,1,N.map zJ⟩⟩] zh zf)
   ·rw [if_neg (by rw [h];decide)] at hIn;refine zb ?_;refine ⟨k+1,by omega,by omega,?_⟩;rw [hIn];exact (ar.cv [⟨100,some 100,0,⟨0,.own,43,8,T.map aq.fv⟩⟩,⟨101,some 101,0,⟨0,.own,3,1,N.map zJ⟩⟩] zh zf)
 ·have hk:k=n:=by simp at h;omega
  rw [hk] at hT;rw [na,hT];refine zb ?_;exact FW.ret ⟨.inl rfl,tF rfl rfl rfl zM zd rfl (fun e he=>by obtain ⟨x,_,rfl⟩:=zi.1 he;rfl)⟩
end
theorem zvZ {out:List aq} {opn:List Int} (hg:sA ev) (hl:ev.length≤40) (h:nk ev ev.length out opn) (hc:Zj out=0) (MJ:out.length≤300) (hw:∀ o∈out,iH o=true):lT out∧∀ o∈out,0≤o.p∧o.p<4:=by
 refine ⟨⟨MJ,hw,Zw.2 fun i j hi hj dc=>?_⟩,fun o ho=>?_⟩
 ·rw [← ak hi,← ak hj];refine ⟨h.mono i j dc hj,fun hd=>⟨fun e=>?_,fun CZ e=>h.one i j dc hj hd CZ e.symm⟩,fun e=>⟨(h.seq i j dc hj e).1,Int.le_of_lt (h.seq i j dc hj e).2⟩⟩;obtain ⟨r,r1,r2,r3,_⟩:=h.ret i hi hd;obtain ⟨c,c1,c2,c3,_⟩:=h.call j hj;have:r=c:=by omega
  subst this;rw [r3] at c3;cases c3
 ·obtain ⟨j,hj,rfl⟩:=zU ho;rw [← ak hj];obtain ⟨c,_,c2,_,c4⟩:=h.call j hj;rw [c4];exact (hg c c2).1
theorem zt6 (h:Zj l=0):l.length≤300∧∀ o∈l,iH o=true:=by
 unfold Zj at h;split at h
 ·cases h
 ·refine ⟨by omega,fun o ho=>?_⟩;have key:∀ (n k:Nat),xj l k n=0→∀ j,k≤j→j<k+n→kg l j=0:=by
   intro n
   induction n with
   | zero => intro k _ j h1 h2; omega
   | succ n ih=>
    intro k hk j h1 h2;unfold xj at hk;split at hk
    ·rename_i he;rcases Vf h1 with e|e
     ·rw [← e];exact he
     ·exact ih (k+1) hk j e za
    ·rename_i he;exact absurd hk he
  obtain ⟨j,hj,rfl⟩:=zU ho;have:=key l.length 0 h j (zp _) za;rw [← ak hj];unfold kg at this;by_cases hw:iH (nth l j)=false
  ·rw [if_pos hw] at this;cases this
  ·simpa using hw
section
open Go.RowKit
/-! ### histories by pairs -/
theorem RA (l:List Int) (h0:0≤az) (h1:az≤20):lT (zV l az):=by
 have hf:=XQ l h0 h1;have hw:=zt6 hf.1;have hg:=Pr l az;have hl:=PB l az;have inv:=KX (uZ l) hg hl _ (zg _);exact (zvZ hg hl inv.ok hf.1 hw.1 hw.2).1
theorem lT.G4 (h:lT l) (hl:l'.length=l.length) (hf:∀ j,j<l.length→(nth l' j).p=(nth l j).p∧(nth l' j).k=(nth l j).k∧(nth l' j).call=(nth l j).call∧(nth l' j).ret=(nth l j).ret∧(nth l' j).done=(nth l j).done∧((nth l j).done=false→(nth l' j).res=(nth l j).res)):lT l':=by
 refine ⟨by rw [hl];exact h.len,fun o ho=>?_,Zw.2 fun i j hi hj dc=>?_⟩
 ·obtain ⟨j,hj,rfl⟩:=zU ho;rw [← ak hj];obtain ⟨h1,h2,h3,h4,h5,h6⟩:=hf j za;have hw:=h.at (i:=j) za;simp only [iH,zx,xB,decide_eq_true_eq] at hw ⊢;rw [h1,h2,h3,h4,h5];refine ⟨hw.1,?_⟩;cases hd:(nth l j).done with
  | true => exact .inl rfl
  | false => right; rw [h6 hd]; rw [hd] at hw; simpa using hw.2
 ·rw [← ak hi,← ak hj];have hp:=h.pair dc za;obtain ⟨a1,_,a3,a4,a5,_⟩:=hf i za;obtain ⟨b1,_,b3,b4,b5,_⟩:=hf j za;unfold SC at hp ⊢;rw [a1,a3,a4,a5,b1,b3,b4,b5];exact hp
/-! ### the domain -/
structure CA (s:XY):Prop where
 kd:∀ j,j<s.out.length→(nth s.out j).k=0∨((nth s.out j).k=1∧1≤(nth s.out j).arg∧(nth s.out j).arg≤s.ws.length)
 up:∀ i j,i<j→j<s.out.length→(nth s.out i).k=1→(nth s.out j).k=1→(nth s.out i).arg<(nth s.out j).arg
theorem CA.add {s:XY} (h:CA s) {o:aq} {ws:List Int} {opn cK:List Int} (hw:s.ws.length≤ws.length) (hk:o.k=0∨(o.k=1∧o.arg=(s.ws.length:Int)+1∧s.ws.length+1≤ws.length)):CA ⟨s.out++[o],ws,opn,cK⟩:=by
 have bL:∀ i,i<s.out.length→nth (s.out++[o]) i=nth s.out i:=fun i hi=>xQ hi;have new:nth (s.out++[o]) s.out.length=o:=ZA;refine ⟨fun j hj=>?_,fun i j dc hj h1 h2=>?_⟩
 ·dsimp only at hj ⊢;rw [zN,Wb] at hj;by_cases e:j<s.out.length
  ·rw [bL j e];have:=h.kd j e;omega
  ·obtain rfl:j=s.out.length:=by omega
   rw [new];omega
 ·dsimp only at hj h1 h2 ⊢;rw [zN,Wb] at hj;rw [bL i za] at h1 ⊢;have hi:=h.kd i za;by_cases e:j<s.out.length
  ·rw [bL j e] at h2 ⊢;exact h.up i j dc e h1 h2
  ·obtain rfl:j=s.out.length:=by omega
   rw [new] at h2 ⊢;omega
theorem CA.put {s:XY} (h:CA s) {o:aq} (h1:o.k=(nth s.out j).k) (h2:o.arg=(nth s.out j).arg):CA { s with out:=s.out.set j o }:=by
 have key:∀ i,i<s.out.length→(nth (s.out.set j o) i).k=(nth s.out i).k∧(nth (s.out.set j o) i).arg=(nth s.out i).arg:=fun i hi=>by
  by_cases e:j=i
  ·subst e;rw [yf hi];exact ⟨h1,h2⟩
  ·rw [yn e];exact ⟨rfl,rfl⟩
 refine ⟨fun i hi=>?_,fun a b eX hb h3 h4=>?_⟩
 ·dsimp only at hi ⊢;rw [yA] at hi;rw [(key i hi).1,(key i hi).2];exact h.kd i hi
 ·dsimp only at hb h3 h4 ⊢;rw [yA] at hb;rw [(key a za).1] at h3;rw [(key b hb).1] at h4;rw [(key a za).2,(key b hb).2];exact h.up a b eX hb h3 h4
theorem zlZ (ev:List cY) (fresh:Bool):∀ k,CA (XP ev fresh k)
 | 0 => ⟨fun j hj => absurd hj (ZH _), fun i j _ hj => absurd hj (ZH _)⟩
 | k+1=>by
  have ih:=zlZ ev fresh k;have hs:XP ev fresh (k+1)=wZ ev fresh k (XP ev fresh k):=rfl;rw [hs];generalize XP ev fresh k=s at ih;unfold wZ;split
  ·unfold Ik;split
   ·exact ih.add zc (.inr ⟨rfl,rfl,by simp⟩)
   ·exact ih.add (zg _) (.inl rfl)
  ·unfold L5;exact ih.put rfl rfl
theorem HZ (l:List Int) (az:Int):yE (zV l az):=fun i hi=>by
 have h:=zlZ (Yy l az) (uZ l) (Yy l az).length;change i<(XP (Yy l az) (uZ l) (Yy l az).length).out.length at hi;unfold okW;show _∨_;unfold zV;generalize XP (Yy l az) (uZ l) (Yy l az).length=s at *;rcases h.kd i hi with h1|h1
 ·exact .inl h1
 ·refine .inr ⟨h1.1,by omega,fun j hj=>?_⟩;cases hb:gm (nth s.out i).key (nth s.out i).arg (nth s.out j) with
  | false => rfl
  | true =>
   obtain ⟨w1,_,w3⟩:=ZM.1 hb;have:=h.up j i hj hi w1 h1.1;omega
theorem zmW (h:yE l) (hl:l'.length=l.length) (hf:∀ j,j<l.length→(nth l' j).k=(nth l j).k∧(nth l' j).key=(nth l j).key∧(nth l' j).arg=(nth l j).arg):yE l':=fun i hi=>by
 have jU : i<l.length:=by omega
 obtain ⟨h1,h2,h3⟩:=hf i jU;unfold okW;rw [h1,h2,h3];rcases h i jU with h4|⟨h4,h5,h6⟩
 ·exact .inl h4
 ·refine .inr ⟨h4,h5,fun j hj=>?_⟩;have h7:=h6 j hj;obtain ⟨g1,g2,g3⟩:=hf j za;unfold gm at h7 ⊢;rw [g1,g2,g3];exact h7
theorem zs3 (l:List Int) (h0:0≤az) (h1:az≤20):Ub (zV l az)=0:=by
 unfold Ub;rw [(XQ l h0 h1).1,if_neg zd,if_pos (HZ l az)]
/-! ### the consistent ones -/
def w9 (l:List aq) (k:Nat) (key v:Int):Prop:=(v=0∧∀ j,j<k→(nth l j).k=1→(nth l j).key≠key)∨∃ w,w<k∧(nth l w).k=1∧(nth l w).key=key∧(nth l w).arg=v∧∀ j,w<j→j<k→(nth l j).k=1→(nth l j).key≠key
def vg (l:List aq):Prop:=∀ i,i<l.length→(nth l i).k=0→(nth l i).done=true→w9 l i (nth l i).key (nth l i).res
theorem zlC {k:Nat} {key v:Int} (hf:∀ j,(nth l' j).k=(nth l j).k∧(nth l' j).key=(nth l j).key∧(nth l' j).arg=(nth l j).arg) (h:w9 l k key v):w9 l' k key v:=by
 unfold w9 at h ⊢;rcases h with ⟨h1,h2⟩|⟨w,h1,h2,h3,h4,h5⟩
 ·refine .inl ⟨h1,fun j hj hk=>?_⟩;rw [(hf j).1] at hk;rw [(hf j).2.1];exact h2 j hj hk
 ·refine .inr ⟨w,h1,by rw [(hf w).1];exact h2,by rw [(hf w).2.1];exact h3,by rw [(hf w).2.2];exact h4,fun j hj gT hk=>?_⟩;rw [(hf j).1] at hk;rw [(hf j).2.1];exact h5 j hj gT hk
structure zwT (h:List aq) (k:Nat) (s:List aq×List Int):Prop where
 nw:∀ c:Nat,c<3→w9 h k c (nth s.2 c)
 rd:∀ i,i<k→(nth h i).k=0→(nth h i).done=true→w9 h i (nth h i).key (nth s.1 i).res
 un:∀ j,(nth h j).done=false→(nth s.1 j).res=(nth h j).res
theorem Pn {h:List aq} (hs:∀ o∈h,j9 o) (hd:yE h):∀ k,k≤h.length→zwT h k (qG h k)
 | 0,_=>⟨fun c hc=>.inl ⟨by
   have h3:c=0∨c=1∨c=2:=by omega
   rcases h3 with rfl|rfl|rfl <;> rfl,fun j hj=>absurd hj (ZH _)⟩,fun i hi=>absurd hi (ZH _),fun _ _=>rfl⟩
 | k + 1,hk=>by
  have ih:=Pn hs hd k za;have hI:=WQ hs k za;show zwT h (k+1) (B8 k (qG h k));generalize qG h k=s at ih hI;have gU:nth s.1 k=nth h k:=hI.bL k (zg _);have dw:=hs _ (zu (l:=h) (i:=k) za);have eR:k<s.1.length:=by rw [hI.len];omega
  unfold j9 at dw;obtain ⟨y,hy⟩:∃ y:Nat,(nth h k).key=y:=⟨(nth h k).key.toNat,by omega⟩
  have hyt:(nth h k).key.toNat=y:=by omega
  have JY:y<3:=by omega
  have wE:∀ c:Nat,c<3→¬ ((nth h k).k=1∧(nth h k).key=c)→w9 h (k+1) c (nth s.2 c):=fun c hc hn=>by
   rcases ih.nw c hc with ⟨h1,h2⟩|⟨w,h1,h2,h3,h4,h5⟩
   ·refine .inl ⟨h1,fun j hj kS e=>?_⟩;by_cases tq:j=k
    ·rw [tq] at kS e;exact hn ⟨kS,e⟩
    ·exact h2 j za kS e
   ·refine .inr ⟨w,by omega,h2,h3,h4,fun j hj gT kS e=>?_⟩;by_cases tq:j=k
    ·rw [tq] at kS e;exact hn ⟨kS,e⟩
    ·exact h5 j hj za kS e
  unfold B8;rw [gU,hyt];split
  ·rename_i h1;refine ⟨fun c hc=>?_,fun i hi iD hid=>?_,ih.un⟩
   ·dsimp only;by_cases AU:c=y
    ·subst AU;rw [yf (by rw [hI.now];exact hc)];exact .inr ⟨k,by omega,h1,hy,rfl,fun j hj gT=>by omega⟩
    ·rw [yn (fun e=>AU e.symm)];exact wE c hc fun e=>AU za
   ·by_cases dS:i=k
    ·rw [dS] at iD;omega
    ·exact ih.rd i za iD hid
  ·rename_i h1;have TR:∀ c:Nat,c<3→w9 h (k+1) c (nth s.2 c):=fun c hc=>wE c hc fun e=>h1 e.1;split
   ·rename_i h2;refine ⟨TR,fun i hi iD hid=>?_,fun j hj=>?_⟩
    ·dsimp only;by_cases dS:i=k
     ·subst dS;rw [yf eR,hy];exact ih.nw y JY
     ·rw [yn (fun e=>dS e.symm)];exact ih.rd i za iD hid
    ·dsimp only;by_cases tq:j=k
     ·rw [tq] at hj;rw [hj] at h2;cases h2
     ·rw [yn (fun e=>tq e.symm)];exact ih.un j hj
   ·rename_i h2;refine ⟨TR,fun i hi iD hid=>?_,ih.un⟩;by_cases dS:i=k
    ·rw [dS] at hid;exact absurd hid h2
    ·exact ih.rd i za iD hid
theorem zmM {h:List aq} (hs:∀ o∈h,j9 o) (hd:yE h):vg (ZC h):=fun i hi h0 fq=>by
 have hJ:=Pn hs hd _ (zg h.length);have bI:=Vm hs;have hf:∀ j,(nth (ZC h) j).k=(nth h j).k∧(nth (ZC h) j).key=(nth h j).key∧(nth (ZC h) j).arg=(nth h j).arg:=fun j=>by
  have:=bI j;rw [this];exact ⟨rfl,rfl,rfl⟩
 have jU : i<h.length:=by rw [WP hs] at hi;exact hi
 have e2:(nth (ZC h) i).done=(nth h i).done:=by have:=bI i;rw [this]
 rw [(hf i).1] at h0;rw [e2] at fq;rw [(hf i).2.1];exact zlC hf (hJ.rd i jU h0 fq)
theorem zif {h:List aq} (hs:∀ o∈h,j9 o) (hd:yE h) (hw:lT h):lT (ZC h):=
 hw.G4 (WP hs) fun j hj=>by
  have h1:=Vm hs j;have h2:=(Pn hs hd _ (zg h.length)).un j;refine ⟨by rw [h1],by rw [h1],by rw [h1],by rw [h1],by rw [h1],fun fq=>h2 fq⟩
theorem zie {h:List aq} (hs:∀ o∈h,j9 o) (hd:yE h):yE (ZC h):=
 zmW hd (WP hs) fun j hj=>by
  have h1:=Vm hs j;refine ⟨by rw [h1],by rw [h1],by rw [h1]⟩
theorem zop {E:List (Nat×Nat)} (hE:∀ e∈E,e.1<e.2) {t:Nat}:∀ {k x:Nat},fg E t (k+1) x=true→x<t
 | 0, x, h => by
  obtain ⟨y,h1,h2⟩:=WN.1 h;rw [Dv] at h2;subst h2;exact hE _ h1
 | k+1, x, h => by
  obtain ⟨y,h1,h2⟩:=WN.1 h;have h3:=zop hE h2;have h4:=hE _ h1;dsimp only at h4;omega
theorem Ra (hE:∀ e∈gL l,e.1<e.2) {x t:Nat} (h:eP l x t≠[]):x<t:=by
 rw [R7] at h;cases hd:qq (gL l) t l.length x with
 | none => exact absurd (zsS.2 hd) h
 | some k => exact zop hE (HN hd).2.1
theorem WU {L:List α} (h:(!L.isEmpty)=true):L≠[]:=by
 rintro rfl;cases h
theorem UF (hd:yE l) (hL:vg l) (hi:i<l.length) (h0:(nth l i).k=0) (fq:(nth l i).done=true) (hr:(nth l i).res≠0) :
  ∃ w,w<i∧YF l i=some w∧(nth l w).k=1∧(nth l w).key=(nth l i).key∧(nth l w).arg=(nth l i).res∧∀ j,w<j→j<i→(nth l j).k=1→(nth l j).key≠(nth l i).key:=by
 rcases hL i hi h0 fq with ⟨h1,_⟩|⟨w,h1,h2,h3,h4,h5⟩
 ·exact absurd h1 hr
 ·refine ⟨w,h1,?_,h2,h3,h4,h5⟩;have e8:yC l w=true:=by
   unfold yC;rw [h2,h3,h4];simp only [decide_true,yN,xB];right;rw [UY];exact ⟨i,hi,ZW.2 ⟨h0,fq,rfl,rfl⟩⟩
  unfold YF;rw [if_neg (by simp [h0,hr])];exact zn4 hd za (ZM.2 ⟨h2,h3,h4⟩) e8
theorem Ly (hd:yE l) (hL:vg l):∀ e∈gL l,e.1<e.2:=fun ⟨a,b⟩ he=>by
 obtain ⟨ha,hb,h⟩:=LN.1 he;rcases h with h|h
 ·exact (Kh h).2.1
 ·obtain ⟨_,h1,h2,_,_⟩:=H9 h;obtain ⟨uu,dZ⟩:=Zm.1 hb;obtain ⟨w,w1,w2,_⟩:=UF hd hL uu h1 (xk h1 dZ) h2;rw [h] at w2;injection w2 with w2
  show a<b;omega
theorem zsr (hd:yE l) (hL:vg l):qM l=none:=by
 unfold qM;rw [xq];intro i hi;obtain ⟨h1,h2⟩:=Zm.1 hi;unfold tG;by_cases h0:(nth l i).k=0
 ·by_cases hr:(nth l i).res≠0
  ·obtain ⟨w,_,w2,_⟩:=UF hd hL h1 h0 (xk h0 h2) hr;rw [w2];simp
  ·simp at hr;simp [hr]
 ·simp [h0]
theorem zuB (hd:yE l) (hL:vg l):iz l=[]:=zh5 (uY l) id (Ly hd hL)
theorem zsp (hd:yE l) (hL:vg l):qL l=none:=by
 unfold qL;rw [B0];intro i hi;obtain ⟨h1,h2⟩:=Zm.1 hi;unfold VV;cases hf:YF l i with
 | none => rfl
 | some w1 =>
  rw [Yb,HG,xq];intro w2 _ hb;unfold tQ at hb;simp only [zx,decide_eq_true_eq] at hb;obtain ⟨⟨⟨⟨b1,b2⟩,b3⟩,b4⟩,b5⟩:=hb;have g1:=Ra (Ly hd hL) (WU b4);have g2:=Ra (Ly hd hL) (WU b5);obtain ⟨_,k1,k2,_,_⟩:=H9 hf;obtain ⟨w,Hn,Ph,w3,w4,w5,w6⟩:=UF hd hL h1 k1 (xk k1 h2) k2;rw [hf] at Ph;injection Ph with Ph
  exact w6 w2 za g2 b1 b2
theorem zso (hd:yE l) (hL:vg l):qI l=none:=by
 unfold qI;rw [B0];intro i hi;obtain ⟨h1,h2⟩:=Zm.1 hi;unfold VU;split
 ·rfl
 ·rename_i hc;simp only [not_or,Lf] at hc;rw [HG,xq];intro w _ hb;unfold tN at hb;simp only [zx,decide_eq_true_eq] at hb;obtain ⟨⟨b1,b2⟩,b3⟩:=hb;have g1:=Ra (Ly hd hL) (WU b3);rcases hL i h1 hc.1 (xk hc.1 h2) with ⟨_,h4⟩|⟨w',q1,q2,q3,q4,_⟩
  ·exact h4 w g1 b1 b2
  ·exact hd.arg za q2 (q4.trans hc.2)
theorem zsq (hd:yE l) (hL:vg l):Cw l=none:=by
 unfold Cw;rw [B0];intro i hi;obtain ⟨JF,iE⟩:=Zm.1 hi;have key:(nth l i).k=0→∀ r k,k∈yB l l.length→mX l i r k=false:=fun h0 r k hk=>by
  obtain ⟨dI,gl⟩:=Zm.1 hk;cases hb:mX l i r k with
  | false => rfl
  | true=>
   exfalso;unfold mX at hb;simp only [zx,decide_eq_true_eq] at hb;obtain ⟨⟨⟨⟨b1,b2⟩,b3⟩,_⟩,b5⟩:=hb;have vP:=xk h0 iE;unfold Co at b5;by_cases hv:(nth l i).res=0
   ·rw [if_pos hv] at b5;have b5:=of_decide_eq_true b5;rcases hL i JF h0 vP with ⟨_,h4⟩|⟨w',q1,q2,q3,q4,_⟩
    ·by_cases vX:(nth l k).k=1
     ·exact h4 k b1 vX b3
     ·rw [if_neg vX] at b5;have tu:(nth l k).k=0:=(hd.kind dI).resolve_right vX;obtain ⟨w,w1,_,w3,w4,_⟩:=UF hd hL dI tu (xk tu gl) b5;exact h4 w za w3 (w4.trans b3)
    ·exact hd.arg za q2 (q4.trans hv)
   ·rw [if_neg hv] at b5;obtain ⟨w,w1,w2,w3,w4,w5,w6⟩:=UF hd hL JF h0 vP hv;have ha:nD l (nth l i).key (nth l i).res=some w:=by
     unfold YF at w2;rwa [if_neg (by simp [h0,hv])] at w2
    rw [ha] at b5;cases hc:nD l (nth l i).key (if (nth l k).k=1 then (nth l k).arg else (nth l k).res) with
    | none => rw [hc] at b5; cases b5
    | some b=>
     rw [hc] at b5;simp only [zx,decide_eq_true_eq] at b5;obtain ⟨c1,c2,c3⟩:=VP hc;obtain ⟨d1,d2,d3⟩:=ZM.1 c2;have Tu:b≤k:=by
      by_cases vX:(nth l k).k=1
      ·rw [if_pos vX] at d3;exact Ur (hd.uniq c1 dI d1 vX (d2.trans b3.symm) d3)
      ·rw [if_neg vX] at d3;have tu:(nth l k).k=0:=(hd.kind dI).resolve_right vX;have aN:(nth l k).res≠0:=fun e=>hd.arg c1 d1 (d3.trans e);obtain ⟨w',q1,_,q3,q4,q5,_⟩:=UF hd hL dI tu (xk tu gl) aN;have:=hd.uniq c1 za d1 q3 (by rw [d2,q4,b3]) (by rw [d3,q5]);omega
     exact w6 b b5.2 za d1 d2
 unfold UM;by_cases h0:(nth l i).k≠0
 ·rw [if_pos h0]
 ·have h0:(nth l i).k=0:=by simpa using h0
  rw [if_neg (by simp [h0])];have hn:∀ r,(yB l l.length).find? (mX l i r)=none:=fun r=>by
   rw [xq];intro k hk;rw [key h0 r k hk];decide
  rw [hn 0,hn 1];rfl
theorem zuA (hd:yE l) (hL:vg l) (he:Ub l=0):(qi l).cls=0∧(CJ l).cls=0:=by
 unfold qi CJ;rw [if_neg (by simp [he]),if_neg (by simp [he])];unfold IL Ms;rw [zsr hd hL,zsp hd hL,zso hd hL,zsq hd hL];dsimp only;rw [if_neg (by simp [zuB hd hL])];exact ⟨rfl,rfl⟩
theorem zrl (l:List Int):Ub (ZC (zV l 12))=0∧(qi (ZC (zV l 12))).cls=0∧(CJ (ZC (zV l 12))).cls=0:=by
 obtain ⟨_,_,dw,_⟩:=XQ l (az:=12) za za;have hd:=HZ l 12;have hD:=zie dw hd;have he:Ub (ZC (zV l 12))=0:=by
  unfold Ub;rw [(zif dw hd (RA l za za)).check,if_neg zd,if_pos hD]
 exact ⟨he,zuA hD (zmM dw hd) he⟩
structure CL (l:List aq) (cF:Nat→Nat):Prop where
 ses:∀ i k,i<k→k<l.length→yC l i=true→yC l k=true→(nth l i).p=(nth l k).p→cF i<cF k
 zero:∀ r,r<l.length→(nth l r).k=0→(nth l r).done=true→(nth l r).res=0→∀ w,jI l (nth l r).key w→cF r<cF w
 read:∀ r,r<l.length→(nth l r).k=0→(nth l r).done=true→(nth l r).res≠0→∃ w,jI l (nth l r).key w∧(nth l w).arg=(nth l r).res∧cF w<cF r∧∀ w',jI l (nth l r).key w'→w'≠w→cF w'<cF w∨cF r<cF w'
theorem zrs (h:(nth l i).done=true):yC l i=true:=by unfold yC;rw [h];rfl
theorem vy.rk (D:yE l) (W:lT l) (h:vy l o):CL l (nA o):=by
 have T:=h.cF D fun i hi=>zo5 (W.at hi);have aN:∀ r w,r<l.length→(nth l r).k=0→(nth l r).done=true→jI l (nth l r).key w→nA o r≠nA o w:=fun r w hr h0 hd hw e=>by
  have:=h.inj hr hw.1 (zrs hd) hw.2.2.2 e;subst this;have:=hw.2.2.1;omega
 refine ⟨fun i k dS hk hi gl hp=>?_,fun r hr h0 hd hz w hw=>?_,fun r hr h0 hd hz=>?_⟩
 ·refine T.rt i k za hk hi gl ?_;obtain ⟨_,h2,h3⟩:=W.pair dS hk;obtain ⟨h4,h5⟩:=h3 hp;have h6:=(h2 h4).1;unfold gN;rw [h4,yN];exact decide_eq_true za
 ·rcases T.rd r hr h0 hd with ⟨_,h2⟩|⟨v,h1,h2,_⟩
  ·have:=h2 w hw;have:=aN r w hr h0 hd hw;omega
  ·exact absurd (h2.trans hz) (D.arg h1.1 h1.2.2.1)
 ·rcases T.rd r hr h0 hd with ⟨h1,_⟩|⟨v,h1,h2,h3,h4⟩
  ·exact absurd h1 hz
  ·have:=aN r v hr h0 hd h1;exact ⟨v,h1,h2,by omega,h4⟩
section
variable {l:List aq} {cF:Nat→Nat}
theorem R8 (hd:yE l) (R:CL l cF) (hi:i<l.length) (h0:(nth l i).k=0) (fq:(nth l i).done=true) (hr:(nth l i).res≠0) :
  ∃ w,YF l i=some w∧cF w<cF i∧∀ w',jI l (nth l i).key w'→w'≠w→cF w'<cF w∨cF i<cF w':=by
 obtain ⟨w,h1,h2,h3,h4⟩:=R.read i hi h0 fq hr;refine ⟨w,?_,h3,h4⟩;unfold YF;rw [if_neg (by simp [h0,hr])];exact zn4 hd h1.1 (ZM.2 ⟨h1.2.2.1,h1.2.1,h2⟩) h1.2.2.2
theorem L6 (hd:yE l) (R:CL l cF):∀ e∈gL l,cF e.1<cF e.2:=fun ⟨a,b⟩ he=>by
 obtain ⟨ha,hb,h⟩:=LN.1 he;obtain ⟨m8,ha2⟩:=Zm.1 ha;obtain ⟨uu,dZ⟩:=Zm.1 hb;rcases h with h|h
 ·obtain ⟨_,h2,h3⟩:=Kh h;exact R.ses a b h2 uu ha2 dZ h3.symm
 ·obtain ⟨_,h1,h2,_,_⟩:=H9 h;obtain ⟨w,w1,w2,_⟩:=R8 hd R uu h1 (xk h1 dZ) h2;rw [h] at w1;injection w1 with w1
  subst w1;exact w2
theorem zs7 {E:List (Nat×Nat)} (hE:∀ e∈E,cF e.1<cF e.2) {t:Nat}:∀ {k x:Nat},fg E t (k+1) x=true→cF x<cF t
 | 0, x, h => by
  obtain ⟨y,h1,h2⟩:=WN.1 h;rw [Dv] at h2;subst h2;exact hE _ h1
 | k+1, x, h => by
  obtain ⟨y,h1,h2⟩:=WN.1 h;have h3:=zs7 hE h2;have h4:=hE _ h1;dsimp only at h4;omega
theorem R9 (hE:∀ e∈gL l,cF e.1<cF e.2) {x t:Nat} (h:eP l x t≠[]):cF x<cF t:=by
 rw [R7] at h;cases hd:qq (gL l) t l.length x with
 | none => exact absurd (zsS.2 hd) h
 | some k => exact zs7 hE (HN hd).2.1
theorem zwl (hd:yE l) (R:CL l cF):qM l=none:=by
 unfold qM;rw [xq];intro i hi;obtain ⟨h1,h2⟩:=Zm.1 hi;unfold tG;by_cases h0:(nth l i).k=0
 ·by_cases hr:(nth l i).res≠0
  ·obtain ⟨w,w2,_⟩:=R8 hd R h1 h0 (xk h0 h2) hr;rw [w2];simp
  ·simp at hr;simp [hr]
 ·simp [h0]
theorem zwk (hd:yE l) (R:CL l cF):qL l=none:=by
 unfold qL;rw [B0];intro i hi;obtain ⟨h1,h2⟩:=Zm.1 hi;unfold VV;cases hf:YF l i with
 | none => rfl
 | some w1 =>
  rw [Yb,HG,xq];intro w2 ew hb;obtain ⟨hw3,hw4⟩:=Zm.1 ew;unfold tQ at hb;simp only [zx,decide_eq_true_eq] at hb;obtain ⟨⟨⟨⟨b1,b2⟩,b3⟩,b4⟩,b5⟩:=hb;have g1:=R9 (L6 hd R) (WU b4);have g2:=R9 (L6 hd R) (WU b5);obtain ⟨_,k1,k2,_,_⟩:=H9 hf;obtain ⟨w,Hn,_,w3⟩:=R8 hd R h1 k1 (xk k1 h2) k2;rw [hf] at Hn;injection Hn with Hn
  subst Hn;have:=w3 w2 ⟨hw3,b2,b1,hw4⟩ b3;omega
theorem zwj (hd:yE l) (R:CL l cF):qI l=none:=by
 unfold qI;rw [B0];intro i hi;obtain ⟨h1,h2⟩:=Zm.1 hi;unfold VU;split
 ·rfl
 ·rename_i hc;simp only [not_or,Lf] at hc;rw [HG,xq];intro w hw hb;obtain ⟨eK,ew⟩:=Zm.1 hw;unfold tN at hb;simp only [zx,decide_eq_true_eq] at hb;obtain ⟨⟨b1,b2⟩,b3⟩:=hb;have g1:=R9 (L6 hd R) (WU b3);have:=R.zero i h1 hc.1 (xk hc.1 h2) hc.2 w ⟨eK,b2,b1,ew⟩;omega
end
theorem zv6 (D:yE l) (W:lT l) (aP:∀ p∈l,Ue p) (h:(qU l).cls=0):(qi l).cls=0:=by
 obtain ⟨o,ho⟩:=(zlF (zkP W.check D) aP).1 h;have R:=ho.rk D W;have he:Ub l=0:=by
  unfold Ub;rw [W.check,if_neg zd,if_pos D]
 unfold qi;rw [if_neg (by simp [he])];unfold IL;rw [zwl D R,zwk D R,zwj D R];dsimp only;rw [if_neg (by rw [show iz l=[] from zh5 (uY l) (nA o) (L6 D R)];simp)]
def DT (l:List aq):List FV:=[.list 8 (l.map aq.fv)]
theorem zdV (l:List Int) (hl:∀ x∈l,bU x) (hlen:l.length≤9223372036854775807):xA Tryz.prog 3 [.list 1 (l.map zJ)] .fr (.bool true):=by
 have pF:=zlH;have hC:=Z2 l 10 hl hlen (by unfold bU;omega);have hD:=zrm l hl hlen;obtain ⟨rows,bO⟩:∃ rows:List (List aq),rows=[zV l 10,ZC (zV l 12)]:=⟨_,rfl⟩
 have Di:rows.length=2:=by rw [bO];rfl
 have aj:∀ i,i<2→(nth rows i).length≤12∧(∀ o∈nth rows i,Ue o)∧qd (nth rows i)=0∧Ub (nth rows i)=0∧((qU (nth rows i)).cls=0→(qi (nth rows i)).cls=0):=fun i hi=>by
  rw [bO];rcases i with _|_|i
  ·show (zV l 10).length≤12∧(∀ o∈zV l 10,Ue o)∧qd (zV l 10)=0∧Ub (zV l 10)=0∧((qU (zV l 10)).cls=0→(qi (zV l 10)).cls=0)
   obtain ⟨h1,h2,_,h3⟩:=XQ l (az:=10) za za;have hd:=HZ l 10;refine ⟨by omega,h2,by unfold qd;rw [if_neg (by rw [h1];simp),if_pos hd],zs3 l za za,zv6 hd (RA l za za) h2⟩
  ·show (ZC (zV l 12)).length≤12∧(∀ o∈ZC (zV l 12),Ue o)∧qd (ZC (zV l 12))=0∧Ub (ZC (zV l 12))=0∧((qU (ZC (zV l 12))).cls=0→(qi (ZC (zV l 12))).cls=0)
   obtain ⟨_,h2,dw,h3⟩:=XQ l (az:=12) za za;obtain ⟨g1,g2,_⟩:=zrl l;have hd:=zie dw (HZ l 12);have hw:=(zif dw (HZ l 12) (RA l za za)).check;have hlen:=WP dw;refine ⟨by omega,zrj dw h2,by unfold qd;rw [if_neg (by rw [hw];simp),if_pos hd],g1,fun _=>g2⟩
  ·omega
 refine ym 51 Tryz.func3 Tryz.ntmps3 rfl ?_;change FW _ _ _ ⟨[(0,.list 1 (l.map zJ))],[]⟩;refine zb ?_;refine Yr hC (by repeat (first|exact zH.nil|refine zH.cons zB ?_)) (zj _) rfl rfl rfl ?_;refine zt.le ?_ (ar.share 10 rfl rfl (by rw [zj]));refine zb ?_;refine Yr hD (by repeat (first|exact zH.nil|refine zH.cons zB ?_)) (zj _) rfl rfl rfl ?_;refine zt.le ?_ (ar.share 12 rfl rfl (by rw [zj]));skip;refine Vy (es:=[DT (zV l 10),DT (ZC (zV l 12))]) rfl rfl rfl (by refine Xi.list rfl rfl ?_;refine Xi.list rfl rfl ?_;exact Xi.nil) rfl rfl rfl rfl rfl rfl ?_;refine zt.le ?_ (ar.share 13 rfl rfl rfl);refine zb ?_;rw [show [DT (zV l 10),DT (ZC (zV l 12))]=rows.map DT by rw [bO];rfl];refine FW.loop (fun i:Nat=>⟨[(3,.list 1 (rows.map DT)),(4,.int .i64 i)],[]⟩) (fun i=>i≤2) (fun i=>2 - i) 0 zd (ar.cv [] xu zf) ?_;intro i hi;refine zb ?_;refine FW.cond rfl (fun h=>?_) (fun h=>?_)
 ·have aA:i<2:=by simp at h;omega
  clear h;have hrn2:i<rows.length:=by omega
  obtain ⟨q1,q2,q3,q4,q5⟩:=aj i aA;obtain ⟨X,hX⟩:∃ X,nth rows i=X:=⟨_,rfl⟩
  rw [hX] at q1 q2 q3 q4 q5;have h1:=zjW X za q2;have h2:=zgR X za q2;have hF:Mr X=(qU X).fv:=by unfold Mr;rw [q3,if_neg zd]
  rw [hF,q3] at h1;rw [q4] at h2;obtain ⟨V,hV⟩:∃ V,qU X=V:=⟨_,rfl⟩
  obtain ⟨W,hW⟩:∃ W,qi X=W:=⟨_,rfl⟩
  rw [hV] at h1 q5;rw [hW] at h2 q5;obtain ⟨v1,v2,v3,v4⟩:=V;obtain ⟨w0,w1,w2,w3,w4⟩:=W;unfold Mq.fv at h1;unfold tU.fv at h2;dsimp only at h1 h2 q5;refine zb ?_;rw [hX];refine Zg h1 (by repeat (first|exact zH.nil|refine zH.cons zB ?_)) rfl rfl ?_;refine zb ?_;rw [hX];refine Zg h2 (by repeat (first|exact zH.nil|refine zH.cons zB ?_)) rfl rfl ?_;refine zb ?_;refine yR (fun h=>?_) (fun h=>?_)
  ·rw [q5 (by simpa using h)];refine zb ?_;exact ⟨i+1,by omega,by omega,(ar.cv [] xu zf)⟩
  ·refine zb ?_;exact ⟨i+1,by omega,by omega,(ar.cv [] xu zf)⟩
 ·refine zb ?_;refine yP pF (by repeat (first|exact zH.nil)) rfl rfl ?_;refine zb ?_;exact FW.ret ⟨.inl rfl,yt rfl rfl rfl rfl⟩
end
end Go.Proofs.YtphidhljdcledaaGreat
