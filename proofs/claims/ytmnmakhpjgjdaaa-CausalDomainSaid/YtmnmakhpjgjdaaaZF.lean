/-
  Some texts as one: Regs, RegsWalk, Swaps, SwapsWalk, Queues, QueuesWalk, Bent20, BentWalk, Lives20, FmHist.
-/
import Derived.Test.YtmnmakhpjgjdaaaZE
import Derived.Deep.RegionHeld3
import Derived.Deep.DrawnRows
import Derived.Deep.DeepCutAuto
import Derived.Test.YtmnmakhpjgjdaaaZD
namespace Go.Proofs.Ytmnmakhpjgjdaaa
set_option linter.unusedVariables false
set_option maxHeartbeats 16000000
section
open Go.RowKit
attribute [local go_sem ↓] Go.wp_at_zero Go.wp_at_succ
structure ZC where
 out:List OpV
 ws:List Int
 opn:List Int
 lat:List Int
 deriving Inhabited
def zaU:ZC:=⟨[],[],[0,0,0,0],[0,0,0]⟩
def znZ (ev:List EvV) (i:Nat) (e:EvV) (s:ZC):ZC:=
 if e.n % 2=1 then ⟨s.out++[⟨e.p,1,1+e.n / 2 % 2,(s.ws.length:Int)+1,0,i,ev.length,false⟩],s.ws++[1+e.n / 2 % 2],s.opn.set e.p.toNat s.out.length,s.lat.set (1+e.n / 2 % 2).toNat ((s.ws.length:Int)+1)⟩
 else ⟨s.out++[⟨e.p,0,1+e.n / 2 % 2,0,0,i,ev.length,false⟩],s.ws,s.opn.set e.p.toNat s.out.length,s.lat⟩
def zoY (fresh:Bool) (i:Nat) (e:EvV) (s:ZC):ZC:=
 { s with out:=s.out.set (nth s.opn e.p.toNat).toNat { nth s.out (nth s.opn e.p.toNat).toNat with done:=true,ret:=i,res:=if (nth s.out (nth s.opn e.p.toNat).toNat).k=0 then xN s.ws (nth s.out (nth s.opn e.p.toNat).toNat).key e.n (nth s.lat (nth s.out (nth s.opn e.p.toNat).toNat).key.toNat) fresh else (nth s.out (nth s.opn e.p.toNat).toNat).res } }
def zn0 (ev:List EvV) (fresh:Bool) (i:Nat) (s:ZC):ZC:=
 if (nth ev i).inv then znZ ev i (nth ev i) s else zoY fresh i (nth ev i) s
def zpp (ev:List EvV) (fresh:Bool) (k:Nat):ZC:=Ue (zn0 ev fresh) zaU k
def zaS (l:List Int):Bool:=decide (zcd l 100 % 2=1)
def zlv (l:List Int) (most:Int):List OpV:=(zpp (xV l most) (zaS l) (xV l most).length).out
def zkb (o:OpV):Prop:=(0≤o.k∧o.k≤4)∧(1≤o.key∧o.key≤2)∧(0≤o.arg∧o.arg≤40)∧(0≤o.res∧o.res≤40)
structure zov (ev:List EvV) (k:Nat) (s:ZC):Prop where
 ok:Xv ev k s.out s.opn
 sm:∀ o∈s.out,zkb o
 lat:s.lat.length=3
 latx:∀ x∈s.lat,0≤x∧x≤40
 ws:s.ws.length≤k
 wsx:∀ x∈s.ws,1≤x∧x≤2
theorem Wj {α:Type} {l:List α} {i:Nat} {v x:α} (h:x∈l.set i v):x∈l∨x=v:=List.mem_or_eq_of_mem_set h
theorem zfy {w:World} {base:Nat} {t:TypeId} {g n c:Nat} {out:List OpV} (h:w.ownsRow base t 8 (.slice (some ⟨g,0,none⟩) n c) n (flat OpV.vals out)) {j:Nat} (hj:j<out.length) (o:OpV) :
  ((((((((w.setCell ⟨g,j * 8,none⟩ (.int .i64 o.p)).setCell ⟨g,j * 8+1,none⟩ (.int .i64 o.k)).setCell ⟨g,j * 8+2,none⟩ (.int .i64 o.key)).setCell ⟨g,j * 8+3,none⟩ (.int .i64 o.arg)).setCell ⟨g,j * 8+4,none⟩ (.int .i64 o.res)).setCell ⟨g,j * 8+5,none⟩ (.int .i64 o.call)).setCell ⟨g,j * 8+6,none⟩ (.int .i64 o.ret)).setCell ⟨g,j * 8+7,none⟩ (.bool o.done)).ownsRow base t 8 (.slice (some ⟨g,0,none⟩) n c) n (flat OpV.vals (out.set j o)):=by
 have s0:=(h.stored (j * 8+0) (.int .i64 o.p)).1;have s1:=(s0.stored (j * 8+1) (.int .i64 o.k)).1;have s2:=(s1.stored (j * 8+2) (.int .i64 o.key)).1;have s3:=(s2.stored (j * 8+3) (.int .i64 o.arg)).1;have s4:=(s3.stored (j * 8+4) (.int .i64 o.res)).1;have s5:=(s4.stored (j * 8+5) (.int .i64 o.call)).1;have s6:=(s5.stored (j * 8+6) (.int .i64 o.ret)).1;have s7:=(s6.stored (j * 8+7) (.bool o.done)).1;have step:∀ (l:List OpV) (m:Nat) (u:Value) (a:OpV),l.length=out.length→m<8→a.vals=(nth l j).vals.set m u→(flat OpV.vals l).set (j * 8+m) u=flat OpV.vals (l.set j a):=fun l m u a hl hm ha=>
  zhC OpV.wide l j m u a za hm (by rw [← nth_eq za];exact ha)
 have q0:=step out 0 (.int .i64 o.p) { nth out j with p:=o.p } rfl za rfl;have q1:=step _ 1 (.int .i64 o.k) { nth out j with p:=o.p,k:=o.k } (by simp:(out.set j { nth out j with p:=o.p }).length=out.length) za (by rw [zM hj];rfl);have q2:=step _ 2 (.int .i64 o.key) { nth out j with p:=o.p,k:=o.k,key:=o.key } (by simp:(out.set j { nth out j with p:=o.p,k:=o.k }).length=out.length) za (by rw [zM hj];rfl);have q3:=step _ 3 (.int .i64 o.arg) { nth out j with p:=o.p,k:=o.k,key:=o.key,arg:=o.arg } (by simp:(out.set j { nth out j with p:=o.p,k:=o.k,key:=o.key }).length=out.length) za (by rw [zM hj];rfl);have q4:=step _ 4 (.int .i64 o.res) { nth out j with p:=o.p,k:=o.k,key:=o.key,arg:=o.arg,res:=o.res } (by simp:(out.set j { nth out j with p:=o.p,k:=o.k,key:=o.key,arg:=o.arg }).length=out.length) za (by rw [zM hj];rfl);have q5:=step _ 5 (.int .i64 o.call) { nth out j with p:=o.p,k:=o.k,key:=o.key,arg:=o.arg,res:=o.res,call:=o.call } (by simp:(out.set j { nth out j with p:=o.p,k:=o.k,key:=o.key,arg:=o.arg,res:=o.res }).length=out.length) za (by rw [zM hj];rfl);have q6:=step _ 6 (.int .i64 o.ret) { nth out j with p:=o.p,k:=o.k,key:=o.key,arg:=o.arg,res:=o.res,call:=o.call,ret:=o.ret } (by simp:(out.set j { nth out j with p:=o.p,k:=o.k,key:=o.key,arg:=o.arg,res:=o.res,call:=o.call }).length=out.length) za (by rw [zM hj];rfl);have q7:=step _ 7 (.bool o.done) o (by simp:(out.set j { nth out j with p:=o.p,k:=o.k,key:=o.key,arg:=o.arg,res:=o.res,call:=o.call,ret:=o.ret }).length=out.length) za (by rw [zM hj];rfl);rw [q0,q1,List.set_set,q2,List.set_set,q3,List.set_set,q4,List.set_set,q5,List.set_set,q6,List.set_set,q7,List.set_set] at s7;simpa using s7
structure GWg (wa w:World) (out:List OpV) (ws opn lat:List Int) (A1:Option Addr) (c1:Nat) (A2:Option Addr) (c2:Nat):Prop where
 out:w.ownsRow (wa.heap.size+2) 43 8 (.slice A1 out.length c1) out.length (flat OpV.vals out)
 ws:w.ownsRow (wa.heap.size+2) 3 1 (.slice A2 ws.length c2) ws.length (flat XD ws)
 opn:Blk w wa.heap.size 3 (flat XD opn)
 lat:Blk w (wa.heap.size+1) 3 (flat XD lat)
 bel:Below wa.heap.size wa w
 sz:wa.heap.size+2≤w.heap.size
section
variable {wa w w' : World} {out:List OpV} {ws opn lat:List Int} {A1 A2:Option Addr} {c1 c2:Nat}
theorem GWg.below (h:GWg wa w out ws opn lat A1 c1 A2 c2) (hb:Below w.heap.size w w'):GWg wa w' out ws opn lat A1 c1 A2 c2:=
 ⟨XH h.out hb,XH h.ws hb,h.opn.below hb (by have:=h.sz;omega),h.lat.below hb (by have:=h.sz;omega),h.bel.trans (hb.mono (by have:=h.sz;omega)),by have:=h.sz;have:=hb.size;omega⟩
theorem GWg.setLat (h:GWg wa w out ws opn lat A1 c1 A2 c2) (i:Nat) (x:Int):GWg wa (w.setCell ⟨wa.heap.size+1,i,none⟩ (.int .i64 x)) out ws opn (lat.set i x) A1 c1 A2 c2:=
 ⟨Ys h.out zc _,Ys h.ws zc _,h.opn.far zc _,h.lat.setInt i x,h.bel.setCell zc _,by simpa using h.sz⟩
theorem GWg.setOpn (h:GWg wa w out ws opn lat A1 c1 A2 c2) (i:Nat) (x:Int):GWg wa (w.setCell ⟨wa.heap.size,i,none⟩ (.int .i64 x)) out ws (opn.set i x) lat A1 c1 A2 c2:=
 ⟨Ys h.out zc _,Ys h.ws zc _,h.opn.setInt i x,h.lat.far zc _,h.bel.setCell zc _,by simpa using h.sz⟩
theorem GWg.appWs (h:GWg wa w out ws opn lat A1 c1 A2 c2) {x:Int} {A3:Option Addr} {c3:Nat} (ho:w'.ownsRow (wa.heap.size+2) 3 1 (.slice A3 (ws.length+1) c3) (ws.length+1) (flat XD ws++[.int .i64 x])) (hb:Below (wa.heap.size+2) w w') (hg:w.grownBy w' (Value.slice A2 ws.length c2).ownBlock) :
  GWg wa w' out (ws++[x]) opn lat A1 c1 A3 c3:=
 ⟨h.out.kept hg (xJ h.out h.ws zg),by rw [List.length_append,xj,Ym];simpa [XD] using ho,h.opn.below hb za,h.lat.below hb za,h.bel.trans (hb.mono za),by have:=h.sz;have:=hb.size;omega⟩
theorem GWg.appOut (h:GWg wa w out ws opn lat A1 c1 A2 c2) {o:OpV} {A3:Option Addr} {c3:Nat} (ho:w'.ownsRow (wa.heap.size+2) 43 8 (.slice A3 (out.length+1) c3) (out.length+1) (flat OpV.vals out++o.vals)) (hb:Below (wa.heap.size+2) w w') (hg:w.grownBy w' (Value.slice A1 out.length c1).ownBlock) :
  GWg wa w' (out++[o]) ws opn lat A3 c3 A2 c2:=
 ⟨by rw [List.length_append,xj,Ym];simpa using ho,h.ws.kept hg (xJ h.ws h.out zg),h.opn.below hb za,h.lat.below hb za,h.bel.trans (hb.mono za),by have:=h.sz;have:=hb.size;omega⟩
theorem GWg.putOp {g:Nat} (h:GWg wa w out ws opn lat (some ⟨g,0,none⟩) c1 A2 c2) (hgb:wa.heap.size+2≤g) {j:Nat} (hj:j<out.length) (o:OpV) :
  GWg wa ((((((((w.setCell ⟨g,j * 8,none⟩ (.int .i64 o.p)).setCell ⟨g,j * 8+1,none⟩ (.int .i64 o.k)).setCell ⟨g,j * 8+2,none⟩ (.int .i64 o.key)).setCell ⟨g,j * 8+3,none⟩ (.int .i64 o.arg)).setCell ⟨g,j * 8+4,none⟩ (.int .i64 o.res)).setCell ⟨g,j * 8+5,none⟩ (.int .i64 o.call)).setCell ⟨g,j * 8+6,none⟩ (.int .i64 o.ret)).setCell ⟨g,j * 8+7,none⟩ (.bool o.done)) (out.set j o) ws opn lat (some ⟨g,0,none⟩) c1 A2 c2:=by
 have hne:some g≠(Value.slice A2 ws.length c2).ownBlock:=by
  rcases xJ h.ws h.out zg with e|e
  ·rw [e];simp
  ·exact fun e2=>e (by rw [← e2];rfl)
 refine ⟨?_,?_,?_,?_,?_,by simpa using h.sz⟩
 ·have:=zfy h.out hj o;rwa [List.length_set]
 ·exact zA (zA (zA (zA (zA (zA (zA (zA h.ws hne _) hne _) hne _) hne _) hne _) hne _) hne _) hne _
 ·have e:wa.heap.size≠g:=by omega
  exact (((((((h.opn.far (p:=⟨g,_,none⟩) e _).far (p:=⟨g,_,none⟩) e _).far (p:=⟨g,_,none⟩) e _).far (p:=⟨g,_,none⟩) e _).far (p:=⟨g,_,none⟩) e _).far (p:=⟨g,_,none⟩) e _).far (p:=⟨g,_,none⟩) e _).far (p:=⟨g,_,none⟩) e _
 ·have e:wa.heap.size+1≠g:=by omega
  exact (((((((h.lat.far (p:=⟨g,_,none⟩) e _).far (p:=⟨g,_,none⟩) e _).far (p:=⟨g,_,none⟩) e _).far (p:=⟨g,_,none⟩) e _).far (p:=⟨g,_,none⟩) e _).far (p:=⟨g,_,none⟩) e _).far (p:=⟨g,_,none⟩) e _).far (p:=⟨g,_,none⟩) e _
 ·have e:wa.heap.size≤g:=by omega
  exact (((((((h.bel.setCell (p:=⟨g,_,none⟩) e _).setCell (p:=⟨g,_,none⟩) e _).setCell (p:=⟨g,_,none⟩) e _).setCell (p:=⟨g,_,none⟩) e _).setCell (p:=⟨g,_,none⟩) e _).setCell (p:=⟨g,_,none⟩) e _).setCell (p:=⟨g,_,none⟩) e _).setCell (p:=⟨g,_,none⟩) e _
theorem GWg.cells {g:Nat} (h:GWg wa w out ws opn lat (some ⟨g,0,none⟩) c1 A2 c2) {j:Nat} (hj:j<out.length) :
  (w.cell? ⟨g,j * 8,none⟩=some (.int .i64 (nth out j).p)∧w.cell? ⟨g,j * 8+1,none⟩=some (.int .i64 (nth out j).k)∧w.cell? ⟨g,j * 8+2,none⟩=some (.int .i64 (nth out j).key)∧w.cell? ⟨g,j * 8+3,none⟩=some (.int .i64 (nth out j).arg)∧
  w.cell? ⟨g,j * 8+4,none⟩=some (.int .i64 (nth out j).res)∧w.cell? ⟨g,j * 8+5,none⟩=some (.int .i64 (nth out j).call)∧w.cell? ⟨g,j * 8+6,none⟩=some (.int .i64 (nth out j).ret)∧w.cell? ⟨g,j * 8+7,none⟩=some (.bool (nth out j).done))∧
  (w.frozen? ⟨g,j * 8,none⟩=false∧w.frozen? ⟨g,j * 8+1,none⟩=false∧w.frozen? ⟨g,j * 8+2,none⟩=false∧w.frozen? ⟨g,j * 8+3,none⟩=false∧w.frozen? ⟨g,j * 8+4,none⟩=false∧w.frozen? ⟨g,j * 8+5,none⟩=false∧w.frozen? ⟨g,j * 8+6,none⟩=false∧w.frozen? ⟨g,j * 8+7,none⟩=false):=by
 have hs:=(Sl.of_own h.out rfl).op' hj;simp only [Nat.zero_add] at hs;exact ⟨hs,h.out.frozenAt _,h.out.frozenAt _,h.out.frozenAt _,h.out.frozenAt _,h.out.frozenAt _,h.out.frozenAt _,h.out.frozenAt _,h.out.frozenAt _⟩
end
end
section
open Go.RowKit
attribute [local go_sem ↓] Go.wp_at_zero Go.wp_at_succ
end
section
open Go.RowKit
attribute [local go_sem ↓] Go.wp_at_zero Go.wp_at_succ
def zib (ev:List EvV) (i:Nat) (e:EvV) (s:ZC):ZC:=
 if 0<e.n % 3 then ⟨s.out++[⟨e.p,2,1+e.n / 2 % 2,(s.ws.length:Int)+1,0,i,ev.length,false⟩],s.ws++[1+e.n / 2 % 2],s.opn.set e.p.toNat s.out.length,s.lat⟩
 else ⟨s.out++[⟨e.p,0,1+e.n / 2 % 2,0,0,i,ev.length,false⟩],s.ws,s.opn.set e.p.toNat s.out.length,s.lat⟩
def zod (fresh:Bool) (i:Nat) (e:EvV) (s:ZC):ZC:=
 { s with out:=s.out.set (nth s.opn e.p.toNat).toNat { nth s.out (nth s.opn e.p.toNat).toNat with done:=true,ret:=i,res:=xN s.ws (nth s.out (nth s.opn e.p.toNat).toNat).key e.n (nth s.lat (nth s.out (nth s.opn e.p.toNat).toNat).key.toNat) fresh }
          lat:=if (nth s.out (nth s.opn e.p.toNat).toNat).k=2 then s.lat.set (nth s.out (nth s.opn e.p.toNat).toNat).key.toNat (nth s.out (nth s.opn e.p.toNat).toNat).arg else s.lat }
def zdg (ev:List EvV) (fresh:Bool) (i:Nat) (s:ZC):ZC:=
 if (nth ev i).inv then zib ev i (nth ev i) s else zod fresh i (nth ev i) s
def zbO (ev:List EvV) (fresh:Bool) (k:Nat):ZC:=Ue (zdg ev fresh) zaU k
def UY (l:List Int) (most:Int):List OpV:=(zbO (xV l most) (zaS l) (xV l most).length).out
theorem zee {ev:List EvV} (fresh:Bool) (hg:Xu ev) (hl:ev.length≤40):∀ k,k≤ev.length→zov ev k (zbO ev fresh k)
 | 0, _ => ⟨Xv.zero ev, fun _ h => by simp [zbO, Ue, zaU] at h, rfl, fun x h => by simp [zbO, Ue, zaU] at h; omega, Nat.zero_le _, fun _ h => by simp [zbO, Ue, zaU] at h⟩
 | k + 1,hk=>by
  have ih:=zee fresh hg hl k za;have hs:zbO ev fresh (k+1)=zdg ev fresh k (zbO ev fresh k):=rfl;rw [hs];generalize zbO ev fresh k=s at ih;obtain ⟨g1,g2,g3⟩:=hg k za;obtain ⟨ok,sm,lat,latx,ws,wsx⟩:=ih;obtain ⟨p,hp⟩:∃ p:Nat,(nth ev k).p=p:=⟨(nth ev k).p.toNat,by omega⟩
  unfold zdg;cases hi:(nth ev k).inv with
  | true=>
   simp only [if_true];unfold zib;have hpn:(nth ev k).p.toNat=p:=by omega
   rw [hpn];split
   ·refine ⟨ok.add hg za hi rfl rfl rfl rfl rfl hp,fun o ho=>?_,lat,latx,by simp;omega,fun x hx=>?_⟩
    ·rcases List.mem_append.1 ho with h|h
     ·exact sm o h
     ·simp only [List.mem_singleton] at h;subst h;unfold zkb;dsimp only;omega
    ·rcases List.mem_append.1 hx with h|h
     ·exact wsx x h
     ·simp only [List.mem_singleton] at h;omega
   ·refine ⟨ok.add hg za hi rfl rfl rfl rfl rfl hp,fun o ho=>?_,lat,latx,by dsimp only;omega,wsx⟩;rcases List.mem_append.1 ho with h|h
    ·exact sm o h
    ·simp only [List.mem_singleton] at h;subst h;unfold zkb;dsimp only;omega
  | false=>
   simp only [Bool.false_eq_true,if_false];unfold zod;have hpn:(nth ev k).p.toNat=p:=by omega
   rw [hpn];obtain ⟨j,j1,j2,j3,j4⟩:=ok.at_ hg za hi hp;have hjn:(nth s.opn p).toNat=j:=by omega
   rw [hjn];have hj:=sm _ (zC j2);refine ⟨ok.put za hi j2 za j4 rfl rfl rfl rfl,fun o ho=>?_,?_,fun x hx=>?_,by dsimp only;omega,wsx⟩
   ·rcases Wj ho with h|h
    ·exact sm o h
    ·subst h;unfold zkb at hj ⊢;dsimp only;refine ⟨hj.1,hj.2.1,hj.2.2.1,?_⟩;have hlx:=latx _ (zC (l:=s.lat) (i:=(nth s.out j).key.toNat) za);have:=ziu s.ws (nth s.out j).key (nth ev k).n (nth s.lat (nth s.out j).key.toNat) fresh za;omega
   ·dsimp only;split
    ·simpa using lat
    ·exact lat
   ·dsimp only at hx;split at hx
    ·rcases Wj hx with h|h
     ·exact latx x h
     ·rw [h];exact hj.2.2.1
    ·exact latx x hx
end
section
open Go.RowKit
attribute [local go_sem ↓] Go.wp_at_zero Go.wp_at_succ
set_option maxRecDepth 100000 in
theorem zl4 (A:Option Addr) (c:Nat) (l:List Int) (most:Int) (w:World) (h1:Sl XD w w.heap.size A l) (hl:∀ x∈l,I64 x) (hlen:l.length≤9223372036854775807) (hmost:I64 most) :
  Calls Try.prog 16 #[.slice A l.length c,.int .i64 most] w fun e w'=>∃ A1 c1,e=.returned (.slice A1 (UY l most).length c1)∧
   w'.ownsRow w.heap.size 43 8 (.slice A1 (UY l most).length c1) (UY l most).length (flat OpV.vals (UY l most))∧Below w.heap.size w w':=by
 have hmk4:∀ w,(Instr.makeSlice 22 (.int .i64 4) (.int .i64 4)).run Try.prog w=.ok (.slice (some ⟨w.heap.size,0,none⟩) 4 4) (w.alloc (.cells #[.int .i64 0,.int .i64 0,.int .i64 0,.int .i64 0] 3)):=fun _=>by kernel_rfl
 have hmk3:∀ w,(Instr.makeSlice 22 (.int .i64 3) (.int .i64 3)).run Try.prog w=.ok (.slice (some ⟨w.heap.size,0,none⟩) 3 3) (w.alloc (.cells #[.int .i64 0,.int .i64 0,.int .i64 0] 3)):=fun _=>by kernel_rfl
 obtain ⟨ev,hev⟩:∃ ev,xV l most=ev:=⟨_,rfl⟩
 obtain ⟨fr,hfr⟩:∃ fr,zaS l=fr:=⟨_,rfl⟩
 have hreg:UY l most=(zbO ev fr ev.length).out:=by rw [UY,hev,hfr]
 rw [hreg];have hgood:=Xd l most;have hevl:=Wd l most;rw [hev] at hgood hevl;have hpk:=zmQ l (most:=100) za;obtain ⟨pk,hpk2⟩:∃ pk,zcd l 100=pk:=⟨_,rfl⟩
 rw [hpk2] at hpk;obtain ⟨hpk0,hpk1⟩:=hpk;have hfrv:(pk % 2 == 1)=fr:=by rw [← hfr,zaS,hpk2];rw [Bool.eq_iff_iff];simp
 have Hgood:=Lib.hid hgood;clear hgood hfr hreg
 go_enter Try.func16,Try.ntmps16
 go_upto_region 4 with (go_at_call 24;refine (zcx _ _ _ _ _ h1 hl hlen hmost).mono ?_;rintro e wa ⟨Ae,ce,rfl,hoe,hba⟩;rw [hev] at hoe ⊢)
 have hse:=Sl.of_own hoe rfl;have h1a:=h1.below hba;have hsza:=hba.size
 go_wp2_with (go_at_call 25;refine (zle _ _ _ _ _ (((h1a.more hsza).keep fun p hp=>by rw [World.cell?_alloc_lt _ _ _ zx,World.cell?_alloc_lt _ _ _ hp]).more zx) hl hlen za za).mono ?_;rintro e w' ⟨rfl,rfl⟩;rw [hpk2])
 have Hh1:=Lib.hid h1;clear h1 h1a hl
 go_loopw [6,7,11] (fun v6 v7 i wr=>∃ (k:Nat) (A1:Option Addr) (c1:Nat) (A2:Option Addr) (c2:Nat),k≤ev.length∧i=.int .i64 k∧v6=.slice A1 (zbO ev fr k).out.length c1∧v7=.slice A2 (zbO ev fr k).ws.length c2∧
   GWg wa wr (zbO ev fr k).out (zbO ev fr k).ws (zbO ev fr k).opn (zbO ev fr k).lat A1 c1 A2 c2) (fun _ _ i _=>ev.length - (intOf i).toNat)
 case atStart=>
  refine ⟨0,none,0,none,0,by omega,rfl,rfl,rfl,World.ownsRow_nil _ _ _ _,World.ownsRow_nil _ _ _ _,(Blk.new wa 3 [.int .i64 0,.int .i64 0,.int .i64 0,.int .i64 0]).alloc _,?_,((Below.refl _ _).alloc (Nat.le_refl _) _).alloc zc _,by simp⟩;have:=Blk.new (wa.alloc (.cells #[.int .i64 0,.int .i64 0,.int .i64 0,.int .i64 0] 3)) 3 [.int .i64 0,.int .i64 0,.int .i64 0];simp only [World.size_alloc] at this;exact this
 case round=>
  obtain ⟨k,A1,c1,A2,c2,hk,rfl,rfl,rfl,gw⟩:=hrel;have hsz:=gw.sz;by_cases hlt:k<ev.length
  ·have inv:=zee fr Hgood.out hevl k za;have Hs:=Lib.hid (show zbO ev fr (k+1)=zdg ev fr k (zbO ev fr k) from rfl);obtain ⟨s,hs⟩:∃ s,s=zbO ev fr k:=⟨_,rfl⟩
   rw [← hs] at gw inv Hs ⊢;clear hs;obtain ⟨be,oe,rfl,hbe,q0,q1,q2⟩:=(hse.below gw.bel).ev hlt;obtain ⟨⟨g1,g2⟩,⟨g3,g4⟩,_⟩:=Hgood.out k hlt;obtain ⟨p,hp⟩:∃ p:Nat,(nth ev k).p=p:=⟨(nth ev k).p.toNat,by omega⟩
   obtain ⟨n,hn⟩:∃ n,(nth ev k).n=n:=⟨_,rfl⟩
   rw [hp] at q0 g1 g2;rw [hn] at q2 g3 g4;have hp0:(0:Int)≤(p:Int):=by omega
   have hp4:(p:Int)<4:=by omega
   have hpn:(nth ev k).p.toNat=p:=by omega
   have ok:=inv.ok;have hlop:p<s.opn.length:=by have:=ok.lop;omega
   have hlat:=inv.lat;have hwsl:=inv.ws;have hol:s.out.length≤100:=by
    rcases Nat.eq_zero_or_pos s.out.length with h0|h0
    ·omega
    ·obtain ⟨c',_,c'2,_⟩:=ok.call (s.out.length - 1) za;have key:∀ j,j<s.out.length→∃ c:Nat,(nth s.out j).call=c∧c<k∧j≤c:=by
      intro j
      induction j with
      | zero => intro hj; obtain ⟨c, a, b, _⟩ := ok.call 0 hj; exact ⟨c, a, b, Nat.zero_le _⟩
      | succ j ih =>
       intro hj;obtain ⟨c,a,b,d⟩:=ih za;obtain ⟨c2,a2,b2,_⟩:=ok.call (j+1) hj;have:=ok.mono j (j+1) za hj;exact ⟨c2,a2,b2,by omega⟩
     obtain ⟨c,_,b,d⟩:=key (s.out.length - 1) za;omega
   cases hi:(nth ev k).inv with
   | true=>
    rw [hi] at q1;obtain ⟨key,hkey⟩:∃ key:Nat,1+n / 2 % 2=(key:Int):=⟨(1+n / 2 % 2).toNat,by omega⟩
    have hkey0:(0:Int)≤(key:Int):=by omega
    have hkey3:(key:Int)<3:=by omega
    have hstep:zbO ev fr (k+1)=zib ev k (nth ev k) s:=by rw [Hs.out,zdg,hi];rfl
    unfold zib at hstep;rw [hn,hp,hkey] at hstep;simp only [Int.toNat_natCast] at hstep;obtain ⟨o',ws',lat',hst,hcase⟩:∃ o' ws' lat',zbO ev fr (k+1)=⟨s.out++[o'],ws',s.opn.set p s.out.length,lat'⟩∧
      ((0<n % 3∧o'=⟨p,2,key,(s.ws.length:Int)+1,0,k,ev.length,false⟩∧ws'=s.ws++[(key:Int)]∧lat'=s.lat)∨(n % 3=0∧o'=⟨p,0,key,0,0,k,ev.length,false⟩∧ws'=s.ws∧lat'=s.lat)):=by
     by_cases h2:0<n % 3
     ·rw [if_pos h2] at hstep;exact ⟨_,_,_,hstep,.inl ⟨h2,rfl,rfl,rfl⟩⟩
     ·have h3:n % 3=0:=by omega
      rw [if_neg h2] at hstep;exact ⟨_,_,_,hstep,.inr ⟨h3,rfl,rfl,rfl⟩⟩
    have Hst:=Lib.hid hst;clear hst hstep Hs ok inv;have hE:=hsz
    go_upto_if 51 with fail
    have gwx:=gw.below (w':=(wr.alloc (.cells #[.int .i64 p,.bool true,.int .i64 n] 53)).alloc (.cells #[.int .i64 p,.int .i64 0,.int .i64 key,.int .i64 0,.int .i64 0,.int .i64 k,.int .i64 ev.length,.bool false] 43)) (((Below.refl _ _).alloc (Nat.le_refl _) _).alloc zc _);have gws:∀ v,GWg wa ((((wr.alloc (.cells #[.int .i64 p,.bool true,.int .i64 n] 53)).alloc (.cells #[.int .i64 p,.int .i64 0,.int .i64 key,.int .i64 0,.int .i64 0,.int .i64 k,.int .i64 ev.length,.bool false] 43)).setCell ⟨wr.heap.size+1,1,none⟩ (.int .i64 2)).setCell ⟨wr.heap.size+1,3,none⟩ v) s.out s.ws s.opn s.lat A1 c1 A2 c2:=fun v=>gw.below (((((Below.refl _ _).alloc (Nat.le_refl _) _).alloc zc _).setCell zc _).setCell zc _);have be1:Blk ((wr.alloc (.cells #[.int .i64 p,.bool true,.int .i64 n] 53)).alloc (.cells #[.int .i64 p,.int .i64 0,.int .i64 key,.int .i64 0,.int .i64 0,.int .i64 k,.int .i64 ev.length,.bool false] 43)) wr.heap.size 53 (EvV.vals ⟨p,true,n⟩):=(Blk.new wr 53 (EvV.vals ⟨p,true,n⟩)).alloc _;have bo1:Blk ((wr.alloc (.cells #[.int .i64 p,.bool true,.int .i64 n] 53)).alloc (.cells #[.int .i64 p,.int .i64 0,.int .i64 key,.int .i64 0,.int .i64 0,.int .i64 k,.int .i64 ev.length,.bool false] 43)) (wr.heap.size+1) 43 (OpV.vals ⟨p,0,key,0,0,k,ev.length,false⟩):=by
     have:=Blk.new (wr.alloc (.cells #[.int .i64 p,.bool true,.int .i64 n] 53)) 43 (OpV.vals ⟨p,0,key,0,0,k,ev.length,false⟩);simp only [World.size_alloc] at this;exact this
    have sz1:wr.heap.size+2≤((wr.alloc (.cells #[.int .i64 p,.bool true,.int .i64 n] 53)).alloc (.cells #[.int .i64 p,.int .i64 0,.int .i64 key,.int .i64 0,.int .i64 0,.int .i64 k,.int .i64 ev.length,.bool false] 43)).heap.size:=by simp
    obtain ⟨w1,hw1⟩:∃ w1,w1=(wr.alloc (.cells #[.int .i64 p,.bool true,.int .i64 n] 53)).alloc (.cells #[.int .i64 p,.int .i64 0,.int .i64 key,.int .i64 0,.int .i64 0,.int .i64 k,.int .i64 ev.length,.bool false] 43):=⟨_,rfl⟩
    rw [← hw1] at gwx gws be1 bo1 sz1;rw [← hw1];clear hw1 gw q0 q1 q2;obtain ⟨E,hE2⟩:∃ E,E=wr.heap.size:=⟨_,rfl⟩
    rw [← hE2] at gws be1 bo1 sz1 hsz hE ⊢;clear hE2;obtain ⟨x0,x1,x2,x3,x4,x5,x6,x7⟩:=bo1.op
    go_cut [7] (fun v7 wx=>∃ A3 c3,v7=.slice A3 ws'.length c3∧GWg wa wx s.out ws' s.opn lat' A1 c1 A3 c3∧Blk wx E 53 (EvV.vals ⟨p,true,n⟩)∧Blk wx (E+1) 43 o'.vals∧E+2≤wx.heap.size)
    case first=>
     rcases hcase with ⟨h2,rfl,rfl,rfl⟩|⟨h2,rfl,rfl,rfl⟩
     ·have f1:=bo1.frozen 1;have f3:=bo1.frozen 3;have bo3:=(bo1.set_ 1 (.int .i64 2)).set_ 3 (.int .i64 ((s.ws.length:Int)+1));have be3:=(be1.far (p:=⟨E+1,1,none⟩) zc (.int .i64 2)).far (p:=⟨E+1,3,none⟩) zc (.int .i64 ((s.ws.length:Int)+1));have gw3:=gws (.int .i64 ((s.ws.length:Int)+1));have hsz3:((w1.setCell ⟨E+1,1,none⟩ (.int .i64 2)).setCell ⟨E+1,3,none⟩ (.int .i64 ((s.ws.length:Int)+1))).heap.size=w1.heap.size:=by simp
      have y0:w1.cell? ⟨E,2,none⟩=some (.int .i64 n):=be1.cell 2;have y2:((w1.setCell ⟨E+1,1,none⟩ (.int .i64 2)).setCell ⟨E+1,3,none⟩ (.int .i64 ((s.ws.length:Int)+1))).cell? ⟨E+1,2,none⟩=some (.int .i64 key):=bo3.cell 2;clear gws gwx
      go_wp2_with (at_builtin;go_loud (refine xp znc gw3.ws rfl (.tmp 57) (.tmp 60) rfl rfl (by rw [hsz3];rfl) rfl XX za za za ?_;intro A5 c5 w5 ho5 hb5 hg5 hl5;have gw5:=gw3.appWs ho5 hb5 hg5;have bo5:=bo3.grown hg5 (YI gw3.ws bo3 zg);have be5:=be3.grown hg5 (YI gw3.ws be3 zg);have hsz5:=hb5.size))
      go_meet
      case rel=>exact ⟨A5,c5,by simp,gw5,be5,bo5,by simp at hsz5;omega⟩
     ·have h2' : ¬ (0:Int)<n % 3:=by omega
      go_wp2_with fail
      go_meet
      case rel=>exact ⟨A2,c2,rfl,gwx,be1,bo1,by omega⟩
    case rest=>
     obtain ⟨A3,c3,rfl,gx,be2,bo2,sz2⟩:=hcut;clear hcase gwx be1 bo1 x0 x1 x2 x3 x4 x5 x6 x7;obtain ⟨x0,x1,x2,x3,x4,x5,x6,x7⟩:=bo2.op;have y0:wc.cell? ⟨E,0,none⟩=some (.int .i64 p):=be2.cell 0;have fo:=gx.opn.frozen p;have xo:=gx.opn.int (i:=p) hlop;have g2:=gx.setOpn p s.out.length;have bo3:=bo2.far (p:=⟨wa.heap.size,p,none⟩) zx (.int .i64 s.out.length);obtain ⟨z0,z1,z2,z3,z4,z5,z6,z7⟩:=bo3.op;have hsz2:(wc.setCell ⟨wa.heap.size,p,none⟩ (.int .i64 s.out.length)).heap.size=wc.heap.size:=by simp
     have hszc:=gx.sz
     go_wp2_with (at_builtin;go_loud (refine xp zpy g2.out rfl (.tmp 68) (.tmp 70) rfl rfl (by rw [hsz2];rfl) (cs:=o'.vals) rfl o'.one za za za ?_;intro A4 c4 w4 ho4 hb4 hg4 hl4))
     go_roundw
     case rel=>exact ⟨k+1,A4,c4,A3,c3,by omega,by go_num,by rw [Hst.out];simp,by rw [Hst.out],by rw [Hst.out];exact g2.appOut ho4 hb4 hg4⟩
     case measure=>simp [intOf];omega
   | false=>
    rw [hi] at q1;have hpe:(nth ev k).p=(p:Int):=hp;obtain ⟨j,j1,j2,j3,j4⟩:=ok.at_ Hgood.out hlt hi hpe;have hj0:(0:Int)≤(j:Int):=by omega
    have hjl:(j:Int)<(s.out.length:Int):=by omega
    obtain ⟨oj,hoj⟩:∃ oj,nth s.out j=oj:=⟨_,rfl⟩
    have hsm:=inv.sm _ (zC j2);rw [hoj] at hsm;obtain ⟨key,hkey⟩:∃ key:Nat,oj.key=(key:Int):=⟨oj.key.toNat,by have:=hsm.2.1;omega⟩
    have hkey3:(key:Int)<3:=by have:=hsm.2.1;omega
    have hkey0:(0:Int)≤(key:Int):=by omega
    obtain ⟨o',ho'⟩:∃ o' : OpV,o'={ oj with done:=true,ret:=(k:Int),res:=xN s.ws oj.key n (nth s.lat key) fr }:=⟨_,rfl⟩
    have hst:zbO ev fr (k+1)=⟨s.out.set j o',s.ws,s.opn,if oj.k=2 then s.lat.set key oj.arg else s.lat⟩:=by
     have hjn:(nth s.opn p).toNat=j:=by omega
     have hkn:oj.key.toNat=key:=by omega
     rw [Hs.out,zdg,hi];simp only [Bool.false_eq_true,if_false];unfold zod;rw [hpn,hjn,hn,hoj,hkn,ho']
    have Hst:=Lib.hid hst;clear hst Hs;obtain ⟨g,rfl,hg2,hgw⟩:=zhU gw.out za;obtain ⟨⟨e0,e1,e2,e3,e4,e5,e6,e7⟩,_⟩:=gw.cells j2;rw [hoj] at e0 e1 e2 e3 e4 e5 e6 e7;have xo:=gw.opn.int (i:=p) hlop;rw [j1] at xo;have xl:=gw.lat.int (i:=key) za;have hws:=Sl.of_own gw.ws rfl;have Hsm:=Lib.hid hsm;have Hoj:=Lib.hid hoj;have Hj:=Lib.hid (And.intro j1 (And.intro j3 j4));have Hkey:=Lib.hid hkey;have hlatl:key<s.lat.length:=by omega
    clear ok inv hsm hoj j1 j3 j4 hkey hpe;have hlt1:wa.heap.size<wr.heap.size:=by omega
    have hlt2:wa.heap.size+1<wr.heap.size:=by omega
    go_upto_region 21 with fail
    have be1:Blk ((wr.alloc (.cells #[.int .i64 p,.bool false,.int .i64 n] 53)).alloc (.cells #[.int .i64 oj.p,.int .i64 oj.k,.int .i64 oj.key,.int .i64 oj.arg,.int .i64 oj.res,.int .i64 oj.call,.int .i64 oj.ret,.bool oj.done] 43)) wr.heap.size 53 (EvV.vals ⟨p,false,n⟩):=(Blk.new wr 53 (EvV.vals ⟨p,false,n⟩)).alloc _;have bo1:Blk ((wr.alloc (.cells #[.int .i64 p,.bool false,.int .i64 n] 53)).alloc (.cells #[.int .i64 oj.p,.int .i64 oj.k,.int .i64 oj.key,.int .i64 oj.arg,.int .i64 oj.res,.int .i64 oj.call,.int .i64 oj.ret,.bool oj.done] 43)) (wr.heap.size+1) 43 oj.vals:=by
     have:=Blk.new (wr.alloc (.cells #[.int .i64 p,.bool false,.int .i64 n] 53)) 43 oj.vals;simp only [World.size_alloc] at this;exact this
    have B1:Below wr.heap.size wr ((wr.alloc (.cells #[.int .i64 p,.bool false,.int .i64 n] 53)).alloc (.cells #[.int .i64 oj.p,.int .i64 oj.k,.int .i64 oj.key,.int .i64 oj.arg,.int .i64 oj.res,.int .i64 oj.call,.int .i64 oj.ret,.bool oj.done] 43)):=((Below.refl _ _).alloc (Nat.le_refl _) _).alloc zc _;have sz1:wr.heap.size+2≤((wr.alloc (.cells #[.int .i64 p,.bool false,.int .i64 n] 53)).alloc (.cells #[.int .i64 oj.p,.int .i64 oj.k,.int .i64 oj.key,.int .i64 oj.arg,.int .i64 oj.res,.int .i64 oj.call,.int .i64 oj.ret,.bool oj.done] 43)).heap.size:=by simp
    obtain ⟨w1,hw1⟩:∃ w1,w1=(wr.alloc (.cells #[.int .i64 p,.bool false,.int .i64 n] 53)).alloc (.cells #[.int .i64 oj.p,.int .i64 oj.k,.int .i64 oj.key,.int .i64 oj.arg,.int .i64 oj.res,.int .i64 oj.call,.int .i64 oj.ret,.bool oj.done] 43):=⟨_,rfl⟩
    rw [← hw1] at be1 bo1 B1 sz1;rw [← hw1];clear hw1 q0 q1 q2 e0 e1 e2 e3 e4 e5 e6 e7 xo;have f7:=bo1.frozen 7;have f6:=bo1.frozen 6;obtain ⟨x0,x1,x2,x3,x4,x5,x6,x7⟩:=bo1.op
    go_upto_region 23 with fail
    have bo2:=(bo1.set_ 7 (.bool true)).set_ 6 (.int .i64 k);have be2:=(be1.far (p:=⟨wr.heap.size+1,7,none⟩) zc (.bool true)).far (p:=⟨wr.heap.size+1,6,none⟩) zc (.int .i64 k);have B2:=(B1.setCell (p:=⟨wr.heap.size+1,7,none⟩) zc (.bool true)).setCell (p:=⟨wr.heap.size+1,6,none⟩) zc (.int .i64 k);have sz2:wr.heap.size+2≤((w1.setCell ⟨wr.heap.size+1,7,none⟩ (.bool true)).setCell ⟨wr.heap.size+1,6,none⟩ (.int .i64 k)).heap.size:=by simpa using sz1
    obtain ⟨w2,hw2⟩:∃ w2,w2=(w1.setCell ⟨wr.heap.size+1,7,none⟩ (.bool true)).setCell ⟨wr.heap.size+1,6,none⟩ (.int .i64 k):=⟨_,rfl⟩
    rw [← hw2] at be2 bo2 B2 sz2;rw [← hw2];clear hw2 x0 x1 x2 x3 x4 x5 x6 x7 f7 f6 be1 bo1 B1 sz1;have bo2' : Blk w2 (wr.heap.size+1) 43 (OpV.vals { oj with done:=true,ret:=(k:Int) }):=bo2;clear bo2
    go_cut [15] (fun v15 wx=>v15=.pointer (some ⟨wr.heap.size+1,0,none⟩)∧Below wr.heap.size wr wx∧Blk wx (wr.heap.size+1) 43 o'.vals)
    case first=>
     have Ho':=Lib.hid ho';clear ho';have gw2:=gw.below B2;have c2' : w2.cell? ⟨wr.heap.size+1,2,none⟩=some (.int .i64 oj.key):=bo2'.cell 2;rw [Hkey.out] at c2';have cn:w2.cell? ⟨wr.heap.size,2,none⟩=some (.int .i64 n):=be2.cell 2;have cl:=gw2.lat.int (i:=key) hlatl;have hws2:=Sl.of_own gw2.ws rfl;have hwl:s.ws.length≤1000000:=by omega
     go_region_held3 (fun w'=>w'.cell? ⟨wr.heap.size+1,2,none⟩=some (.int .i64 key)∧w'.cell? ⟨wr.heap.size,2,none⟩=some (.int .i64 n)∧w'.cell? ⟨wa.heap.size+1,key,none⟩=some (.int .i64 (nth s.lat key)))
      (first|(refine ⟨?_,?_,?_⟩ <;> assumption)|(go_keep;done)|(refine ⟨(World.cell?_setCell_other _ _ _ _ zc).trans ?_,(World.cell?_setCell_other _ _ _ _ zc).trans ?_,(World.cell?_setCell_other _ _ _ _ zc).trans ?_⟩ <;> assumption))
      ((go_at_call 26;refine (ziv _ _ _ _ _ _ _ _ (by exact hws2) hwl g3 za).mono ?_;rintro e w3 ⟨rfl,hb3⟩;have d1:=(hb3.cell (p:=⟨wr.heap.size+1,2,none⟩) (by show wr.heap.size+1<w2.heap.size;omega)).trans c2';have d2:=(hb3.cell (p:=⟨wr.heap.size,2,none⟩) (by show wr.heap.size<w2.heap.size;omega)).trans cn;have d3:=(hb3.cell (p:=⟨wa.heap.size+1,key,none⟩) (by show wa.heap.size+1<w2.heap.size;omega)).trans cl;have bo3:=bo2'.drew.below hb3 (by show wr.heap.size+1<w2.heap.size;omega);have f4:=bo3.frozen 4;have k4:=bo3.cell 4))
     go_wp2_with fail
     go_meet
     case rel=>
      refine ⟨rfl,((zoz B2).trans (hb3.mono (by show wr.heap.size≤w2.heap.size;omega))).setCell zc _,?_⟩;have hfin:=bo3.set_ 4 (.int .i64 (xN s.ws oj.key n (nth s.lat key) fr));rw [Ho'.out];rw [Hkey.out] at hfin ⊢;exact hfin
    case rest=>
     obtain ⟨rfl,B3,bo3⟩:=hcut;have gx:=gw.below B3;have hok:o'.k=oj.k:=by rw [ho']
     have hoa:o'.arg=oj.arg:=by rw [ho']
     have hoy:o'.key=key:=by rw [ho'];exact Hkey.out
     clear ho';by_cases h2:oj.k=2
     ·have h2' : (o'.k == 2)=true:=by rw [hok];simpa using h2
      have hst2:zbO ev fr (k+1)=⟨s.out.set j o',s.ws,s.opn,s.lat.set key oj.arg⟩:=by rw [Hst.out,if_pos h2]
      rw [← hoa] at hst2;have Hst2:=Lib.hid hst2;clear hst2 h2 hok hoa;have gl:=gx.setLat key o'.arg;have fl:=gx.lat.frozen key;have xl2:=gx.lat.int (i:=key) hlatl;have bo4:=bo3.far (p:=⟨wa.heap.size+1,key,none⟩) zx (.int .i64 o'.arg);obtain ⟨⟨e0,e1,e2,e3,e4,e5,e6,e7⟩,f0,f1,f2,f3,f4,f5,f6,f7⟩:=gl.cells j2;obtain ⟨x0,x1,x2,x3,x4,x5,x6,x7⟩:=bo3.op;obtain ⟨z0,z1,z2,z3,z4,z5,z6,z7⟩:=bo4.op;rw [hoy] at x2
      go_wp2_with fail
      go_roundw
      case rel=>exact ⟨k+1,some ⟨g,0,none⟩,c1,A2,c2,by omega,by go_num,by rw [Hst2.out];simp,by rw [Hst2.out],by rw [Hst2.out];have hput:=gl.putOp hg2 j2 o';rw [hoy] at hput;exact hput⟩
      case measure=>simp [intOf];omega
     ·have h2' : (o'.k == 2)=false:=by rw [hok];simpa using h2
      have hst2:zbO ev fr (k+1)=⟨s.out.set j o',s.ws,s.opn,s.lat⟩:=by rw [Hst.out,if_neg h2]
      have Hst2:=Lib.hid hst2;clear hst2 h2 hok hoa hoy;obtain ⟨⟨e0,e1,e2,e3,e4,e5,e6,e7⟩,f0,f1,f2,f3,f4,f5,f6,f7⟩:=gx.cells j2;obtain ⟨x0,x1,x2,x3,x4,x5,x6,x7⟩:=bo3.op
      go_wp2_with fail
      go_roundw
      case rel=>exact ⟨k+1,some ⟨g,0,none⟩,c1,A2,c2,by omega,by go_num,by rw [Hst2.out];simp,by rw [Hst2.out],by rw [Hst2.out];exact gx.putOp hg2 j2 o'⟩
      case measure=>simp [intOf];omega
  ·obtain rfl:k=ev.length:=by omega
   go_wp2_with fail
   go_ret
   have hszw:=hba.size;exact ⟨A1,c1,rfl,Wn gw.out za,hba.trans (gw.bel.mono hszw)⟩
end
section
open Go.RowKit
attribute [local go_sem ↓] Go.wp_at_zero Go.wp_at_succ
def zh0 (ev:List EvV) (i:Nat) (e:EvV) (s:ZC):ZC:=
 if e.n % 2=0 then ⟨s.out++[⟨e.p,3,1+e.n / 2 % 2,(s.ws.length:Int)+1,0,i,ev.length,false⟩],s.ws++[1+e.n / 2 % 2],s.opn.set e.p.toNat s.out.length,s.lat⟩
 else ⟨s.out++[⟨e.p,4,1+e.n / 2 % 2,0,0,i,ev.length,false⟩],s.ws,s.opn.set e.p.toNat s.out.length,s.lat⟩
def zmS (i:Nat) (e:EvV) (s:ZC):ZC:=
 if (nth s.out (nth s.opn e.p.toNat).toNat).k=4 then { s with out:=s.out.set (nth s.opn e.p.toNat).toNat { nth s.out (nth s.opn e.p.toNat).toNat with done:=true,ret:=i,res:=xz s.ws s.lat (nth s.out (nth s.opn e.p.toNat).toNat).key e.n },lat:=s.lat++[xz s.ws s.lat (nth s.out (nth s.opn e.p.toNat).toNat).key e.n] }
 else { s with out:=s.out.set (nth s.opn e.p.toNat).toNat { nth s.out (nth s.opn e.p.toNat).toNat with done:=true,ret:=i } }
def zcR (ev:List EvV) (i:Nat) (s:ZC):ZC:=
 if (nth ev i).inv then zh0 ev i (nth ev i) s else zmS i (nth ev i) s
def zbW (ev:List EvV) (k:Nat):ZC:=Ue (zcR ev) ⟨[],[],[0,0,0,0],[]⟩ k
def Xq (l:List Int) (most:Int):List OpV:=(zbW (xV l most) (xV l most).length).out
structure zpi (ev:List EvV) (k:Nat) (s:ZC):Prop where
 ok:Xv ev k s.out s.opn
 sm:∀ o∈s.out,zkb o
 lat:s.lat.length≤k
 ws:s.ws.length≤k
 wsx:∀ x∈s.ws,1≤x∧x≤2
theorem zdV {ev:List EvV} (hg:Xu ev) (hl:ev.length≤40):∀ k,k≤ev.length→zpi ev k (zbW ev k)
 | 0, _ => ⟨Xv.zero ev, fun _ h => by simp [zbW, Ue] at h, Nat.zero_le _, Nat.zero_le _, fun _ h => by simp [zbW, Ue] at h⟩
 | k + 1,hk=>by
  have ih:=zdV hg hl k za;have hs:zbW ev (k+1)=zcR ev k (zbW ev k):=rfl;rw [hs];generalize zbW ev k=s at ih;obtain ⟨g1,g2,g3⟩:=hg k za;obtain ⟨ok,sm,lat,ws,wsx⟩:=ih;obtain ⟨p,hp⟩:∃ p:Nat,(nth ev k).p=p:=⟨(nth ev k).p.toNat,by omega⟩
  unfold zcR;cases hi:(nth ev k).inv with
  | true=>
   simp only [if_true];unfold zh0;have hpn:(nth ev k).p.toNat=p:=by omega
   rw [hpn];split
   ·refine ⟨ok.add hg za hi rfl rfl rfl rfl rfl hp,fun o ho=>?_,by dsimp only;omega,by simp;omega,fun x hx=>?_⟩
    ·rcases List.mem_append.1 ho with h|h
     ·exact sm o h
     ·simp only [List.mem_singleton] at h;subst h;unfold zkb;dsimp only;omega
    ·rcases List.mem_append.1 hx with h|h
     ·exact wsx x h
     ·simp only [List.mem_singleton] at h;omega
   ·refine ⟨ok.add hg za hi rfl rfl rfl rfl rfl hp,fun o ho=>?_,by dsimp only;omega,by dsimp only;omega,wsx⟩;rcases List.mem_append.1 ho with h|h
    ·exact sm o h
    ·simp only [List.mem_singleton] at h;subst h;unfold zkb;dsimp only;omega
  | false=>
   simp only [Bool.false_eq_true,if_false];unfold zmS;have hpn:(nth ev k).p.toNat=p:=by omega
   rw [hpn];obtain ⟨j,j1,j2,j3,j4⟩:=ok.at_ hg za hi hp;have hjn:(nth s.opn p).toNat=j:=by omega
   rw [hjn];have hj:=sm _ (zC j2);unfold zkb at hj;have hpop:=zjg s.ws s.lat (nth s.out j).key (nth ev k).n;split
   ·refine ⟨ok.put za hi j2 za j4 rfl rfl rfl rfl,fun o ho=>?_,by simp;omega,by dsimp only;omega,wsx⟩;rcases Wj ho with h|h
    ·exact sm o h
    ·subst h;unfold zkb;dsimp only;exact ⟨hj.1,hj.2.1,hj.2.2.1,by omega⟩
   ·refine ⟨ok.put za hi j2 za j4 rfl rfl rfl rfl,fun o ho=>?_,by dsimp only;omega,by dsimp only;omega,wsx⟩;rcases Wj ho with h|h
    ·exact sm o h
    ·subst h;exact hj
theorem zoP {w:World} {base:Nat} {e:TypeId} {sz n:Nat} {v:Value} {xs:List Value} (h:w.ownsRow base e sz v n xs) {g:Nat} (hg:v.ownBlock=some g):g<w.heap.size:=by
 rcases h.2 with ⟨rfl,_⟩|⟨g',cap,cur,rfl,_,hh,_⟩
 ·simp [Value.ownBlock] at hg
 ·have:g'=g:=by simpa [Value.ownBlock] using hg
  subst this;exact (Array.getElem?_eq_some_iff.1 hh).1
theorem zet {w:World} {base base' : Nat} {e e' : TypeId} {sz sz' n n' : Nat} {v v' v2:Value} {xs xs' : List Value} (h:w.ownsRow base e sz v n xs) (h' : w.ownsRow base' e' sz' v' n' xs') (hne:v.ownBlock=none∨v.ownBlock≠v'.ownBlock) (hl:v2.ownBlock=v'.ownBlock∨∃ g,v2.ownBlock=some g∧w.heap.size≤g):v.ownBlock=none∨v.ownBlock≠v2.ownBlock:=by
 rcases hl with hl|⟨g,hl,hge⟩
 ·rw [hl];exact hne
 ·right;intro he;have:=zoP h (he.trans hl);omega
theorem zar {a b:Option Nat} (h:a=none∨a≠b):b=none∨b≠a:=by
 rcases h with rfl|h
 ·cases b with
  | none => exact .inl rfl
  | some x => right; simp
 ·exact .inr fun e=>h e.symm
structure GQ (wa w:World) (out:List OpV) (ws opn lat:List Int) (A1:Option Addr) (c1:Nat) (A2:Option Addr) (c2:Nat) (A9:Option Addr) (c9:Nat):Prop where
 out:w.ownsRow (wa.heap.size+1) 43 8 (.slice A1 out.length c1) out.length (flat OpV.vals out)
 pu:w.ownsRow (wa.heap.size+1) 3 1 (.slice A2 ws.length c2) ws.length (flat XD ws)
 tk:w.ownsRow (wa.heap.size+1) 3 1 (.slice A9 lat.length c9) lat.length (flat XD lat)
 ne:(Value.slice A2 ws.length c2).ownBlock=none∨(Value.slice A2 ws.length c2).ownBlock≠(Value.slice A9 lat.length c9).ownBlock
 opn:Blk w wa.heap.size 3 (flat XD opn)
 bel:Below wa.heap.size wa w
 sz:wa.heap.size+1≤w.heap.size
section
variable {wa w w' : World} {out:List OpV} {ws opn lat:List Int} {A1 A2 A9:Option Addr} {c1 c2 c9:Nat}
theorem GQ.below (h:GQ wa w out ws opn lat A1 c1 A2 c2 A9 c9) (hb:Below w.heap.size w w'):GQ wa w' out ws opn lat A1 c1 A2 c2 A9 c9:=
 ⟨XH h.out hb,XH h.pu hb,XH h.tk hb,h.ne,h.opn.below hb (by have:=h.sz;omega),h.bel.trans (hb.mono (by have:=h.sz;omega)),by have:=h.sz;have:=hb.size;omega⟩
theorem GQ.setOpn (h:GQ wa w out ws opn lat A1 c1 A2 c2 A9 c9) (i:Nat) (x:Int):GQ wa (w.setCell ⟨wa.heap.size,i,none⟩ (.int .i64 x)) out ws (opn.set i x) lat A1 c1 A2 c2 A9 c9:=
 ⟨Ys h.out zc _,Ys h.pu zc _,Ys h.tk zc _,h.ne,h.opn.setInt i x,h.bel.setCell zc _,by simpa using h.sz⟩
theorem GQ.appWs (h:GQ wa w out ws opn lat A1 c1 A2 c2 A9 c9) {x:Int} {A3:Option Addr} {c3:Nat} (ho:w'.ownsRow (wa.heap.size+1) 3 1 (.slice A3 (ws.length+1) c3) (ws.length+1) (flat XD ws++[.int .i64 x])) (hb:Below (wa.heap.size+1) w w') (hg:w.grownBy w' (Value.slice A2 ws.length c2).ownBlock)
  (hl:(Value.slice A3 (ws.length+1) c3).ownBlock=(Value.slice A2 ws.length c2).ownBlock∨∃ g,(Value.slice A3 (ws.length+1) c3).ownBlock=some g∧w.heap.size≤g) :
  GQ wa w' out (ws++[x]) opn lat A1 c1 A3 c3 A9 c9:=
 ⟨h.out.kept hg (xJ h.out h.pu zg),by rw [List.length_append,xj,Ym];simpa [XD] using ho,h.tk.kept hg (zar h.ne),by rw [List.length_append];exact zar (zet h.tk h.pu (zar h.ne) hl),h.opn.below hb za,h.bel.trans (hb.mono za),by have:=h.sz;have:=hb.size;omega⟩
theorem GQ.appTk (h:GQ wa w out ws opn lat A1 c1 A2 c2 A9 c9) {x:Int} {A3:Option Addr} {c3:Nat} (ho:w'.ownsRow (wa.heap.size+1) 3 1 (.slice A3 (lat.length+1) c3) (lat.length+1) (flat XD lat++[.int .i64 x])) (hb:Below (wa.heap.size+1) w w') (hg:w.grownBy w' (Value.slice A9 lat.length c9).ownBlock)
  (hl:(Value.slice A3 (lat.length+1) c3).ownBlock=(Value.slice A9 lat.length c9).ownBlock∨∃ g,(Value.slice A3 (lat.length+1) c3).ownBlock=some g∧w.heap.size≤g) :
  GQ wa w' out ws opn (lat++[x]) A1 c1 A2 c2 A3 c3:=
 ⟨h.out.kept hg (xJ h.out h.tk zg),h.pu.kept hg h.ne,by rw [List.length_append,xj,Ym];simpa [XD] using ho,by rw [List.length_append];exact zet h.pu h.tk h.ne hl,h.opn.below hb za,h.bel.trans (hb.mono za),by have:=h.sz;have:=hb.size;omega⟩
theorem GQ.appOut (h:GQ wa w out ws opn lat A1 c1 A2 c2 A9 c9) {o:OpV} {A3:Option Addr} {c3:Nat} (ho:w'.ownsRow (wa.heap.size+1) 43 8 (.slice A3 (out.length+1) c3) (out.length+1) (flat OpV.vals out++o.vals)) (hb:Below (wa.heap.size+1) w w') (hg:w.grownBy w' (Value.slice A1 out.length c1).ownBlock) :
  GQ wa w' (out++[o]) ws opn lat A3 c3 A2 c2 A9 c9:=
 ⟨by rw [List.length_append,xj,Ym];simpa using ho,h.pu.kept hg (xJ h.pu h.out zg),h.tk.kept hg (xJ h.tk h.out zg),h.ne,h.opn.below hb za,h.bel.trans (hb.mono za),by have:=h.sz;have:=hb.size;omega⟩
theorem zpv {w:World} {base:Nat} {e:TypeId} {sz n:Nat} {v:Value} {xs:List Value} (h:w.ownsRow base e sz v n xs) {g:Nat} (hne:some g≠v.ownBlock) (j:Nat) (o:OpV) :
  ((((((((w.setCell ⟨g,j * 8,none⟩ (.int .i64 o.p)).setCell ⟨g,j * 8+1,none⟩ (.int .i64 o.k)).setCell ⟨g,j * 8+2,none⟩ (.int .i64 o.key)).setCell ⟨g,j * 8+3,none⟩ (.int .i64 o.arg)).setCell ⟨g,j * 8+4,none⟩ (.int .i64 o.res)).setCell ⟨g,j * 8+5,none⟩ (.int .i64 o.call)).setCell ⟨g,j * 8+6,none⟩ (.int .i64 o.ret)).setCell ⟨g,j * 8+7,none⟩ (.bool o.done)).ownsRow base e sz v n xs:=
 zA (zA (zA (zA (zA (zA (zA (zA h hne _) hne _) hne _) hne _) hne _) hne _) hne _) hne _
theorem GQ.putOp {g:Nat} (h:GQ wa w out ws opn lat (some ⟨g,0,none⟩) c1 A2 c2 A9 c9) (hgb:wa.heap.size+1≤g) {j:Nat} (hj:j<out.length) (o:OpV) :
  GQ wa ((((((((w.setCell ⟨g,j * 8,none⟩ (.int .i64 o.p)).setCell ⟨g,j * 8+1,none⟩ (.int .i64 o.k)).setCell ⟨g,j * 8+2,none⟩ (.int .i64 o.key)).setCell ⟨g,j * 8+3,none⟩ (.int .i64 o.arg)).setCell ⟨g,j * 8+4,none⟩ (.int .i64 o.res)).setCell ⟨g,j * 8+5,none⟩ (.int .i64 o.call)).setCell ⟨g,j * 8+6,none⟩ (.int .i64 o.ret)).setCell ⟨g,j * 8+7,none⟩ (.bool o.done)) (out.set j o) ws opn lat (some ⟨g,0,none⟩) c1 A2 c2 A9 c9:=by
 have hne:∀ {e:TypeId} {sz n:Nat} {v:Value} {xs:List Value},w.ownsRow (wa.heap.size+1) e sz v n xs→e≠43→some g≠v.ownBlock:=by
  intro e sz n v xs hv hev;rcases xJ hv h.out hev with e|e
  ·rw [e];simp
  ·exact fun e2=>e (by rw [← e2];rfl)
 refine ⟨?_,zpv h.pu (hne h.pu zg) j o,zpv h.tk (hne h.tk zg) j o,h.ne,?_,?_,by simpa using h.sz⟩
 ·have:=zfy h.out hj o;rwa [List.length_set]
 ·have e:wa.heap.size≠g:=by omega
  exact (((((((h.opn.far (p:=⟨g,_,none⟩) e _).far (p:=⟨g,_,none⟩) e _).far (p:=⟨g,_,none⟩) e _).far (p:=⟨g,_,none⟩) e _).far (p:=⟨g,_,none⟩) e _).far (p:=⟨g,_,none⟩) e _).far (p:=⟨g,_,none⟩) e _).far (p:=⟨g,_,none⟩) e _
 ·have e:wa.heap.size≤g:=by omega
  exact (((((((h.bel.setCell (p:=⟨g,_,none⟩) e _).setCell (p:=⟨g,_,none⟩) e _).setCell (p:=⟨g,_,none⟩) e _).setCell (p:=⟨g,_,none⟩) e _).setCell (p:=⟨g,_,none⟩) e _).setCell (p:=⟨g,_,none⟩) e _).setCell (p:=⟨g,_,none⟩) e _).setCell (p:=⟨g,_,none⟩) e _
theorem GQ.cells {g:Nat} (h:GQ wa w out ws opn lat (some ⟨g,0,none⟩) c1 A2 c2 A9 c9) {j:Nat} (hj:j<out.length) :
  (w.cell? ⟨g,j * 8,none⟩=some (.int .i64 (nth out j).p)∧w.cell? ⟨g,j * 8+1,none⟩=some (.int .i64 (nth out j).k)∧w.cell? ⟨g,j * 8+2,none⟩=some (.int .i64 (nth out j).key)∧w.cell? ⟨g,j * 8+3,none⟩=some (.int .i64 (nth out j).arg)∧
  w.cell? ⟨g,j * 8+4,none⟩=some (.int .i64 (nth out j).res)∧w.cell? ⟨g,j * 8+5,none⟩=some (.int .i64 (nth out j).call)∧w.cell? ⟨g,j * 8+6,none⟩=some (.int .i64 (nth out j).ret)∧w.cell? ⟨g,j * 8+7,none⟩=some (.bool (nth out j).done))∧
  (w.frozen? ⟨g,j * 8,none⟩=false∧w.frozen? ⟨g,j * 8+1,none⟩=false∧w.frozen? ⟨g,j * 8+2,none⟩=false∧w.frozen? ⟨g,j * 8+3,none⟩=false∧w.frozen? ⟨g,j * 8+4,none⟩=false∧w.frozen? ⟨g,j * 8+5,none⟩=false∧w.frozen? ⟨g,j * 8+6,none⟩=false∧w.frozen? ⟨g,j * 8+7,none⟩=false):=by
 have hs:=(Sl.of_own h.out rfl).op' hj;simp only [Nat.zero_add] at hs;exact ⟨hs,h.out.frozenAt _,h.out.frozenAt _,h.out.frozenAt _,h.out.frozenAt _,h.out.frozenAt _,h.out.frozenAt _,h.out.frozenAt _,h.out.frozenAt _⟩
end
end
section
open Go.RowKit
attribute [local go_sem ↓] Go.wp_at_zero Go.wp_at_succ
set_option maxRecDepth 100000 in
theorem zjk (A:Option Addr) (c:Nat) (l:List Int) (most:Int) (w:World) (h1:Sl XD w w.heap.size A l) (hl:∀ x∈l,I64 x) (hlen:l.length≤9223372036854775807) (hmost:I64 most) :
  Calls Try.prog 17 #[.slice A l.length c,.int .i64 most] w fun e w'=>∃ A1 c1,e=.returned (.slice A1 (Xq l most).length c1)∧
   w'.ownsRow w.heap.size 43 8 (.slice A1 (Xq l most).length c1) (Xq l most).length (flat OpV.vals (Xq l most))∧Below w.heap.size w w':=by
 have hmk4:∀ w,(Instr.makeSlice 22 (.int .i64 4) (.int .i64 4)).run Try.prog w=.ok (.slice (some ⟨w.heap.size,0,none⟩) 4 4) (w.alloc (.cells #[.int .i64 0,.int .i64 0,.int .i64 0,.int .i64 0] 3)):=fun _=>by kernel_rfl
 obtain ⟨ev,hev⟩:∃ ev,xV l most=ev:=⟨_,rfl⟩
 have hreg:Xq l most=(zbW ev ev.length).out:=by rw [Xq,hev]
 rw [hreg];have hgood:=Xd l most;have hevl:=Wd l most;rw [hev] at hgood hevl;have Hgood:=Lib.hid hgood;clear hgood hreg
 go_enter Try.func17,Try.ntmps17
 go_upto_region 4 with (go_at_call 24;refine (zcx _ _ _ _ _ h1 hl hlen hmost).mono ?_;rintro e wa ⟨Ae,ce,rfl,hoe,hba⟩;rw [hev] at hoe ⊢)
 have hse:=Sl.of_own hoe rfl;have hsza:=hba.size
 go_wp2_with fail
 have Hh1:=Lib.hid h1;clear h1 hl
 go_loopw [6,7,8,10] (fun v6 v7 v8 i wr=>∃ (k:Nat) (A1:Option Addr) (c1:Nat) (A2:Option Addr) (c2:Nat) (A9:Option Addr) (c9:Nat),k≤ev.length∧i=.int .i64 k∧v6=.slice A1 (zbW ev k).out.length c1∧v7=.slice A2 (zbW ev k).ws.length c2∧v8=.slice A9 (zbW ev k).lat.length c9∧
   GQ wa wr (zbW ev k).out (zbW ev k).ws (zbW ev k).opn (zbW ev k).lat A1 c1 A2 c2 A9 c9) (fun _ _ _ i _=>ev.length - (intOf i).toNat)
 case atStart=>
  exact ⟨0,none,0,none,0,none,0,by omega,rfl,rfl,rfl,rfl,World.ownsRow_nil _ _ _ _,World.ownsRow_nil _ _ _ _,World.ownsRow_nil _ _ _ _,.inl rfl,Blk.new wa 3 [.int .i64 0,.int .i64 0,.int .i64 0,.int .i64 0],(Below.refl _ _).alloc (Nat.le_refl _) _,by simp⟩
 case round=>
  obtain ⟨k,A1,c1,A2,c2,A9,c9,hk,rfl,rfl,rfl,rfl,gw⟩:=hrel;have hsz:=gw.sz;by_cases hlt:k<ev.length
  ·have inv:=zdV Hgood.out hevl k za;have Hs:=Lib.hid (show zbW ev (k+1)=zcR ev k (zbW ev k) from rfl);obtain ⟨s,hs⟩:∃ s,s=zbW ev k:=⟨_,rfl⟩
   rw [← hs] at gw inv Hs ⊢;clear hs;obtain ⟨be,oe,rfl,hbe,q0,q1,q2⟩:=(hse.below gw.bel).ev hlt;obtain ⟨⟨g1,g2⟩,⟨g3,g4⟩,_⟩:=Hgood.out k hlt;obtain ⟨p,hp⟩:∃ p:Nat,(nth ev k).p=p:=⟨(nth ev k).p.toNat,by omega⟩
   obtain ⟨n,hn⟩:∃ n,(nth ev k).n=n:=⟨_,rfl⟩
   rw [hp] at q0 g1 g2;rw [hn] at q2 g3 g4;have hp0:(0:Int)≤(p:Int):=by omega
   have hp4:(p:Int)<4:=by omega
   have hpn:(nth ev k).p.toNat=p:=by omega
   have ok:=inv.ok;have hlop:p<s.opn.length:=by have:=ok.lop;omega
   have htkl:=inv.lat;have hwsl:=inv.ws;have hol:s.out.length≤100:=by
    rcases Nat.eq_zero_or_pos s.out.length with h0|h0
    ·omega
    ·obtain ⟨c',_,c'2,_⟩:=ok.call (s.out.length - 1) za;have key:∀ j,j<s.out.length→∃ c:Nat,(nth s.out j).call=c∧c<k∧j≤c:=by
      intro j
      induction j with
      | zero => intro hj; obtain ⟨c, a, b, _⟩ := ok.call 0 hj; exact ⟨c, a, b, Nat.zero_le _⟩
      | succ j ih =>
       intro hj;obtain ⟨c,a,b,d⟩:=ih za;obtain ⟨c2,a2,b2,_⟩:=ok.call (j+1) hj;have:=ok.mono j (j+1) za hj;exact ⟨c2,a2,b2,by omega⟩
     obtain ⟨c,_,b,d⟩:=key (s.out.length - 1) za;omega
   cases hi:(nth ev k).inv with
   | true=>
    rw [hi] at q1;obtain ⟨key,hkey⟩:∃ key:Nat,1+n / 2 % 2=(key:Int):=⟨(1+n / 2 % 2).toNat,by omega⟩
    have hkey0:(0:Int)≤(key:Int):=by omega
    have hkey3:(key:Int)<3:=by omega
    have hstep:zbW ev (k+1)=zh0 ev k (nth ev k) s:=by rw [Hs.out,zcR,hi];rfl
    unfold zh0 at hstep;rw [hn,hp,hkey] at hstep;simp only [Int.toNat_natCast] at hstep;obtain ⟨o',ws',lat',hst,hcase⟩:∃ o' ws' lat',zbW ev (k+1)=⟨s.out++[o'],ws',s.opn.set p s.out.length,lat'⟩∧
      ((n % 2=0∧o'=⟨p,3+n % 2,key,(s.ws.length:Int)+1,0,k,ev.length,false⟩∧ws'=s.ws++[(key:Int)]∧lat'=s.lat)∨(n % 2=1∧o'=⟨p,3+n % 2,key,0,0,k,ev.length,false⟩∧ws'=s.ws∧lat'=s.lat)):=by
     by_cases h2:n % 2=0
     ·rw [if_pos h2] at hstep;exact ⟨_,_,_,hstep,.inl ⟨h2,by rw [h2];rfl,rfl,rfl⟩⟩
     ·have h3:n % 2=1:=by omega
      rw [if_neg h2] at hstep;exact ⟨_,_,_,hstep,.inr ⟨h3,by rw [h3];rfl,rfl,rfl⟩⟩
    have Hst:=Lib.hid hst;clear hst hstep Hs ok inv;have hE:=hsz
    go_upto_if 48 with fail
    have gwx:=gw.below (w':=(wr.alloc (.cells #[.int .i64 p,.bool true,.int .i64 n] 53)).alloc (.cells #[.int .i64 p,.int .i64 (3+n % 2),.int .i64 key,.int .i64 0,.int .i64 0,.int .i64 k,.int .i64 ev.length,.bool false] 43)) (((Below.refl _ _).alloc (Nat.le_refl _) _).alloc zc _);have gws:∀ v,GQ wa (((wr.alloc (.cells #[.int .i64 p,.bool true,.int .i64 n] 53)).alloc (.cells #[.int .i64 p,.int .i64 (3+n % 2),.int .i64 key,.int .i64 0,.int .i64 0,.int .i64 k,.int .i64 ev.length,.bool false] 43)).setCell ⟨wr.heap.size+1,3,none⟩ v) s.out s.ws s.opn s.lat A1 c1 A2 c2 A9 c9:=fun v=>gw.below ((((Below.refl _ _).alloc (Nat.le_refl _) _).alloc zc _).setCell zc _);have be1:Blk ((wr.alloc (.cells #[.int .i64 p,.bool true,.int .i64 n] 53)).alloc (.cells #[.int .i64 p,.int .i64 (3+n % 2),.int .i64 key,.int .i64 0,.int .i64 0,.int .i64 k,.int .i64 ev.length,.bool false] 43)) wr.heap.size 53 (EvV.vals ⟨p,true,n⟩):=(Blk.new wr 53 (EvV.vals ⟨p,true,n⟩)).alloc _;have bo1:Blk ((wr.alloc (.cells #[.int .i64 p,.bool true,.int .i64 n] 53)).alloc (.cells #[.int .i64 p,.int .i64 (3+n % 2),.int .i64 key,.int .i64 0,.int .i64 0,.int .i64 k,.int .i64 ev.length,.bool false] 43)) (wr.heap.size+1) 43 (OpV.vals ⟨p,3+n % 2,key,0,0,k,ev.length,false⟩):=by
     have:=Blk.new (wr.alloc (.cells #[.int .i64 p,.bool true,.int .i64 n] 53)) 43 (OpV.vals ⟨p,3+n % 2,key,0,0,k,ev.length,false⟩);simp only [World.size_alloc] at this;exact this
    have sz1:wr.heap.size+2≤((wr.alloc (.cells #[.int .i64 p,.bool true,.int .i64 n] 53)).alloc (.cells #[.int .i64 p,.int .i64 (3+n % 2),.int .i64 key,.int .i64 0,.int .i64 0,.int .i64 k,.int .i64 ev.length,.bool false] 43)).heap.size:=by simp
    obtain ⟨w1,hw1⟩:∃ w1,w1=(wr.alloc (.cells #[.int .i64 p,.bool true,.int .i64 n] 53)).alloc (.cells #[.int .i64 p,.int .i64 (3+n % 2),.int .i64 key,.int .i64 0,.int .i64 0,.int .i64 k,.int .i64 ev.length,.bool false] 43):=⟨_,rfl⟩
    rw [← hw1] at gwx gws be1 bo1 sz1;rw [← hw1];clear hw1 gw q0 q1 q2;obtain ⟨E,hE2⟩:∃ E,E=wr.heap.size:=⟨_,rfl⟩
    rw [← hE2] at gws be1 bo1 sz1 hsz hE ⊢;clear hE2;obtain ⟨x0,x1,x2,x3,x4,x5,x6,x7⟩:=bo1.op
    go_cut [7] (fun v7 wx=>∃ A3 c3,v7=.slice A3 ws'.length c3∧GQ wa wx s.out ws' s.opn lat' A1 c1 A3 c3 A9 c9∧Blk wx E 53 (EvV.vals ⟨p,true,n⟩)∧Blk wx (E+1) 43 o'.vals∧E+2≤wx.heap.size)
    case first=>
     rcases hcase with ⟨h2,rfl,rfl,rfl⟩|⟨h2,rfl,rfl,rfl⟩
     ·have h2' : ((3+n % 2) == 3)=true:=by simp;omega
      have f3:=bo1.frozen 3;have bo3:=bo1.set_ 3 (.int .i64 ((s.ws.length:Int)+1));have be3:=be1.far (p:=⟨E+1,3,none⟩) zc (.int .i64 ((s.ws.length:Int)+1));have gw3:=gws (.int .i64 ((s.ws.length:Int)+1));have hsz3:(w1.setCell ⟨E+1,3,none⟩ (.int .i64 ((s.ws.length:Int)+1))).heap.size=w1.heap.size:=by simp
      have y2:(w1.setCell ⟨E+1,3,none⟩ (.int .i64 ((s.ws.length:Int)+1))).cell? ⟨E+1,2,none⟩=some (.int .i64 key):=bo3.cell 2;clear gws gwx
      go_wp2_with (at_builtin;go_loud (refine xp znc gw3.pu rfl (.tmp 53) (.tmp 56) rfl rfl (by rw [hsz3];rfl) rfl XX za za za ?_;intro A5 c5 w5 ho5 hb5 hg5 hl5;have gw5:=gw3.appWs ho5 hb5 hg5 hl5;have bo5:=bo3.grown hg5 (YI gw3.pu bo3 zg);have be5:=be3.grown hg5 (YI gw3.pu be3 zg);have hsz5:=hb5.size))
      go_meet
      case rel=>exact ⟨A5,c5,by simp,gw5,be5,bo5,by simp at hsz5;omega⟩
     ·have h2' : ((3+n % 2) == 3)=false:=by simp;omega
      go_wp2_with fail
      go_meet
      case rel=>exact ⟨A2,c2,rfl,gwx,be1,bo1,by omega⟩
    case rest=>
     obtain ⟨A3,c3,rfl,gx,be2,bo2,sz2⟩:=hcut;obtain rfl:lat'=s.lat:=by rcases hcase with ⟨_,_,_,h⟩|⟨_,_,_,h⟩ <;> exact h
     clear hcase gwx be1 bo1 x0 x1 x2 x3 x4 x5 x6 x7;obtain ⟨x0,x1,x2,x3,x4,x5,x6,x7⟩:=bo2.op;have y0:wc.cell? ⟨E,0,none⟩=some (.int .i64 p):=be2.cell 0;have fo:=gx.opn.frozen p;have xo:=gx.opn.int (i:=p) hlop;have g2:=gx.setOpn p s.out.length;have bo3:=bo2.far (p:=⟨wa.heap.size,p,none⟩) zx (.int .i64 s.out.length);obtain ⟨z0,z1,z2,z3,z4,z5,z6,z7⟩:=bo3.op;have hsz2:(wc.setCell ⟨wa.heap.size,p,none⟩ (.int .i64 s.out.length)).heap.size=wc.heap.size:=by simp
     have hszc:=gx.sz
     go_wp2_with (at_builtin;go_loud (refine xp zpy g2.out rfl (.tmp 64) (.tmp 66) rfl rfl (by rw [hsz2];rfl) (cs:=o'.vals) rfl o'.one za za za ?_;intro A4 c4 w4 ho4 hb4 hg4 hl4))
     go_roundw
     case rel=>exact ⟨k+1,A4,c4,A3,c3,A9,c9,by omega,by go_num,by rw [Hst.out];simp,by rw [Hst.out],by rw [Hst.out],by rw [Hst.out];exact g2.appOut ho4 hb4 hg4⟩
     case measure=>simp [intOf];omega
   | false=>
    rw [hi] at q1;have hpe:(nth ev k).p=(p:Int):=hp;obtain ⟨j,j1,j2,j3,j4⟩:=ok.at_ Hgood.out hlt hi hpe;have hj0:(0:Int)≤(j:Int):=by omega
    have hjl:(j:Int)<(s.out.length:Int):=by omega
    obtain ⟨oj,hoj⟩:∃ oj,nth s.out j=oj:=⟨_,rfl⟩
    have hsm:=inv.sm _ (zC j2);rw [hoj] at hsm;obtain ⟨key,hkey⟩:∃ key:Nat,oj.key=(key:Int):=⟨oj.key.toNat,by have:=hsm.2.1;omega⟩
    have hkey3:(key:Int)<3:=by have:=hsm.2.1;omega
    have hkey0:(0:Int)≤(key:Int):=by omega
    obtain ⟨o',lat',hst,hcase⟩:∃ (o' : OpV) (lat' : List Int),zbW ev (k+1)=⟨s.out.set j o',s.ws,s.opn,lat'⟩∧((oj.k=4∧o'={ oj with done:=true,ret:=(k:Int),res:=xz s.ws s.lat oj.key n }∧lat'=s.lat++[xz s.ws s.lat oj.key n])∨(¬ oj.k=4∧o'={ oj with done:=true,ret:=(k:Int) }∧lat'=s.lat)):=by
     have hjn:(nth s.opn p).toNat=j:=by omega
     have e:zbW ev (k+1)=zmS k (nth ev k) s:=by rw [Hs.out,zcR,hi];simp only [Bool.false_eq_true,if_false]
     unfold zmS at e;rw [hpn,hjn,hn,hoj] at e;by_cases h4:oj.k=4
     ·rw [if_pos h4] at e;exact ⟨_,_,e,.inl ⟨h4,rfl,rfl⟩⟩
     ·rw [if_neg h4] at e;exact ⟨_,_,e,.inr ⟨h4,rfl,rfl⟩⟩
    have Hst:=Lib.hid hst;clear hst Hs;obtain ⟨g,rfl,hg2,hgw⟩:=zhU gw.out za;obtain ⟨⟨e0,e1,e2,e3,e4,e5,e6,e7⟩,_⟩:=gw.cells j2;rw [hoj] at e0 e1 e2 e3 e4 e5 e6 e7;have xo:=gw.opn.int (i:=p) hlop;rw [j1] at xo;have Hsm:=Lib.hid hsm;have Hoj:=Lib.hid hoj;have Hj:=Lib.hid (And.intro j1 (And.intro j3 j4));have Hkey:=Lib.hid hkey;clear ok inv hsm hoj j1 j3 j4 hkey hpe;have hlt1:wa.heap.size<wr.heap.size:=by omega
    go_upto_region 19 with fail
    have be1:Blk ((wr.alloc (.cells #[.int .i64 p,.bool false,.int .i64 n] 53)).alloc (.cells #[.int .i64 oj.p,.int .i64 oj.k,.int .i64 oj.key,.int .i64 oj.arg,.int .i64 oj.res,.int .i64 oj.call,.int .i64 oj.ret,.bool oj.done] 43)) wr.heap.size 53 (EvV.vals ⟨p,false,n⟩):=(Blk.new wr 53 (EvV.vals ⟨p,false,n⟩)).alloc _;have bo1:Blk ((wr.alloc (.cells #[.int .i64 p,.bool false,.int .i64 n] 53)).alloc (.cells #[.int .i64 oj.p,.int .i64 oj.k,.int .i64 oj.key,.int .i64 oj.arg,.int .i64 oj.res,.int .i64 oj.call,.int .i64 oj.ret,.bool oj.done] 43)) (wr.heap.size+1) 43 oj.vals:=by
     have:=Blk.new (wr.alloc (.cells #[.int .i64 p,.bool false,.int .i64 n] 53)) 43 oj.vals;simp only [World.size_alloc] at this;exact this
    have B1:Below wr.heap.size wr ((wr.alloc (.cells #[.int .i64 p,.bool false,.int .i64 n] 53)).alloc (.cells #[.int .i64 oj.p,.int .i64 oj.k,.int .i64 oj.key,.int .i64 oj.arg,.int .i64 oj.res,.int .i64 oj.call,.int .i64 oj.ret,.bool oj.done] 43)):=((Below.refl _ _).alloc (Nat.le_refl _) _).alloc zc _;have sz1:wr.heap.size+2≤((wr.alloc (.cells #[.int .i64 p,.bool false,.int .i64 n] 53)).alloc (.cells #[.int .i64 oj.p,.int .i64 oj.k,.int .i64 oj.key,.int .i64 oj.arg,.int .i64 oj.res,.int .i64 oj.call,.int .i64 oj.ret,.bool oj.done] 43)).heap.size:=by simp
    obtain ⟨w1,hw1⟩:∃ w1,w1=(wr.alloc (.cells #[.int .i64 p,.bool false,.int .i64 n] 53)).alloc (.cells #[.int .i64 oj.p,.int .i64 oj.k,.int .i64 oj.key,.int .i64 oj.arg,.int .i64 oj.res,.int .i64 oj.call,.int .i64 oj.ret,.bool oj.done] 43):=⟨_,rfl⟩
    rw [← hw1] at be1 bo1 B1 sz1;rw [← hw1];clear hw1 q0 q1 q2 e0 e1 e2 e3 e4 e5 e6 e7 xo;have f7:=bo1.frozen 7;have f6:=bo1.frozen 6;obtain ⟨x0,x1,x2,x3,x4,x5,x6,x7⟩:=bo1.op
    go_upto_if 82 with fail
    have bo2:=(bo1.set_ 7 (.bool true)).set_ 6 (.int .i64 k);have be2:=(be1.far (p:=⟨wr.heap.size+1,7,none⟩) zc (.bool true)).far (p:=⟨wr.heap.size+1,6,none⟩) zc (.int .i64 k);have B2:=(B1.setCell (p:=⟨wr.heap.size+1,7,none⟩) zc (.bool true)).setCell (p:=⟨wr.heap.size+1,6,none⟩) zc (.int .i64 k);have sz2:wr.heap.size+2≤((w1.setCell ⟨wr.heap.size+1,7,none⟩ (.bool true)).setCell ⟨wr.heap.size+1,6,none⟩ (.int .i64 k)).heap.size:=by simpa using sz1
    obtain ⟨w2,hw2⟩:∃ w2,w2=(w1.setCell ⟨wr.heap.size+1,7,none⟩ (.bool true)).setCell ⟨wr.heap.size+1,6,none⟩ (.int .i64 k):=⟨_,rfl⟩
    rw [← hw2] at be2 bo2 B2 sz2;rw [← hw2];clear hw2 x0 x1 x2 x3 x4 x5 x6 x7 f7 f6 be1 bo1 B1 sz1;have bo2' : Blk w2 (wr.heap.size+1) 43 (OpV.vals { oj with done:=true,ret:=(k:Int) }):=bo2;clear bo2
    go_cut [8] (fun v8 wx=>∃ A5 c5,v8=.slice A5 lat'.length c5∧GQ wa wx s.out s.ws s.opn lat' (some ⟨g,0,none⟩) c1 A2 c2 A5 c5∧Blk wx (wr.heap.size+1) 43 o'.vals)
    case first=>
     rcases hcase with ⟨h4,rfl,rfl⟩|⟨h4,rfl,rfl⟩
     ·have h4' : (oj.k == 4)=true:=by simpa using h4
      clear h4;have gw2:=gw.below B2;have c2' : w2.cell? ⟨wr.heap.size+1,2,none⟩=some (.int .i64 oj.key):=bo2'.cell 2;have cn:w2.cell? ⟨wr.heap.size,2,none⟩=some (.int .i64 n):=be2.cell 2;have hws2:=Sl.of_own gw2.pu rfl;have htk2:=Sl.of_own gw2.tk rfl;have hwl:s.ws.length≤1000000:=by omega
      have htl:s.lat.length≤1000000:=by omega
      have g3' : 0≤n:=g3;have g4' : n≤1000000:=by omega
      clear gw2
      go_upto_region 23 with (go_at_call 29;refine (zjh _ _ _ _ _ _ _ _ _ hws2 htk2 hwl htl g3' g4').mono ?_;rintro e w3 ⟨rfl,hb3⟩;have bo3:=bo2'.below hb3 za;have f4:=bo3.frozen 4;have k4:=bo3.cell 4)
      have B4:=(B2.trans (hb3.mono za)).setCell (p:=⟨wr.heap.size+1,4,none⟩) zc (.int .i64 (xz s.ws s.lat oj.key n));have gw4:=gw.below B4;have bo4:=bo3.set_ 4 (.int .i64 (xz s.ws s.lat oj.key n));have k4' : (w3.setCell ⟨wr.heap.size+1,4,none⟩ (.int .i64 (xz s.ws s.lat oj.key n))).cell? ⟨wr.heap.size+1,4,none⟩=some (.int .i64 (xz s.ws s.lat oj.key n)):=bo4.cell 4;have hsz3:=hb3.size;have hsz4:(w3.setCell ⟨wr.heap.size+1,4,none⟩ (.int .i64 (xz s.ws s.lat oj.key n))).heap.size=w3.heap.size:=by simp
      go_wp2_with (at_builtin;go_loud (refine xp znc gw4.tk rfl (.tmp 91) (.tmp 94) rfl rfl (by rw [hsz4];rfl) rfl XX za za za ?_;intro A5 c5 w5 ho5 hb5 hg5 hl5;have gw5:=gw4.appTk ho5 hb5 hg5 hl5;have bo5:=bo4.grown hg5 (YI gw4.tk bo4 zg)))
      go_meet
      case rel=>exact ⟨A5,c5,by simp,gw5,bo5⟩
     ·have h4' : (oj.k == 4)=false:=by simpa using h4
      have gw2:=gw.below B2
      go_wp2_with fail
      go_meet
      case rel=>exact ⟨A9,c9,rfl,gw2,bo2'⟩
    case rest=>
     obtain ⟨A5,c5,rfl,gx,bo3⟩:=hcut;clear hcase;obtain ⟨⟨e0,e1,e2,e3,e4,e5,e6,e7⟩,f0,f1,f2,f3,f4,f5,f6,f7⟩:=gx.cells j2;obtain ⟨x0,x1,x2,x3,x4,x5,x6,x7⟩:=bo3.op
     go_wp2_with fail
     go_roundw
     case rel=>exact ⟨k+1,some ⟨g,0,none⟩,c1,A2,c2,A5,c5,by omega,by go_num,by rw [Hst.out];simp,by rw [Hst.out],by rw [Hst.out],by rw [Hst.out];exact gx.putOp hg2 j2 o'⟩
     case measure=>simp [intOf];omega
  ·obtain rfl:k=ev.length:=by omega
   go_wp2_with fail
   go_ret
   have hszw:=hba.size;exact ⟨A1,c1,rfl,Wn gw.out za,hba.trans (gw.bel.mono hszw)⟩
end
section
open Go.RowKit
attribute [local go_sem ↓] Go.wp_at_zero Go.wp_at_succ
def mixed (l:List Int) (which:Int):List OpV:=
 if ZP which 3=0 then zlv l 12 else if ZP which 3=1 then UY l 12 else Xq l 12
/-! ### what the generated operations are -/
theorem zhD {ev:List EvV} {out:List OpV} {opn:List Int} (hg:Xu ev) (hl:ev.length≤40) (h:Xv ev ev.length out opn) (hsm:∀ o∈out,zkb o):xv out=0∧(∀ o∈out,Ve o):=by
 have hle:∀ k,Vs ev k≤k:=by
  intro k
  induction k with
  | zero => exact Nat.le_refl _
  | succ k ih => unfold Vs; split <;> omega
 have hlen:out.length≤40:=by have:=h.len;have:=hle ev.length;omega
 refine ⟨h.history hg (Nat.le_refl _) za fun o ho=>(hsm o ho).1,fun o ho=>?_⟩;obtain ⟨j,hj,rfl⟩:=List.getElem_of_mem ho;rw [← nth_eq hj];have hs:=hsm _ (zC hj);unfold zkb at hs;obtain ⟨c,c1,c2,_,c4⟩:=h.call j hj;have hp:=(hg c za).1;have hr:0≤(nth out j).ret∧(nth out j).ret≤40:=by
  cases hd:(nth out j).done with
  | true => obtain ⟨r, a1, a2, _⟩ := h.ret j hj hd; omega
  | false => have := (h.stay j hj hd).1; omega
 unfold Ve I64;omega
/-! ### Bent -/
end
section
open Go.RowKit
attribute [local go_sem ↓] Go.wp_at_zero Go.wp_at_succ
end
section
open Go.RowKit
theorem zgY (l:List OpV) (hlen:l.length≤1000000000):zX Try.prog 65 [.list 8 (l.map OpV.fv)] .fr (.int .i64 (zbj l)) where
 go:=by kernel_rfl
 hand:=rfl
 calls w I vs hI hv:=by
  obtain ⟨_,rfl,e1⟩:=hv.inv1;obtain ⟨A,c,rfl,_,hs⟩:=opT.of e1 hI;refine (zjl A c l w hs hlen).mono ?_;rintro e w' ⟨rfl,hb⟩;exact ⟨_,rfl,hb,.int _ _⟩
end
end Go.Proofs.Ytmnmakhpjgjdaaa
