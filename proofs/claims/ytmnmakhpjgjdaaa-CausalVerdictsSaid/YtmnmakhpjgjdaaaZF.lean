/-
  Some texts as one: Regs, RegsWalk, Swaps, SwapsWalk, Queues, QueuesWalk, Bent20, BentWalk, Lives20, FmHist.
-/
import Derived.Test.YtmnmakhpjgjdaaaZE
import Derived.Deep.RegionHeld3
import Derived.Deep.DrawnRows
import Derived.Deep.DeepCutAuto
import Derived.Test.YtmnmakhpjgjdaaaZD
namespace Go.Proofs.Ytmnmakhpjgjdaaa
set_option linter.unusedVariables false
set_option maxHeartbeats 16000000
section
open Go.RowKit
attribute [local go_sem ↓] Go.wp_at_zero Go.wp_at_succ
structure ZO where
 out:List OpV
 ws:List Int
 opn:List Int
 lat:List Int
 deriving Inhabited
def zaW:ZO:=⟨[],[],[0,0,0,0],[0,0,0]⟩
def zea (ev:List EvV) (i:Nat) (e:EvV) (s:ZO):ZO:=
 if e.n % 2=1 then ⟨s.out++[⟨e.p,1,1+e.n / 2 % 2,(s.ws.length:Int)+1,0,i,ev.length,false⟩],s.ws++[1+e.n / 2 % 2],s.opn.set e.p.toNat s.out.length,s.lat.set (1+e.n / 2 % 2).toNat ((s.ws.length:Int)+1)⟩
 else ⟨s.out++[⟨e.p,0,1+e.n / 2 % 2,0,0,i,ev.length,false⟩],s.ws,s.opn.set e.p.toNat s.out.length,s.lat⟩
def zlA (fresh:Bool) (i:Nat) (e:EvV) (s:ZO):ZO:=
 { s with out:=s.out.set (nth s.opn e.p.toNat).toNat { nth s.out (nth s.opn e.p.toNat).toNat with done:=true,ret:=i,res:=if (nth s.out (nth s.opn e.p.toNat).toNat).k=0 then xJ s.ws (nth s.out (nth s.opn e.p.toNat).toNat).key e.n (nth s.lat (nth s.out (nth s.opn e.p.toNat).toNat).key.toNat) fresh else (nth s.out (nth s.opn e.p.toNat).toNat).res } }
def Ur (ev:List EvV) (fresh:Bool) (i:Nat) (s:ZO):ZO:=
 if (nth ev i).inv then zea ev i (nth ev i) s else zlA fresh i (nth ev i) s
def Yx (ev:List EvV) (fresh:Bool) (k:Nat):ZO:=zbe (Ur ev fresh) zaW k
def zaU (l:List Int):Bool:=decide (zci l 100 % 2=1)
def yx (l:List Int) (most:Int):List OpV:=(Yx (Zk l most) (zaU l) (Zk l most).length).out
def zga (o:OpV):Prop:=(0≤o.k∧o.k≤4)∧(1≤o.key∧o.key≤2)∧(0≤o.arg∧o.arg≤40)∧(0≤o.res∧o.res≤40)
structure zov (ev:List EvV) (k:Nat) (s:ZO):Prop where
 ok:WG ev k s.out s.opn
 sm:∀ o∈s.out,zga o
 lat:s.lat.length=3
 latx:∀ x∈s.lat,0≤x∧x≤40
 ws:s.ws.length≤k
 wsx:∀ x∈s.ws,1≤x∧x≤2
theorem We {α:Type} {l:List α} {i:Nat} {v x:α} (h:x∈l.set i v):x∈l∨x=v:=List.mem_or_eq_of_mem_set h
theorem zbu {ev:List EvV} (fresh:Bool) (hg:WB ev) (hl:ev.length≤40):∀ k,k≤ev.length→zov ev k (Yx ev fresh k)
 | 0, _ => ⟨WG.zero ev, fun _ h => by simp [Yx, zbe, zaW] at h, rfl, fun x h => by simp [Yx, zbe, zaW] at h; omega, Nat.zero_le _, fun _ h => by simp [Yx, zbe, zaW] at h⟩
 | k + 1,hk=>by
  have ih:=zbu fresh hg hl k za;have hs:Yx ev fresh (k+1)=Ur ev fresh k (Yx ev fresh k):=rfl;rw [hs];generalize Yx ev fresh k=s at ih;obtain ⟨g1,g2,g3⟩:=hg k za;obtain ⟨ok,sm,lat,latx,ws,wsx⟩:=ih;obtain ⟨p,hp⟩:∃ p:Nat,(nth ev k).p=p:=⟨(nth ev k).p.toNat,by omega⟩
  unfold Ur;cases hi:(nth ev k).inv with
  | true=>
   simp only [if_true];unfold zea;have hpn:(nth ev k).p.toNat=p:=by omega
   rw [hpn];split
   ·refine ⟨ok.add hg za hi rfl rfl rfl rfl rfl hp,fun o ho=>?_,by simpa using lat,fun x hx=>?_,by simp;omega,fun x hx=>?_⟩
    ·rcases List.mem_append.1 ho with h|h
     ·exact sm o h
     ·simp only [List.mem_singleton] at h;subst h;unfold zga;dsimp only;omega
    ·rcases We hx with h|h
     ·have:=latx x h;omega
     ·omega
    ·rcases List.mem_append.1 hx with h|h
     ·exact wsx x h
     ·simp only [List.mem_singleton] at h;omega
   ·refine ⟨ok.add hg za hi rfl rfl rfl rfl rfl hp,fun o ho=>?_,lat,fun x hx=>?_,by dsimp only;omega,wsx⟩
    ·rcases List.mem_append.1 ho with h|h
     ·exact sm o h
     ·simp only [List.mem_singleton] at h;subst h;unfold zga;dsimp only;omega
    ·have:=latx x hx;omega
  | false=>
   simp only [Bool.false_eq_true,if_false];unfold zlA;have hpn:(nth ev k).p.toNat=p:=by omega
   rw [hpn];obtain ⟨j,j1,j2,j3,j4⟩:=ok.at_ hg za hi hp;have hjn:(nth s.opn p).toNat=j:=by omega
   rw [hjn];refine ⟨ok.put za hi j2 za j4 rfl rfl rfl rfl,fun o ho=>?_,lat,fun x hx=>by have:=latx x hx;omega,by dsimp only;omega,wsx⟩;rcases We ho with h|h
   ·exact sm o h
   ·subst h;have hj:=sm _ (zy j2);unfold zga at hj ⊢;dsimp only;refine ⟨hj.1,hj.2.1,hj.2.2.1,?_⟩;split
    ·have hlx:=latx _ (zy (l:=s.lat) (i:=(nth s.out j).key.toNat) za);have:=ziv s.ws (nth s.out j).key (nth ev k).n (nth s.lat (nth s.out j).key.toNat) fresh za;omega
    ·exact hj.2.2.2
theorem zlf {w:World} {base:Nat} {t:TypeId} {g n c:Nat} {out:List OpV} (h:w.ownsRow base t 8 (.slice (some ⟨g,0,none⟩) n c) n (flat OpV.vals out)) {j:Nat} (hj:j<out.length) (o:OpV) :
  ((((((((w.setCell ⟨g,j * 8,none⟩ (.int .i64 o.p)).setCell ⟨g,j * 8+1,none⟩ (.int .i64 o.k)).setCell ⟨g,j * 8+2,none⟩ (.int .i64 o.key)).setCell ⟨g,j * 8+3,none⟩ (.int .i64 o.arg)).setCell ⟨g,j * 8+4,none⟩ (.int .i64 o.res)).setCell ⟨g,j * 8+5,none⟩ (.int .i64 o.call)).setCell ⟨g,j * 8+6,none⟩ (.int .i64 o.ret)).setCell ⟨g,j * 8+7,none⟩ (.bool o.done)).ownsRow base t 8 (.slice (some ⟨g,0,none⟩) n c) n (flat OpV.vals (out.set j o)):=by
 have s0:=(h.stored (j * 8+0) (.int .i64 o.p)).1;have s1:=(s0.stored (j * 8+1) (.int .i64 o.k)).1;have s2:=(s1.stored (j * 8+2) (.int .i64 o.key)).1;have s3:=(s2.stored (j * 8+3) (.int .i64 o.arg)).1;have s4:=(s3.stored (j * 8+4) (.int .i64 o.res)).1;have s5:=(s4.stored (j * 8+5) (.int .i64 o.call)).1;have s6:=(s5.stored (j * 8+6) (.int .i64 o.ret)).1;have s7:=(s6.stored (j * 8+7) (.bool o.done)).1;have step:∀ (l:List OpV) (m:Nat) (u:Value) (a:OpV),l.length=out.length→m<8→a.vals=(nth l j).vals.set m u→(flat OpV.vals l).set (j * 8+m) u=flat OpV.vals (l.set j a):=fun l m u a hl hm ha=>
  zdJ OpV.wide l j m u a za hm (by rw [← nth_eq za];exact ha)
 have q0:=step out 0 (.int .i64 o.p) { nth out j with p:=o.p } rfl za rfl;have q1:=step _ 1 (.int .i64 o.k) { nth out j with p:=o.p,k:=o.k } (by simp:(out.set j { nth out j with p:=o.p }).length=out.length) za (by rw [zL hj];rfl);have q2:=step _ 2 (.int .i64 o.key) { nth out j with p:=o.p,k:=o.k,key:=o.key } (by simp:(out.set j { nth out j with p:=o.p,k:=o.k }).length=out.length) za (by rw [zL hj];rfl);have q3:=step _ 3 (.int .i64 o.arg) { nth out j with p:=o.p,k:=o.k,key:=o.key,arg:=o.arg } (by simp:(out.set j { nth out j with p:=o.p,k:=o.k,key:=o.key }).length=out.length) za (by rw [zL hj];rfl);have q4:=step _ 4 (.int .i64 o.res) { nth out j with p:=o.p,k:=o.k,key:=o.key,arg:=o.arg,res:=o.res } (by simp:(out.set j { nth out j with p:=o.p,k:=o.k,key:=o.key,arg:=o.arg }).length=out.length) za (by rw [zL hj];rfl);have q5:=step _ 5 (.int .i64 o.call) { nth out j with p:=o.p,k:=o.k,key:=o.key,arg:=o.arg,res:=o.res,call:=o.call } (by simp:(out.set j { nth out j with p:=o.p,k:=o.k,key:=o.key,arg:=o.arg,res:=o.res }).length=out.length) za (by rw [zL hj];rfl);have q6:=step _ 6 (.int .i64 o.ret) { nth out j with p:=o.p,k:=o.k,key:=o.key,arg:=o.arg,res:=o.res,call:=o.call,ret:=o.ret } (by simp:(out.set j { nth out j with p:=o.p,k:=o.k,key:=o.key,arg:=o.arg,res:=o.res,call:=o.call }).length=out.length) za (by rw [zL hj];rfl);have q7:=step _ 7 (.bool o.done) o (by simp:(out.set j { nth out j with p:=o.p,k:=o.k,key:=o.key,arg:=o.arg,res:=o.res,call:=o.call,ret:=o.ret }).length=out.length) za (by rw [zL hj];rfl);rw [q0,q1,List.set_set,q2,List.set_set,q3,List.set_set,q4,List.set_set,q5,List.set_set,q6,List.set_set,q7,List.set_set] at s7;simpa using s7
structure GWg (wa w:World) (out:List OpV) (ws opn lat:List Int) (A1:Option Addr) (c1:Nat) (A2:Option Addr) (c2:Nat):Prop where
 out:w.ownsRow (wa.heap.size+2) 43 8 (.slice A1 out.length c1) out.length (flat OpV.vals out)
 ws:w.ownsRow (wa.heap.size+2) 3 1 (.slice A2 ws.length c2) ws.length (flat zai ws)
 opn:Blk w wa.heap.size 3 (flat zai opn)
 lat:Blk w (wa.heap.size+1) 3 (flat zai lat)
 bel:Below wa.heap.size wa w
 sz:wa.heap.size+2≤w.heap.size
section
variable {wa w w' : World} {out:List OpV} {ws opn lat:List Int} {A1 A2:Option Addr} {c1 c2:Nat}
theorem GWg.below (h:GWg wa w out ws opn lat A1 c1 A2 c2) (hb:Below w.heap.size w w'):GWg wa w' out ws opn lat A1 c1 A2 c2:=
 ⟨zfC h.out hb,zfC h.ws hb,h.opn.below hb (by have:=h.sz;omega),h.lat.below hb (by have:=h.sz;omega),h.bel.trans (hb.mono (by have:=h.sz;omega)),by have:=h.sz;have:=hb.size;omega⟩
theorem GWg.setLat (h:GWg wa w out ws opn lat A1 c1 A2 c2) (i:Nat) (x:Int):GWg wa (w.setCell ⟨wa.heap.size+1,i,none⟩ (.int .i64 x)) out ws opn (lat.set i x) A1 c1 A2 c2:=
 ⟨WR h.out zc _,WR h.ws zc _,h.opn.far zc _,h.lat.setInt i x,h.bel.setCell zc _,by simpa using h.sz⟩
theorem GWg.setOpn (h:GWg wa w out ws opn lat A1 c1 A2 c2) (i:Nat) (x:Int):GWg wa (w.setCell ⟨wa.heap.size,i,none⟩ (.int .i64 x)) out ws (opn.set i x) lat A1 c1 A2 c2:=
 ⟨WR h.out zc _,WR h.ws zc _,h.opn.setInt i x,h.lat.far zc _,h.bel.setCell zc _,by simpa using h.sz⟩
theorem GWg.appWs (h:GWg wa w out ws opn lat A1 c1 A2 c2) {x:Int} {A3:Option Addr} {c3:Nat} (ho:w'.ownsRow (wa.heap.size+2) 3 1 (.slice A3 (ws.length+1) c3) (ws.length+1) (flat zai ws++[.int .i64 x])) (hb:Below (wa.heap.size+2) w w') (hg:w.grownBy w' (Value.slice A2 ws.length c2).ownBlock) :
  GWg wa w' out (ws++[x]) opn lat A1 c1 A3 c3:=
 ⟨h.out.kept hg (Ul h.out h.ws zg),by rw [List.length_append,ZZ,Vn];simpa [zai] using ho,h.opn.below hb za,h.lat.below hb za,h.bel.trans (hb.mono za),by have:=h.sz;have:=hb.size;omega⟩
theorem GWg.appOut (h:GWg wa w out ws opn lat A1 c1 A2 c2) {o:OpV} {A3:Option Addr} {c3:Nat} (ho:w'.ownsRow (wa.heap.size+2) 43 8 (.slice A3 (out.length+1) c3) (out.length+1) (flat OpV.vals out++o.vals)) (hb:Below (wa.heap.size+2) w w') (hg:w.grownBy w' (Value.slice A1 out.length c1).ownBlock) :
  GWg wa w' (out++[o]) ws opn lat A3 c3 A2 c2:=
 ⟨by rw [List.length_append,ZZ,Vn];simpa using ho,h.ws.kept hg (Ul h.ws h.out zg),h.opn.below hb za,h.lat.below hb za,h.bel.trans (hb.mono za),by have:=h.sz;have:=hb.size;omega⟩
theorem GWg.putOp {g:Nat} (h:GWg wa w out ws opn lat (some ⟨g,0,none⟩) c1 A2 c2) (hgb:wa.heap.size+2≤g) {j:Nat} (hj:j<out.length) (o:OpV) :
  GWg wa ((((((((w.setCell ⟨g,j * 8,none⟩ (.int .i64 o.p)).setCell ⟨g,j * 8+1,none⟩ (.int .i64 o.k)).setCell ⟨g,j * 8+2,none⟩ (.int .i64 o.key)).setCell ⟨g,j * 8+3,none⟩ (.int .i64 o.arg)).setCell ⟨g,j * 8+4,none⟩ (.int .i64 o.res)).setCell ⟨g,j * 8+5,none⟩ (.int .i64 o.call)).setCell ⟨g,j * 8+6,none⟩ (.int .i64 o.ret)).setCell ⟨g,j * 8+7,none⟩ (.bool o.done)) (out.set j o) ws opn lat (some ⟨g,0,none⟩) c1 A2 c2:=by
 have hne:some g≠(Value.slice A2 ws.length c2).ownBlock:=by
  rcases Ul h.ws h.out zg with e|e
  ·rw [e];simp
  ·exact fun e2=>e (by rw [← e2];rfl)
 refine ⟨?_,?_,?_,?_,?_,by simpa using h.sz⟩
 ·have:=zlf h.out hj o;rwa [List.length_set]
 ·exact zZ (zZ (zZ (zZ (zZ (zZ (zZ (zZ h.ws hne _) hne _) hne _) hne _) hne _) hne _) hne _) hne _
 ·have e:wa.heap.size≠g:=by omega
  exact (((((((h.opn.far (p:=⟨g,_,none⟩) e _).far (p:=⟨g,_,none⟩) e _).far (p:=⟨g,_,none⟩) e _).far (p:=⟨g,_,none⟩) e _).far (p:=⟨g,_,none⟩) e _).far (p:=⟨g,_,none⟩) e _).far (p:=⟨g,_,none⟩) e _).far (p:=⟨g,_,none⟩) e _
 ·have e:wa.heap.size+1≠g:=by omega
  exact (((((((h.lat.far (p:=⟨g,_,none⟩) e _).far (p:=⟨g,_,none⟩) e _).far (p:=⟨g,_,none⟩) e _).far (p:=⟨g,_,none⟩) e _).far (p:=⟨g,_,none⟩) e _).far (p:=⟨g,_,none⟩) e _).far (p:=⟨g,_,none⟩) e _).far (p:=⟨g,_,none⟩) e _
 ·have e:wa.heap.size≤g:=by omega
  exact (((((((h.bel.setCell (p:=⟨g,_,none⟩) e _).setCell (p:=⟨g,_,none⟩) e _).setCell (p:=⟨g,_,none⟩) e _).setCell (p:=⟨g,_,none⟩) e _).setCell (p:=⟨g,_,none⟩) e _).setCell (p:=⟨g,_,none⟩) e _).setCell (p:=⟨g,_,none⟩) e _).setCell (p:=⟨g,_,none⟩) e _
theorem GWg.cells {g:Nat} (h:GWg wa w out ws opn lat (some ⟨g,0,none⟩) c1 A2 c2) {j:Nat} (hj:j<out.length) :
  (w.cell? ⟨g,j * 8,none⟩=some (.int .i64 (nth out j).p)∧w.cell? ⟨g,j * 8+1,none⟩=some (.int .i64 (nth out j).k)∧w.cell? ⟨g,j * 8+2,none⟩=some (.int .i64 (nth out j).key)∧w.cell? ⟨g,j * 8+3,none⟩=some (.int .i64 (nth out j).arg)∧
  w.cell? ⟨g,j * 8+4,none⟩=some (.int .i64 (nth out j).res)∧w.cell? ⟨g,j * 8+5,none⟩=some (.int .i64 (nth out j).call)∧w.cell? ⟨g,j * 8+6,none⟩=some (.int .i64 (nth out j).ret)∧w.cell? ⟨g,j * 8+7,none⟩=some (.bool (nth out j).done))∧
  (w.frozen? ⟨g,j * 8,none⟩=false∧w.frozen? ⟨g,j * 8+1,none⟩=false∧w.frozen? ⟨g,j * 8+2,none⟩=false∧w.frozen? ⟨g,j * 8+3,none⟩=false∧w.frozen? ⟨g,j * 8+4,none⟩=false∧w.frozen? ⟨g,j * 8+5,none⟩=false∧w.frozen? ⟨g,j * 8+6,none⟩=false∧w.frozen? ⟨g,j * 8+7,none⟩=false):=by
 have hs:=(Sl.of_own h.out rfl).op' hj;simp only [Nat.zero_add] at hs;exact ⟨hs,h.out.frozenAt _,h.out.frozenAt _,h.out.frozenAt _,h.out.frozenAt _,h.out.frozenAt _,h.out.frozenAt _,h.out.frozenAt _,h.out.frozenAt _⟩
end
end
section
open Go.RowKit
attribute [local go_sem ↓] Go.wp_at_zero Go.wp_at_succ
set_option maxRecDepth 100000 in
theorem zeb (A:Option Addr) (c:Nat) (l:List Int) (most:Int) (w:World) (h1:Sl zai w w.heap.size A l) (hl:∀ x∈l,I64 x) (hlen:l.length≤9223372036854775807) (hmost:I64 most) :
  Calls Try.prog 10 #[.slice A l.length c,.int .i64 most] w fun e w'=>∃ A1 c1,e=.returned (.slice A1 (yx l most).length c1)∧
   w'.ownsRow w.heap.size 43 8 (.slice A1 (yx l most).length c1) (yx l most).length (flat OpV.vals (yx l most))∧Below w.heap.size w w':=by
 have hmk4:∀ w,(Instr.makeSlice 22 (.int .i64 4) (.int .i64 4)).run Try.prog w=.ok (.slice (some ⟨w.heap.size,0,none⟩) 4 4) (w.alloc (.cells #[.int .i64 0,.int .i64 0,.int .i64 0,.int .i64 0] 3)):=fun _=>by kernel_rfl
 have hmk3:∀ w,(Instr.makeSlice 22 (.int .i64 3) (.int .i64 3)).run Try.prog w=.ok (.slice (some ⟨w.heap.size,0,none⟩) 3 3) (w.alloc (.cells #[.int .i64 0,.int .i64 0,.int .i64 0] 3)):=fun _=>by kernel_rfl
 obtain ⟨ev,hev⟩:∃ ev,Zk l most=ev:=⟨_,rfl⟩
 obtain ⟨fr,hfr⟩:∃ fr,zaU l=fr:=⟨_,rfl⟩
 have hreg:yx l most=(Yx ev fr ev.length).out:=by rw [yx,hev,hfr]
 rw [hreg];have hgood:=zaP l most;have hevl:=zcE l most;rw [hev] at hgood hevl;have hpk:=zmT l (most:=100) za;obtain ⟨pk,hpk2⟩:∃ pk,zci l 100=pk:=⟨_,rfl⟩
 rw [hpk2] at hpk;obtain ⟨hpk0,hpk1⟩:=hpk;have hfrv:(pk % 2 == 1)=fr:=by rw [← hfr,zaU,hpk2];rw [Bool.eq_iff_iff];simp
 have Hgood:=Lib.hid hgood;clear hgood hfr hreg
 go_enter Try.func10,Try.ntmps10
 go_upto_region 4 with (go_at_call 24;refine (ziF _ _ _ _ _ h1 hl hlen hmost).mono ?_;rintro e wa ⟨Ae,ce,rfl,hoe,hba⟩;rw [hev] at hoe ⊢)
 have hse:=Sl.of_own hoe rfl;have h1a:=h1.below hba;have hsza:=hba.size
 go_wp2_with (go_at_call 25;refine (zlh _ _ _ _ _ (((h1a.more hsza).keep fun p hp=>by rw [World.cell?_alloc_lt _ _ _ zw,World.cell?_alloc_lt _ _ _ hp]).more zw) hl hlen za za).mono ?_;rintro e w' ⟨rfl,rfl⟩;rw [hpk2])
 have Hh1:=Lib.hid h1;clear h1 h1a hl
 go_loopw [6,7,11] (fun v6 v7 i wr=>∃ (k:Nat) (A1:Option Addr) (c1:Nat) (A2:Option Addr) (c2:Nat),k≤ev.length∧i=.int .i64 k∧v6=.slice A1 (Yx ev fr k).out.length c1∧v7=.slice A2 (Yx ev fr k).ws.length c2∧
   GWg wa wr (Yx ev fr k).out (Yx ev fr k).ws (Yx ev fr k).opn (Yx ev fr k).lat A1 c1 A2 c2) (fun _ _ i _=>ev.length - (intOf i).toNat)
 case atStart=>
  refine ⟨0,none,0,none,0,by omega,rfl,rfl,rfl,World.ownsRow_nil _ _ _ _,World.ownsRow_nil _ _ _ _,(Blk.new wa 3 [.int .i64 0,.int .i64 0,.int .i64 0,.int .i64 0]).alloc _,?_,((Below.refl _ _).alloc (Nat.le_refl _) _).alloc zc _,by simp⟩;have:=Blk.new (wa.alloc (.cells #[.int .i64 0,.int .i64 0,.int .i64 0,.int .i64 0] 3)) 3 [.int .i64 0,.int .i64 0,.int .i64 0];simp only [World.size_alloc] at this;exact this
 case round=>
  obtain ⟨k,A1,c1,A2,c2,hk,rfl,rfl,rfl,gw⟩:=hrel;have hsz:=gw.sz;by_cases hlt:k<ev.length
  ·have inv:=zbu fr Hgood.out hevl k za;have Hs:=Lib.hid (show Yx ev fr (k+1)=Ur ev fr k (Yx ev fr k) from rfl);obtain ⟨s,hs⟩:∃ s,s=Yx ev fr k:=⟨_,rfl⟩
   rw [← hs] at gw inv Hs ⊢;clear hs;obtain ⟨be,oe,rfl,hbe,q0,q1,q2⟩:=(hse.below gw.bel).ev hlt;obtain ⟨⟨g1,g2⟩,⟨g3,g4⟩,_⟩:=Hgood.out k hlt;obtain ⟨p,hp⟩:∃ p:Nat,(nth ev k).p=p:=⟨(nth ev k).p.toNat,by omega⟩
   obtain ⟨n,hn⟩:∃ n,(nth ev k).n=n:=⟨_,rfl⟩
   rw [hp] at q0 g1 g2;rw [hn] at q2 g3 g4;have hp0:(0:Int)≤(p:Int):=by omega
   have hp4:(p:Int)<4:=by omega
   have hpn:(nth ev k).p.toNat=p:=by omega
   have ok:=inv.ok;have hlop:p<s.opn.length:=by have:=ok.lop;omega
   have hlat:=inv.lat;have hwsl:=inv.ws;have hol:s.out.length≤100:=by
    rcases Nat.eq_zero_or_pos s.out.length with h0|h0
    ·omega
    ·obtain ⟨c',_,c'2,_⟩:=ok.call (s.out.length - 1) za;have key:∀ j,j<s.out.length→∃ c:Nat,(nth s.out j).call=c∧c<k∧j≤c:=by
      intro j
      induction j with
      | zero => intro hj; obtain ⟨c, a, b, _⟩ := ok.call 0 hj; exact ⟨c, a, b, Nat.zero_le _⟩
      | succ j ih =>
       intro hj;obtain ⟨c,a,b,d⟩:=ih za;obtain ⟨c2,a2,b2,_⟩:=ok.call (j+1) hj;have:=ok.mono j (j+1) za hj;exact ⟨c2,a2,b2,by omega⟩
     obtain ⟨c,_,b,d⟩:=key (s.out.length - 1) za;omega
   cases hi:(nth ev k).inv with
   | true=>
    rw [hi] at q1;obtain ⟨key,hkey⟩:∃ key:Nat,1+n / 2 % 2=(key:Int):=⟨(1+n / 2 % 2).toNat,by omega⟩
    have hkey0:(0:Int)≤(key:Int):=by omega
    have hkey3:(key:Int)<3:=by omega
    have hstep:Yx ev fr (k+1)=zea ev k (nth ev k) s:=by rw [Hs.out,Ur,hi];rfl
    unfold zea at hstep;rw [hn,hp,hkey] at hstep;simp only [Int.toNat_natCast] at hstep;obtain ⟨o',ws',lat',hst,hcase⟩:∃ o' ws' lat',Yx ev fr (k+1)=⟨s.out++[o'],ws',s.opn.set p s.out.length,lat'⟩∧
      ((n % 2=1∧o'=⟨p,n % 2,key,(s.ws.length:Int)+1,0,k,ev.length,false⟩∧ws'=s.ws++[(key:Int)]∧lat'=s.lat.set key ((s.ws.length:Int)+1))∨(n % 2=0∧o'=⟨p,n % 2,key,0,0,k,ev.length,false⟩∧ws'=s.ws∧lat'=s.lat)):=by
     by_cases h2:n % 2=1
     ·rw [if_pos h2] at hstep;exact ⟨_,_,_,hstep,.inl ⟨h2,by rw [h2],rfl,rfl⟩⟩
     ·have h3:n % 2=0:=by omega
      rw [if_neg h2] at hstep;exact ⟨_,_,_,hstep,.inr ⟨h3,by rw [h3],rfl,rfl⟩⟩
    have Hst:=Lib.hid hst;clear hst hstep Hs ok inv;have hE:=hsz
    go_upto_if 53 with fail
    have gwx:=gw.below (w':=(wr.alloc (.cells #[.int .i64 p,.bool true,.int .i64 n] 53)).alloc (.cells #[.int .i64 p,.int .i64 (n % 2),.int .i64 key,.int .i64 0,.int .i64 0,.int .i64 k,.int .i64 ev.length,.bool false] 43)) (((Below.refl _ _).alloc (Nat.le_refl _) _).alloc zc _);have gws:∀ v,GWg wa (((wr.alloc (.cells #[.int .i64 p,.bool true,.int .i64 n] 53)).alloc (.cells #[.int .i64 p,.int .i64 (n % 2),.int .i64 key,.int .i64 0,.int .i64 0,.int .i64 k,.int .i64 ev.length,.bool false] 43)).setCell ⟨wr.heap.size+1,3,none⟩ v) s.out s.ws s.opn s.lat A1 c1 A2 c2:=fun v=>gw.below ((((Below.refl _ _).alloc (Nat.le_refl _) _).alloc zc _).setCell zc _);have be1:Blk ((wr.alloc (.cells #[.int .i64 p,.bool true,.int .i64 n] 53)).alloc (.cells #[.int .i64 p,.int .i64 (n % 2),.int .i64 key,.int .i64 0,.int .i64 0,.int .i64 k,.int .i64 ev.length,.bool false] 43)) wr.heap.size 53 (EvV.vals ⟨p,true,n⟩):=(Blk.new wr 53 (EvV.vals ⟨p,true,n⟩)).alloc _;have bo1:Blk ((wr.alloc (.cells #[.int .i64 p,.bool true,.int .i64 n] 53)).alloc (.cells #[.int .i64 p,.int .i64 (n % 2),.int .i64 key,.int .i64 0,.int .i64 0,.int .i64 k,.int .i64 ev.length,.bool false] 43)) (wr.heap.size+1) 43 (OpV.vals ⟨p,n % 2,key,0,0,k,ev.length,false⟩):=by
     have:=Blk.new (wr.alloc (.cells #[.int .i64 p,.bool true,.int .i64 n] 53)) 43 (OpV.vals ⟨p,n % 2,key,0,0,k,ev.length,false⟩);simp only [World.size_alloc] at this;exact this
    have sz1:wr.heap.size+2≤((wr.alloc (.cells #[.int .i64 p,.bool true,.int .i64 n] 53)).alloc (.cells #[.int .i64 p,.int .i64 (n % 2),.int .i64 key,.int .i64 0,.int .i64 0,.int .i64 k,.int .i64 ev.length,.bool false] 43)).heap.size:=by simp
    obtain ⟨w1,hw1⟩:∃ w1,w1=(wr.alloc (.cells #[.int .i64 p,.bool true,.int .i64 n] 53)).alloc (.cells #[.int .i64 p,.int .i64 (n % 2),.int .i64 key,.int .i64 0,.int .i64 0,.int .i64 k,.int .i64 ev.length,.bool false] 43):=⟨_,rfl⟩
    rw [← hw1] at gwx gws be1 bo1 sz1;rw [← hw1];clear hw1 gw q0 q1 q2;obtain ⟨E,hE2⟩:∃ E,E=wr.heap.size:=⟨_,rfl⟩
    rw [← hE2] at gws be1 bo1 sz1 hsz hE ⊢;clear hE2;obtain ⟨x0,x1,x2,x3,x4,x5,x6,x7⟩:=bo1.op
    go_cut [7] (fun v7 wx=>∃ A3 c3,v7=.slice A3 ws'.length c3∧GWg wa wx s.out ws' s.opn lat' A1 c1 A3 c3∧Blk wx E 53 (EvV.vals ⟨p,true,n⟩)∧Blk wx (E+1) 43 o'.vals∧E+2≤wx.heap.size)
    case first=>
     rcases hcase with ⟨h2,rfl,rfl,rfl⟩|⟨h2,rfl,rfl,rfl⟩
     ·have h2' : (n % 2 == 1)=true:=by simpa using h2
      have f3:=bo1.frozen 3;have bo3:=bo1.set_ 3 (.int .i64 ((s.ws.length:Int)+1));have be3:=be1.far (p:=⟨E+1,3,none⟩) zc (.int .i64 ((s.ws.length:Int)+1));have gw3:=gws (.int .i64 ((s.ws.length:Int)+1));have hsz3:(w1.setCell ⟨E+1,3,none⟩ (.int .i64 ((s.ws.length:Int)+1))).heap.size=w1.heap.size:=by simp
      have y2:(w1.setCell ⟨E+1,3,none⟩ (.int .i64 ((s.ws.length:Int)+1))).cell? ⟨E+1,2,none⟩=some (.int .i64 key):=bo3.cell 2;clear gws gwx
      go_wp2_with (at_builtin;go_loud (refine Yl zo4 gw3.ws rfl (.tmp 58) (.tmp 61) rfl rfl (by rw [hsz3];rfl) rfl (by simp [Value.oneCell']) za za za ?_;intro A5 c5 w5 ho5 hb5 hg5 hl5;have gw5:=gw3.appWs ho5 hb5 hg5;have bo5:=bo3.grown hg5 (zcV gw3.ws bo3 zg);have be5:=be3.grown hg5 (zcV gw3.ws be3 zg);have xl:=gw5.lat.int (i:=key) za;have fl:=gw5.lat.frozen key;have k2:w5.cell? ⟨E+1,2,none⟩=some (.int .i64 key):=bo5.cell 2;have k3:w5.cell? ⟨E+1,3,none⟩=some (.int .i64 ((s.ws.length:Int)+1)):=bo5.cell 3;have hsz5:=hb5.size))
      go_meet
      case rel=>exact ⟨A5,c5,by simp,gw5.setLat key _,be5.far zw _,bo5.far zw _,by simp;omega⟩
     ·have h2' : (n % 2 == 1)=false:=by simp [h2]
      go_wp2_with fail
      go_meet
      case rel=>exact ⟨A2,c2,rfl,gwx,be1,bo1,by omega⟩
    case rest=>
     obtain ⟨A3,c3,rfl,gx,be2,bo2,sz2⟩:=hcut;clear hcase gwx be1 bo1 x0 x1 x2 x3 x4 x5 x6 x7;obtain ⟨x0,x1,x2,x3,x4,x5,x6,x7⟩:=bo2.op;have y0:wc.cell? ⟨E,0,none⟩=some (.int .i64 p):=be2.cell 0;have fo:=gx.opn.frozen p;have xo:=gx.opn.int (i:=p) hlop;have g2:=gx.setOpn p s.out.length;have bo3:=bo2.far (p:=⟨wa.heap.size,p,none⟩) zw (.int .i64 s.out.length);obtain ⟨z0,z1,z2,z3,z4,z5,z6,z7⟩:=bo3.op;have hsz2:(wc.setCell ⟨wa.heap.size,p,none⟩ (.int .i64 s.out.length)).heap.size=wc.heap.size:=by simp
     have hszc:=gx.sz
     go_wp2_with (at_builtin;go_loud (refine Yl zpz g2.out rfl (.tmp 75) (.tmp 77) rfl rfl (by rw [hsz2];rfl) (cs:=o'.vals) rfl o'.one za za za ?_;intro A4 c4 w4 ho4 hb4 hg4 hl4))
     go_roundw
     case rel=>exact ⟨k+1,A4,c4,A3,c3,by omega,by go_num,by rw [Hst.out];simp,by rw [Hst.out],by rw [Hst.out];exact g2.appOut ho4 hb4 hg4⟩
     case measure=>simp [intOf];omega
   | false=>
    rw [hi] at q1;have hpe:(nth ev k).p=(p:Int):=hp;obtain ⟨j,j1,j2,j3,j4⟩:=ok.at_ Hgood.out hlt hi hpe;have hj0:(0:Int)≤(j:Int):=by omega
    have hjl:(j:Int)<(s.out.length:Int):=by omega
    obtain ⟨oj,hoj⟩:∃ oj,nth s.out j=oj:=⟨_,rfl⟩
    have hsm:=inv.sm _ (zy j2);rw [hoj] at hsm;obtain ⟨key,hkey⟩:∃ key:Nat,oj.key=(key:Int):=⟨oj.key.toNat,by have:=hsm.2.1;omega⟩
    have hkey3:(key:Int)<3:=by have:=hsm.2.1;omega
    have hkey0:(0:Int)≤(key:Int):=by omega
    obtain ⟨o',ho'⟩:∃ o' : OpV,o'={ oj with done:=true,ret:=(k:Int),res:=if oj.k=0 then xJ s.ws oj.key n (nth s.lat key) fr else oj.res }:=⟨_,rfl⟩
    have hst:Yx ev fr (k+1)=⟨s.out.set j o',s.ws,s.opn,s.lat⟩:=by
     have hjn:(nth s.opn p).toNat=j:=by omega
     have hkn:oj.key.toNat=key:=by omega
     rw [Hs.out,Ur,hi];simp only [Bool.false_eq_true,if_false];unfold zlA;rw [hpn,hjn,hn,hoj,hkn,ho']
    have Hst:=Lib.hid hst;clear hst Hs;obtain ⟨g,rfl,hg2,hgw⟩:=zhW gw.out za;obtain ⟨⟨e0,e1,e2,e3,e4,e5,e6,e7⟩,_⟩:=gw.cells j2;rw [hoj] at e0 e1 e2 e3 e4 e5 e6 e7;have xo:=gw.opn.int (i:=p) hlop;rw [j1] at xo;have xl:=gw.lat.int (i:=key) za;have hws:=Sl.of_own gw.ws rfl;have Hsm:=Lib.hid hsm;have Hoj:=Lib.hid hoj;have Hj:=Lib.hid (And.intro j1 (And.intro j3 j4));have Hkey:=Lib.hid hkey;have hlatl:key<s.lat.length:=by omega
    clear ok inv hsm hoj j1 j3 j4 hkey hpe;have hlt1:wa.heap.size<wr.heap.size:=by omega
    have hlt2:wa.heap.size+1<wr.heap.size:=by omega
    go_upto_region 21 with fail
    have be1:Blk ((wr.alloc (.cells #[.int .i64 p,.bool false,.int .i64 n] 53)).alloc (.cells #[.int .i64 oj.p,.int .i64 oj.k,.int .i64 oj.key,.int .i64 oj.arg,.int .i64 oj.res,.int .i64 oj.call,.int .i64 oj.ret,.bool oj.done] 43)) wr.heap.size 53 (EvV.vals ⟨p,false,n⟩):=(Blk.new wr 53 (EvV.vals ⟨p,false,n⟩)).alloc _;have bo1:Blk ((wr.alloc (.cells #[.int .i64 p,.bool false,.int .i64 n] 53)).alloc (.cells #[.int .i64 oj.p,.int .i64 oj.k,.int .i64 oj.key,.int .i64 oj.arg,.int .i64 oj.res,.int .i64 oj.call,.int .i64 oj.ret,.bool oj.done] 43)) (wr.heap.size+1) 43 oj.vals:=by
     have:=Blk.new (wr.alloc (.cells #[.int .i64 p,.bool false,.int .i64 n] 53)) 43 oj.vals;simp only [World.size_alloc] at this;exact this
    have B1:Below wr.heap.size wr ((wr.alloc (.cells #[.int .i64 p,.bool false,.int .i64 n] 53)).alloc (.cells #[.int .i64 oj.p,.int .i64 oj.k,.int .i64 oj.key,.int .i64 oj.arg,.int .i64 oj.res,.int .i64 oj.call,.int .i64 oj.ret,.bool oj.done] 43)):=((Below.refl _ _).alloc (Nat.le_refl _) _).alloc zc _;have sz1:wr.heap.size+2≤((wr.alloc (.cells #[.int .i64 p,.bool false,.int .i64 n] 53)).alloc (.cells #[.int .i64 oj.p,.int .i64 oj.k,.int .i64 oj.key,.int .i64 oj.arg,.int .i64 oj.res,.int .i64 oj.call,.int .i64 oj.ret,.bool oj.done] 43)).heap.size:=by simp
    obtain ⟨w1,hw1⟩:∃ w1,w1=(wr.alloc (.cells #[.int .i64 p,.bool false,.int .i64 n] 53)).alloc (.cells #[.int .i64 oj.p,.int .i64 oj.k,.int .i64 oj.key,.int .i64 oj.arg,.int .i64 oj.res,.int .i64 oj.call,.int .i64 oj.ret,.bool oj.done] 43):=⟨_,rfl⟩
    rw [← hw1] at be1 bo1 B1 sz1;rw [← hw1];clear hw1 q0 q1 q2 e0 e1 e2 e3 e4 e5 e6 e7 xo;have f7:=bo1.frozen 7;have f6:=bo1.frozen 6;obtain ⟨x0,x1,x2,x3,x4,x5,x6,x7⟩:=bo1.op
    go_upto_if 93 with fail
    have bo2:=(bo1.set_ 7 (.bool true)).set_ 6 (.int .i64 k);have be2:=(be1.far (p:=⟨wr.heap.size+1,7,none⟩) zc (.bool true)).far (p:=⟨wr.heap.size+1,6,none⟩) zc (.int .i64 k);have B2:=(B1.setCell (p:=⟨wr.heap.size+1,7,none⟩) zc (.bool true)).setCell (p:=⟨wr.heap.size+1,6,none⟩) zc (.int .i64 k);have sz2:wr.heap.size+2≤((w1.setCell ⟨wr.heap.size+1,7,none⟩ (.bool true)).setCell ⟨wr.heap.size+1,6,none⟩ (.int .i64 k)).heap.size:=by simpa using sz1
    obtain ⟨w2,hw2⟩:∃ w2,w2=(w1.setCell ⟨wr.heap.size+1,7,none⟩ (.bool true)).setCell ⟨wr.heap.size+1,6,none⟩ (.int .i64 k):=⟨_,rfl⟩
    rw [← hw2] at be2 bo2 B2 sz2;rw [← hw2];clear hw2 x0 x1 x2 x3 x4 x5 x6 x7 f7 f6 be1 bo1 B1 sz1;have bo2' : Blk w2 (wr.heap.size+1) 43 (OpV.vals { oj with done:=true,ret:=(k:Int) }):=bo2;clear bo2
    go_cut [15] (fun v15 wx=>v15=.pointer (some ⟨wr.heap.size+1,0,none⟩)∧Below wr.heap.size wr wx∧Blk wx (wr.heap.size+1) 43 o'.vals)
    case first=>
     by_cases h0:oj.k=0
     ·have h0' : (oj.k == 0)=true:=by simpa using h0
      have ho2:o'={ oj with done:=true,ret:=(k:Int),res:=xJ s.ws oj.key n (nth s.lat key) fr }:=by rw [ho',if_pos h0]
      have Ho2:=Lib.hid ho2;clear ho' ho2
      go_upto_region 24 with fail
      have gw2:=gw.below B2;have c2' : w2.cell? ⟨wr.heap.size+1,2,none⟩=some (.int .i64 oj.key):=bo2'.cell 2;rw [Hkey.out] at c2';have cn:w2.cell? ⟨wr.heap.size,2,none⟩=some (.int .i64 n):=be2.cell 2;have cl:=gw2.lat.int (i:=key) hlatl;have hws2:=Sl.of_own gw2.ws rfl;have hwl:s.ws.length≤1000000:=by omega
      go_region_held3 (fun w'=>w'.cell? ⟨wr.heap.size+1,2,none⟩=some (.int .i64 key)∧w'.cell? ⟨wr.heap.size,2,none⟩=some (.int .i64 n)∧w'.cell? ⟨wa.heap.size+1,key,none⟩=some (.int .i64 (nth s.lat key)))
       (first|(refine ⟨?_,?_,?_⟩ <;> assumption)|(go_keep;done)|(refine ⟨(World.cell?_setCell_other _ _ _ _ zc).trans ?_,(World.cell?_setCell_other _ _ _ _ zc).trans ?_,(World.cell?_setCell_other _ _ _ _ zc).trans ?_⟩ <;> assumption))
       ((go_at_call 26;refine (ziw _ _ _ _ _ _ _ _ (by exact hws2) hwl g3 za).mono ?_;rintro e w3 ⟨rfl,hb3⟩;have d1:=(hb3.cell (p:=⟨wr.heap.size+1,2,none⟩) (by show wr.heap.size+1<w2.heap.size;omega)).trans c2';have d2:=(hb3.cell (p:=⟨wr.heap.size,2,none⟩) (by show wr.heap.size<w2.heap.size;omega)).trans cn;have d3:=(hb3.cell (p:=⟨wa.heap.size+1,key,none⟩) (by show wa.heap.size+1<w2.heap.size;omega)).trans cl;have bo3:=bo2'.drew.below hb3 (by show wr.heap.size+1<w2.heap.size;omega);have f4:=bo3.frozen 4;have k4:=bo3.cell 4))
      go_wp2_with fail
      go_meet
      case rel=>
       refine ⟨rfl,((zoz B2).trans (hb3.mono (by show wr.heap.size≤w2.heap.size;omega))).setCell zc _,?_⟩;have hfin:=bo3.set_ 4 (.int .i64 (xJ s.ws oj.key n (nth s.lat key) fr));rw [Ho2.out];rw [Hkey.out] at hfin ⊢;exact hfin
     ·have h0' : (oj.k == 0)=false:=by simpa using h0
      have ho2:o'={ oj with done:=true,ret:=(k:Int) }:=by rw [ho',if_neg h0]
      have Ho2:=Lib.hid ho2;clear ho' ho2
      go_wp2_with fail
      go_meet
      case rel=>exact ⟨rfl,B2,by rw [Ho2.out];exact bo2'⟩
    case rest=>
     obtain ⟨rfl,B3,bo3⟩:=hcut;have gx:=gw.below B3;obtain ⟨⟨e0,e1,e2,e3,e4,e5,e6,e7⟩,f0,f1,f2,f3,f4,f5,f6,f7⟩:=gx.cells j2;obtain ⟨x0,x1,x2,x3,x4,x5,x6,x7⟩:=bo3.op;clear ho'
     go_wp2_with fail
     go_roundw
     case rel=>exact ⟨k+1,some ⟨g,0,none⟩,c1,A2,c2,by omega,by go_num,by rw [Hst.out];simp,by rw [Hst.out],by rw [Hst.out];exact gx.putOp hg2 j2 o'⟩
     case measure=>simp [intOf];omega
  ·obtain rfl:k=ev.length:=by omega
   go_wp2_with fail
   go_ret
   have hszw:=hba.size;exact ⟨A1,c1,rfl,VA gw.out za,hba.trans (gw.bel.mono hszw)⟩
end
section
open Go.RowKit
attribute [local go_sem ↓] Go.wp_at_zero Go.wp_at_succ
def zo6 (ev:List EvV) (i:Nat) (e:EvV) (s:ZO):ZO:=
 if 0<e.n % 3 then ⟨s.out++[⟨e.p,2,1+e.n / 2 % 2,(s.ws.length:Int)+1,0,i,ev.length,false⟩],s.ws++[1+e.n / 2 % 2],s.opn.set e.p.toNat s.out.length,s.lat⟩
 else ⟨s.out++[⟨e.p,0,1+e.n / 2 % 2,0,0,i,ev.length,false⟩],s.ws,s.opn.set e.p.toNat s.out.length,s.lat⟩
def zps (fresh:Bool) (i:Nat) (e:EvV) (s:ZO):ZO:=
 { s with out:=s.out.set (nth s.opn e.p.toNat).toNat { nth s.out (nth s.opn e.p.toNat).toNat with done:=true,ret:=i,res:=xJ s.ws (nth s.out (nth s.opn e.p.toNat).toNat).key e.n (nth s.lat (nth s.out (nth s.opn e.p.toNat).toNat).key.toNat) fresh }
          lat:=if (nth s.out (nth s.opn e.p.toNat).toNat).k=2 then s.lat.set (nth s.out (nth s.opn e.p.toNat).toNat).key.toNat (nth s.out (nth s.opn e.p.toNat).toNat).arg else s.lat }
def zo7 (ev:List EvV) (fresh:Bool) (i:Nat) (s:ZO):ZO:=
 if (nth ev i).inv then zo6 ev i (nth ev i) s else zps fresh i (nth ev i) s
def zpF (ev:List EvV) (fresh:Bool) (k:Nat):ZO:=zbe (zo7 ev fresh) zaW k
def zpt (l:List Int) (most:Int):List OpV:=(zpF (Zk l most) (zaU l) (Zk l most).length).out
end
section
open Go.RowKit
attribute [local go_sem ↓] Go.wp_at_zero Go.wp_at_succ
end
section
open Go.RowKit
attribute [local go_sem ↓] Go.wp_at_zero Go.wp_at_succ
def zoO (ev:List EvV) (i:Nat) (e:EvV) (s:ZO):ZO:=
 if e.n % 2=0 then ⟨s.out++[⟨e.p,3,1+e.n / 2 % 2,(s.ws.length:Int)+1,0,i,ev.length,false⟩],s.ws++[1+e.n / 2 % 2],s.opn.set e.p.toNat s.out.length,s.lat⟩
 else ⟨s.out++[⟨e.p,4,1+e.n / 2 % 2,0,0,i,ev.length,false⟩],s.ws,s.opn.set e.p.toNat s.out.length,s.lat⟩
def zpp (i:Nat) (e:EvV) (s:ZO):ZO:=
 if (nth s.out (nth s.opn e.p.toNat).toNat).k=4 then { s with out:=s.out.set (nth s.opn e.p.toNat).toNat { nth s.out (nth s.opn e.p.toNat).toNat with done:=true,ret:=i,res:=zlj s.ws s.lat (nth s.out (nth s.opn e.p.toNat).toNat).key e.n },lat:=s.lat++[zlj s.ws s.lat (nth s.out (nth s.opn e.p.toNat).toNat).key e.n] }
 else { s with out:=s.out.set (nth s.opn e.p.toNat).toNat { nth s.out (nth s.opn e.p.toNat).toNat with done:=true,ret:=i } }
def zoP (ev:List EvV) (i:Nat) (s:ZO):ZO:=
 if (nth ev i).inv then zoO ev i (nth ev i) s else zpp i (nth ev i) s
def zpE (ev:List EvV) (k:Nat):ZO:=zbe (zoP ev) ⟨[],[],[0,0,0,0],[]⟩ k
def zoQ (l:List Int) (most:Int):List OpV:=(zpE (Zk l most) (Zk l most).length).out
section
variable {wa w w' : World} {out:List OpV} {ws opn lat:List Int} {A1 A2 A9:Option Addr} {c1 c2 c9:Nat}
end
end
section
open Go.RowKit
attribute [local go_sem ↓] Go.wp_at_zero Go.wp_at_succ
end
section
open Go.RowKit
attribute [local go_sem ↓] Go.wp_at_zero Go.wp_at_succ
def mixed (l:List Int) (which:Int):List OpV:=
 if yM which 3=0 then yx l 12 else if yM which 3=1 then zpt l 12 else zoQ l 12
/-! ### what the generated operations are -/
theorem zhF {ev:List EvV} {out:List OpV} {opn:List Int} (hg:WB ev) (hl:ev.length≤40) (h:WG ev ev.length out opn) (hsm:∀ o∈out,zga o):xn out=0∧(∀ o∈out,VT o):=by
 have hle:∀ k,Vt ev k≤k:=by
  intro k
  induction k with
  | zero => exact Nat.le_refl _
  | succ k ih => unfold Vt; split <;> omega
 have hlen:out.length≤40:=by have:=h.len;have:=hle ev.length;omega
 refine ⟨h.history hg (Nat.le_refl _) za fun o ho=>(hsm o ho).1,fun o ho=>?_⟩;obtain ⟨j,hj,rfl⟩:=List.getElem_of_mem ho;rw [← nth_eq hj];have hs:=hsm _ (zy hj);unfold zga at hs;obtain ⟨c,c1,c2,_,c4⟩:=h.call j hj;have hp:=(hg c za).1;have hr:0≤(nth out j).ret∧(nth out j).ret≤40:=by
  cases hd:(nth out j).done with
  | true => obtain ⟨r, a1, a2, _⟩ := h.ret j hj hd; omega
  | false => have := (h.stay j hj hd).1; omega
 unfold VT I64;omega
/-! ### Bent -/
def xP (d v:Int) (o:OpV):OpV:=
 if d=0 then { o with p:=v } else if d=1 then { o with k:=v } else if d=2 then { o with key:=v } else if d=3 then { o with arg:=v } else if d=4 then { o with res:=v } else if d=5 then { o with call:=v } else if d=6 then { o with ret:=v } else { o with done:=!o.done }
def ZV (l:List OpV) (at_ how v:Int):List OpV:=
 l.set (yM at_ l.length).toNat (xP (yM how 8) v (nth l (yM at_ l.length).toNat))
theorem VW (l:List OpV) (at_ how v:Int):(ZV l at_ how v).length=l.length:=by simp [ZV]
theorem zeA {l:List OpV} (h:∀ o∈l,VT o) (at_ how:Int) {v:Int} (hv:I64 v):∀ o∈ZV l at_ how v,VT o:=by
 intro o ho;rcases We ho with h1|h1
 ·exact h o h1
 ·rcases Nat.lt_or_ge (yM at_ l.length).toNat l.length with hlt|hge
  ·have ho2:=h _ (zy hlt);subst h1;unfold VT at ho2 ⊢;obtain ⟨a1,a2,a3,a4,a5,a6,a7⟩:=ho2;unfold xP
   repeat' split
   all_goals exact ⟨by assumption,by assumption,by assumption,by assumption,by assumption,by assumption,by assumption⟩
  ·rw [ZV,List.set_eq_of_length_le hge] at ho;exact h o ho
end
section
open Go.RowKit
attribute [local go_sem ↓] Go.wp_at_zero Go.wp_at_succ
theorem Zr {w:World} {base:Nat} {t:TypeId} {v:Value} {n:Nat} {l:List OpV} (h:w.ownsRow base t 8 v n (flat OpV.vals l)) {g:Nat} (hv:v.ownBlock=some g) {j m:Nat} (hj:j<l.length) (hm:m<8) (u:Value) (o:OpV) (ho:o.vals=(nth l j).vals.set m u) :
  (w.setCell ⟨g,j * 8+m,none⟩ u).ownsRow base t 8 v n (flat OpV.vals (l.set j o)):=by
 rcases h.2 with ⟨rfl,_⟩|⟨g',cap,cur,rfl,_⟩
 ·simp [Value.ownBlock] at hv
 ·obtain rfl:g'=g:=by simpa [Value.ownBlock] using hv
  have s:=(h.stored (j * 8+m) u).1;rw [zdJ OpV.wide l j m u o hj hm (by rw [← nth_eq hj];exact ho)] at s;exact s
set_option maxRecDepth 100000 in
theorem zip (A:Option Addr) (c:Nat) (l:List OpV) (at_ how v:Int) (w:World) (h1:Sl OpV.vals w w.heap.size A l) (hlen:l.length≤1000000) (ha:I64 at_) (hh:I64 how) :
  Calls Try.prog 13 #[.slice A l.length c,.int .i64 at_,.int .i64 how,.int .i64 v] w fun e w'=>∃ A1 c1,e=.returned (.slice A1 (ZV l at_ how v).length c1)∧
   w'.ownsRow w.heap.size 43 8 (.slice A1 (ZV l at_ how v).length c1) (ZV l at_ how v).length (flat OpV.vals (ZV l at_ how v))∧Below w.heap.size w w':=by
 rw [VW];have hmade:(w.alloc (.cells #[] 43)).ownsRow w.heap.size 43 8 (.slice (some ⟨w.heap.size,0,none⟩) 0 0) 0 []:=World.ownsRow_made w #[] 0 (Nat.le_refl _) (by unfold maxLen;omega) rfl;have hba:=Xp (w:=w) (.cells #[] 43);have hsa:=h1.below hba;have hsz:w.heap.size≤(w.alloc (.cells #[] 43)).heap.size:=hba.size
 go_enter Try.func13,Try.ntmps13
 go_upto_region 2 with (at_builtin;go_loud (refine zhf zpz hmade OpV.wide OpV.one hsa rfl (.tmp 11) (.tmp 12) rfl rfl rfl rfl za za hsz ?_;intro A3 c3 w2 ho hb hg))
 have ho2:w2.ownsRow w.heap.size 43 8 (.slice A3 l.length c3) l.length (flat OpV.vals l):=by simpa using ho
 have hb2:Below w.heap.size w w2:=hba.trans hb;clear ho hb hg hmade hba hsa h1;by_cases hl0:l=[]
 ·subst hl0
  go_wp2_with fail
  go_ret
  exact ⟨A3,c3,rfl,ho2,hb2⟩
 ·have hpos:0<l.length:=List.length_pos_iff.2 hl0;have hnz:((l.length:Int) == 0)=false:=beq_eq_false_iff_ne.2 za;obtain ⟨j,hj⟩:∃ j:Nat,yM at_ l.length=j:=⟨(yM at_ l.length).toNat,by have:=ZR (n:=at_) (most:=(l.length:Int)) za;omega⟩
  have hjl:j<l.length:=by have:=ZQ (n:=at_) (most:=(l.length:Int)) za;omega
  have hj0:(0:Int)≤(j:Int):=by omega
  have hj1:(j:Int)<(l.length:Int):=by omega
  obtain ⟨d,hd⟩:∃ d,yM how 8=d:=⟨_,rfl⟩
  have hd0:0≤d:=hd▸ZR za;have hd1:d<8:=hd▸ZQ za;have hspec:ZV l at_ how v=l.set j (xP d v (nth l j)):=by rw [ZV,hj,hd];rfl
  have Hspec:=Lib.hid hspec;clear hspec;obtain ⟨g,rfl,hg1,hg2⟩:=zhW ho2 hpos;obtain ⟨e0,e1,e2,e3,e4,e5,e6,e7⟩:=(Sl.of_own ho2 rfl).op' hjl;simp only [Nat.zero_add] at e0 e1 e2 e3 e4 e5 e6 e7;have f0:w2.frozen? ⟨g,j * 8,none⟩=false:=ho2.frozenAt _;have f1:=ho2.frozenAt (j * 8+1);have f2:=ho2.frozenAt (j * 8+2);have f3:=ho2.frozenAt (j * 8+3);have f4:=ho2.frozenAt (j * 8+4);have f5:=ho2.frozenAt (j * 8+5);have f6:=ho2.frozenAt (j * 8+6);have f7:=ho2.frozenAt (j * 8+7);have q1:(1:Int)≤(l.length:Int):=by omega
  have q2:(l.length:Int)≤4611686018427387904:=by omega
  have q3:(1:Int)≤8:=by omega
  have q4:(8:Int)≤4611686018427387904:=by omega
  go_upto_region 5 with (go_at_call 14;refine (xu _ _ _ ha q1 q2).mono ?_;rintro e w' ⟨rfl,rfl⟩;rw [hj])
  go_upto_region 7 with (go_at_call 14;refine (xu _ _ _ hh q3 q4).mono ?_;rintro e w' ⟨rfl,rfl⟩;rw [hd])
  by_cases nd0:d=0
  ·subst nd0
   go_wp2_with fail
   go_ret
   refine ⟨some ⟨g,0,none⟩,c3,rfl,?_,hb2.setCell zw _⟩;rw [Hspec.out];have hq:=Zr ho2 rfl hjl (m:=0) za (.int .i64 v) { nth l j with p:=v } rfl;rw [Nat.add_zero] at hq;rw [show xP 0 v (nth l j)={ nth l j with p:=v } from by simp [xP]];exact hq
  by_cases nd1:d=1
  ·subst nd1
   go_wp2_with fail
   go_ret
   refine ⟨some ⟨g,0,none⟩,c3,rfl,?_,hb2.setCell zw _⟩;rw [Hspec.out];have hq:=Zr ho2 rfl hjl (m:=1) za (.int .i64 v) { nth l j with k:=v } rfl;rw [show xP 1 v (nth l j)={ nth l j with k:=v } from by simp [xP]];exact hq
  by_cases nd2:d=2
  ·subst nd2
   go_wp2_with fail
   go_ret
   refine ⟨some ⟨g,0,none⟩,c3,rfl,?_,hb2.setCell zw _⟩;rw [Hspec.out];have hq:=Zr ho2 rfl hjl (m:=2) za (.int .i64 v) { nth l j with key:=v } rfl;rw [show xP 2 v (nth l j)={ nth l j with key:=v } from by simp [xP]];exact hq
  by_cases nd3:d=3
  ·subst nd3
   go_wp2_with fail
   go_ret
   refine ⟨some ⟨g,0,none⟩,c3,rfl,?_,hb2.setCell zw _⟩;rw [Hspec.out];have hq:=Zr ho2 rfl hjl (m:=3) za (.int .i64 v) { nth l j with arg:=v } rfl;rw [show xP 3 v (nth l j)={ nth l j with arg:=v } from by simp [xP]];exact hq
  by_cases nd4:d=4
  ·subst nd4
   go_wp2_with fail
   go_ret
   refine ⟨some ⟨g,0,none⟩,c3,rfl,?_,hb2.setCell zw _⟩;rw [Hspec.out];have hq:=Zr ho2 rfl hjl (m:=4) za (.int .i64 v) { nth l j with res:=v } rfl;rw [show xP 4 v (nth l j)={ nth l j with res:=v } from by simp [xP]];exact hq
  by_cases nd5:d=5
  ·subst nd5
   go_wp2_with fail
   go_ret
   refine ⟨some ⟨g,0,none⟩,c3,rfl,?_,hb2.setCell zw _⟩;rw [Hspec.out];have hq:=Zr ho2 rfl hjl (m:=5) za (.int .i64 v) { nth l j with call:=v } rfl;rw [show xP 5 v (nth l j)={ nth l j with call:=v } from by simp [xP]];exact hq
  by_cases nd6:d=6
  ·subst nd6
   go_wp2_with fail
   go_ret
   refine ⟨some ⟨g,0,none⟩,c3,rfl,?_,hb2.setCell zw _⟩;rw [Hspec.out];have hq:=Zr ho2 rfl hjl (m:=6) za (.int .i64 v) { nth l j with ret:=v } rfl;rw [show xP 6 v (nth l j)={ nth l j with ret:=v } from by simp [xP]];exact hq
  obtain rfl:d=7:=by omega
  go_wp2_with fail
  go_ret
  refine ⟨some ⟨g,0,none⟩,c3,rfl,?_,hb2.setCell zw _⟩;rw [Hspec.out];have hq:=Zr ho2 rfl hjl (m:=7) za (.bool (!(nth l j).done)) { nth l j with done:=!(nth l j).done } rfl;rw [show xP 7 v (nth l j)={ nth l j with done:=!(nth l j).done } from by simp [xP]];exact hq
end
section
open Go.RowKit
theorem zg2 (l:List OpV) (hlen:l.length≤1000000000):zV Try.prog 65 [.list 8 (l.map OpV.fv)] .fr (.int .i64 (zbm l)) where
 go:=by kernel_rfl
 hand:=rfl
 calls w I vs hI hv:=by
  obtain ⟨_,rfl,e1⟩:=hv.inv1;obtain ⟨A,c,rfl,_,hs⟩:=opT.of e1 hI;refine (zjk A c l w hs hlen).mono ?_;rintro e w' ⟨rfl,hb⟩;exact ⟨_,rfl,hb,.int _ _⟩
end
end Go.Proofs.Ytmnmakhpjgjdaaa
