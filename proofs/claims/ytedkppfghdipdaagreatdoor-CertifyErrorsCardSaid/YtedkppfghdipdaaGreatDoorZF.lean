/-
  Lemmas, in parts.
-/
import Derived.Test.YtedkppfghdipdaaGreatDoorZFmCe6
import Derived.Deep.RegionHeld3
import Derived.Deep.DrawnRows
import Derived.Deep.DeepCutAuto
import Derived.Test.YtedkppfghdipdaaGreatDoorZC
import Derived.Test.YtedkppfghdipdaaGreatDoorZFmKm
namespace Go.Proofs.YtedkppfghdipdaaGreatDoor
set_option linter.unusedVariables false
set_option maxHeartbeats 16000000
variable {base c3 g i j n:Nat} {w:World} {t:TypeId} {ae x:Int} {A3:Option Addr} {o:aj} {v:Value} {xs:List Value} {l:List aj} {K:List Int}
section
open Go.RowKit
attribute [local go_sem ↓] Go.wp_at_zero Go.wp_at_succ
structure xN where
 out:List aj
 ws:List Int
 aF:List Int
 aC:List Int
 deriving Inhabited
def Yg:xN:=⟨[],[],[0,0,0,0],[0,0,0]⟩
def pC (ev:List bq) (i:Nat) (e:bq) (s:xN):xN:=
 if e.n % 2=1 then ⟨s.out++[⟨e.p,1,1+e.n / 2 % 2,(s.ws.length:Int)+1,0,i,ev.length,false⟩],s.ws++[1+e.n / 2 % 2],s.aF.set e.p.toNat s.out.length,s.aC.set (1+e.n / 2 % 2).toNat ((s.ws.length:Int)+1)⟩
 else ⟨s.out++[⟨e.p,0,1+e.n / 2 % 2,0,0,i,ev.length,false⟩],s.ws,s.aF.set e.p.toNat s.out.length,s.aC⟩
def sg (fresh:Bool) (i:Nat) (e:bq) (s:xN):xN:=
 { s with out:=s.out.set (nth s.aF e.p.toNat).toNat { nth s.out (nth s.aF e.p.toNat).toNat with done:=true,ret:=i,res:=if (nth s.out (nth s.aF e.p.toNat).toNat).k=0 then yz s.ws (nth s.out (nth s.aF e.p.toNat).toNat).key e.n (nth s.aC (nth s.out (nth s.aF e.p.toNat).toNat).key.toNat) fresh else (nth s.out (nth s.aF e.p.toNat).toNat).res } }
def XX (ev:List bq) (fresh:Bool) (i:Nat) (s:xN):xN:=
 if (nth ev i).inv then pC ev i (nth ev i) s else sg fresh i (nth ev i) s
def Zp (ev:List bq) (fresh:Bool) (k:Nat):xN:=YM (XX ev fresh) Yg k
def Yf (l:List Int):Bool:=decide (Vw l 100 % 2=1)
def yi (l:List Int) (ae:Int):List aj:=(Zp (xe l ae) (Yf l) (xe l ae).length).out
def gY (o:aj):Prop:=(0≤o.k∧o.k≤4)∧(1≤o.key∧o.key≤2)∧(0≤o.arg∧o.arg≤40)∧(0≤o.res∧o.res≤40)
structure ve (ev:List bq) (k:Nat) (s:xN):Prop where
 ok:ZZ ev k s.out s.aF
 sm:∀ o∈s.out,gY o
 aC:s.aC.length=3
 eB:∀ x∈s.aC,0≤x∧x≤40
 ws:s.ws.length≤k
 iv:∀ x∈s.ws,1≤x∧x≤2
theorem xr {α:Type} {l:List α} {v x:α} (h:x∈l.set i v):x∈l∨x=v:=Xm h
theorem Vy {ev:List bq} (fresh:Bool) (hg:ZW ev) (hl:ev.length≤40):∀ k,k≤ev.length→ve ev k (Zp ev fresh k)
 | 0, _ => ⟨ZZ.zero ev, fun _ h => by simp [Zp, YM, Yg] at h, rfl, fun x h => by simp [Zp, YM, Yg] at h; omega, zN _, fun _ h => by simp [Zp, YM, Yg] at h⟩
 | k + 1,hk=>by
  have ih:=Vy fresh hg hl k za;have hs:Zp ev fresh (k+1)=XX ev fresh k (Zp ev fresh k):=rfl;rw [hs];generalize Zp ev fresh k=s at ih;obtain ⟨g1,g2,g3⟩:=hg k za;obtain ⟨ok,sm,aC,eB,ws,iv⟩:=ih;obtain ⟨p,hp⟩:∃ p:Nat,(nth ev k).p=p:=⟨(nth ev k).p.toNat,by omega⟩
  unfold XX;cases hi:(nth ev k).inv with
  | true=>
   simp only [if_true];unfold pC;have gf:(nth ev k).p.toNat=p:=by omega
   rw [gf];split
   ·refine ⟨ok.add hg za hi rfl rfl rfl rfl rfl hp,fun o ho=>?_,by simpa using aC,fun x hx=>?_,by simp;omega,fun x hx=>?_⟩
    ·rcases zO.1 ho with h|h
     ·exact sm o h
     ·simp only [zP] at h;subst h;unfold gY;dsimp only;omega
    ·rcases xr hx with h|h
     ·have:=eB x h;omega
     ·omega
    ·rcases zO.1 hx with h|h
     ·exact iv x h
     ·simp only [zP] at h;omega
   ·refine ⟨ok.add hg za hi rfl rfl rfl rfl rfl hp,fun o ho=>?_,aC,fun x hx=>?_,by dsimp only;omega,iv⟩
    ·rcases zO.1 ho with h|h
     ·exact sm o h
     ·simp only [zP] at h;subst h;unfold gY;dsimp only;omega
    ·have:=eB x hx;omega
  | false=>
   simp only [ZF,if_false];unfold sg;have gf:(nth ev k).p.toNat=p:=by omega
   rw [gf];obtain ⟨j,j1,j2,j3,j4⟩:=ok.at_ hg za hi hp;have jG:(nth s.aF p).toNat=j:=by omega
   rw [jG];refine ⟨ok.put za hi j2 za j4 rfl rfl rfl rfl,fun o ho=>?_,aC,fun x hx=>by have:=eB x hx;omega,by dsimp only;omega,iv⟩;rcases xr ho with h|h
   ·exact sm o h
   ·subst h;have hj:=sm _ (yj j2);unfold gY at hj ⊢;dsimp only;refine ⟨hj.1,hj.2.1,hj.2.2.1,?_⟩;split
    ·have wH:=eB _ (yj (l:=s.aC) (i:=(nth s.out j).key.toNat) za);have:=Uh s.ws (nth s.out j).key (nth ev k).n (nth s.aC (nth s.out j).key.toNat) fresh za;omega
    ·exact hj.2.2.2
theorem uv {c:Nat} {out:List aj} (h:w.ownsRow base t 8 (.slice (some ⟨g,0,none⟩) n c) n (flat aj.ah out)) (hj:j<out.length) (o:aj) :
  ((((((((w.setCell ⟨g,j * 8,none⟩ (.int .i64 o.p)).setCell ⟨g,j * 8+1,none⟩ (.int .i64 o.k)).setCell ⟨g,j * 8+2,none⟩ (.int .i64 o.key)).setCell ⟨g,j * 8+3,none⟩ (.int .i64 o.arg)).setCell ⟨g,j * 8+4,none⟩ (.int .i64 o.res)).setCell ⟨g,j * 8+5,none⟩ (.int .i64 o.call)).setCell ⟨g,j * 8+6,none⟩ (.int .i64 o.ret)).setCell ⟨g,j * 8+7,none⟩ (.bool o.done)).ownsRow base t 8 (.slice (some ⟨g,0,none⟩) n c) n (flat aj.ah (out.set j o)):=by
 have s0:=(h.stored (j * 8+0) (.int .i64 o.p)).1;have s1:=(s0.stored (j * 8+1) (.int .i64 o.k)).1;have s2:=(s1.stored (j * 8+2) (.int .i64 o.key)).1;have s3:=(s2.stored (j * 8+3) (.int .i64 o.arg)).1;have s4:=(s3.stored (j * 8+4) (.int .i64 o.res)).1;have s5:=(s4.stored (j * 8+5) (.int .i64 o.call)).1;have s6:=(s5.stored (j * 8+6) (.int .i64 o.ret)).1;have s7:=(s6.stored (j * 8+7) (.bool o.done)).1;have step:∀ (l:List aj) (m:Nat) (u:Value) (a:aj),l.length=out.length→m<8→a.ah=(nth l j).ah.set m u→(flat aj.ah l).set (j * 8+m) u=flat aj.ah (l.set j a):=fun l m u a hl hm ha=>
  rK aj.wide l j m u a za hm (by rw [← yq za];exact ha)
 have q0:=step out 0 (.int .i64 o.p) { nth out j with p:=o.p } rfl za rfl;have q1:=step _ 1 (.int .i64 o.k) { nth out j with p:=o.p,k:=o.k } (by simp:(out.set j { nth out j with p:=o.p }).length=out.length) za (by rw [zY hj];rfl);have q2:=step _ 2 (.int .i64 o.key) { nth out j with p:=o.p,k:=o.k,key:=o.key } (by simp:(out.set j { nth out j with p:=o.p,k:=o.k }).length=out.length) za (by rw [zY hj];rfl);have q3:=step _ 3 (.int .i64 o.arg) { nth out j with p:=o.p,k:=o.k,key:=o.key,arg:=o.arg } (by simp:(out.set j { nth out j with p:=o.p,k:=o.k,key:=o.key }).length=out.length) za (by rw [zY hj];rfl);have q4:=step _ 4 (.int .i64 o.res) { nth out j with p:=o.p,k:=o.k,key:=o.key,arg:=o.arg,res:=o.res } (by simp:(out.set j { nth out j with p:=o.p,k:=o.k,key:=o.key,arg:=o.arg }).length=out.length) za (by rw [zY hj];rfl);have q5:=step _ 5 (.int .i64 o.call) { nth out j with p:=o.p,k:=o.k,key:=o.key,arg:=o.arg,res:=o.res,call:=o.call } (by simp:(out.set j { nth out j with p:=o.p,k:=o.k,key:=o.key,arg:=o.arg,res:=o.res }).length=out.length) za (by rw [zY hj];rfl);have q6:=step _ 6 (.int .i64 o.ret) { nth out j with p:=o.p,k:=o.k,key:=o.key,arg:=o.arg,res:=o.res,call:=o.call,ret:=o.ret } (by simp:(out.set j { nth out j with p:=o.p,k:=o.k,key:=o.key,arg:=o.arg,res:=o.res,call:=o.call }).length=out.length) za (by rw [zY hj];rfl);have q7:=step _ 7 (.bool o.done) o (by simp:(out.set j { nth out j with p:=o.p,k:=o.k,key:=o.key,arg:=o.arg,res:=o.res,call:=o.call,ret:=o.ret }).length=out.length) za (by rw [zY hj];rfl);rw [q0,q1,ZJ,q2,ZJ,q3,ZJ,q4,ZJ,q5,ZJ,q6,ZJ,q7,ZJ] at s7;simpa using s7
structure dT (wa w:World) (out:List aj) (ws aF aC:List Int) (A1:Option Addr) (c1:Nat) (A2:Option Addr) (c2:Nat):Prop where
 out:w.ownsRow (wa.heap.size+2) 77 8 (.slice A1 out.length c1) out.length (flat aj.ah out)
 ws:w.ownsRow (wa.heap.size+2) 3 1 (.slice A2 ws.length c2) ws.length (flat YK ws)
 aF:aQ w wa.heap.size 3 (flat YK aF)
 aC:aQ w (wa.heap.size+1) 3 (flat YK aC)
 bn:Below wa.heap.size wa w
 sz:wa.heap.size+2≤w.heap.size
section
variable {wa w w' : World} {out:List aj} {ws aF aC:List Int} {A1 A2:Option Addr} {c1 c2:Nat}
theorem dT.below (h:dT wa w out ws aF aC A1 c1 A2 c2) (hb:Below w.heap.size w w'):dT wa w' out ws aF aC A1 c1 A2 c2:=
 ⟨Yo h.out hb,Yo h.ws hb,h.aF.below hb (by have:=h.sz;omega),h.aC.below hb (by have:=h.sz;omega),h.bn.trans (hb.mono (by have:=h.sz;omega)),by have:=h.sz;have:=hb.size;omega⟩
theorem dT.kb (h:dT wa w out ws aF aC A1 c1 A2 c2) (i:Nat) (x:Int):dT wa (w.setCell ⟨wa.heap.size+1,i,none⟩ (.int .i64 x)) out ws aF (aC.set i x) A1 c1 A2 c2:=
 ⟨Zo h.out zd _,Zo h.ws zd _,h.aF.cj zd _,h.aC.setInt i x,h.bn.setCell zd _,by simpa using h.sz⟩
theorem dT.fz (h:dT wa w out ws aF aC A1 c1 A2 c2) (i:Nat) (x:Int):dT wa (w.setCell ⟨wa.heap.size,i,none⟩ (.int .i64 x)) out ws (aF.set i x) aC A1 c1 A2 c2:=
 ⟨Zo h.out zd _,Zo h.ws zd _,h.aF.setInt i x,h.aC.cj zd _,h.bn.setCell zd _,by simpa using h.sz⟩
theorem dT.g8 (h:dT wa w out ws aF aC A1 c1 A2 c2) (ho:w'.ownsRow (wa.heap.size+2) 3 1 (.slice A3 (ws.length+1) c3) (ws.length+1) (flat YK ws++[.int .i64 x])) (hb:Below (wa.heap.size+2) w w') (hg:w.grownBy w' (Value.slice A2 ws.length c2).ownBlock) :
  dT wa w' out (ws++[x]) aF aC A1 c1 A3 c3:=
 ⟨h.out.kept hg (yR h.out h.ws zc),by rw [zH,yA,Zk];simpa [YK] using ho,h.aF.below hb za,h.aC.below hb za,h.bn.trans (hb.mono za),by have:=h.sz;have:=hb.size;omega⟩
theorem dT.eZ (h:dT wa w out ws aF aC A1 c1 A2 c2) (ho:w'.ownsRow (wa.heap.size+2) 77 8 (.slice A3 (out.length+1) c3) (out.length+1) (flat aj.ah out++o.ah)) (hb:Below (wa.heap.size+2) w w') (hg:w.grownBy w' (Value.slice A1 out.length c1).ownBlock) :
  dT wa w' (out++[o]) ws aF aC A3 c3 A2 c2:=
 ⟨by rw [zH,yA,Zk];simpa using ho,h.ws.kept hg (yR h.ws h.out zc),h.aF.below hb za,h.aC.below hb za,h.bn.trans (hb.mono za),by have:=h.sz;have:=hb.size;omega⟩
theorem dT.gq (h:dT wa w out ws aF aC (some ⟨g,0,none⟩) c1 A2 c2) (jD:wa.heap.size+2≤g) (hj:j<out.length) (o:aj) :
  dT wa ((((((((w.setCell ⟨g,j * 8,none⟩ (.int .i64 o.p)).setCell ⟨g,j * 8+1,none⟩ (.int .i64 o.k)).setCell ⟨g,j * 8+2,none⟩ (.int .i64 o.key)).setCell ⟨g,j * 8+3,none⟩ (.int .i64 o.arg)).setCell ⟨g,j * 8+4,none⟩ (.int .i64 o.res)).setCell ⟨g,j * 8+5,none⟩ (.int .i64 o.call)).setCell ⟨g,j * 8+6,none⟩ (.int .i64 o.ret)).setCell ⟨g,j * 8+7,none⟩ (.bool o.done)) (out.set j o) ws aF aC (some ⟨g,0,none⟩) c1 A2 c2:=by
 have aZ:some g≠(Value.slice A2 ws.length c2).ownBlock:=by
  rcases yR h.ws h.out zc with e|e
  ·rw [e];simp
  ·exact fun e2=>e (by rw [← e2];rfl)
 refine ⟨?_,?_,?_,?_,?_,by simpa using h.sz⟩
 ·have:=uv h.out hj o;rwa [Zj]
 ·exact zn (zn (zn (zn (zn (zn (zn (zn h.ws aZ _) aZ _) aZ _) aZ _) aZ _) aZ _) aZ _) aZ _
 ·have e:wa.heap.size≠g:=by omega
  exact (((((((h.aF.cj (p:=⟨g,_,none⟩) e _).cj (p:=⟨g,_,none⟩) e _).cj (p:=⟨g,_,none⟩) e _).cj (p:=⟨g,_,none⟩) e _).cj (p:=⟨g,_,none⟩) e _).cj (p:=⟨g,_,none⟩) e _).cj (p:=⟨g,_,none⟩) e _).cj (p:=⟨g,_,none⟩) e _
 ·have e:wa.heap.size+1≠g:=by omega
  exact (((((((h.aC.cj (p:=⟨g,_,none⟩) e _).cj (p:=⟨g,_,none⟩) e _).cj (p:=⟨g,_,none⟩) e _).cj (p:=⟨g,_,none⟩) e _).cj (p:=⟨g,_,none⟩) e _).cj (p:=⟨g,_,none⟩) e _).cj (p:=⟨g,_,none⟩) e _).cj (p:=⟨g,_,none⟩) e _
 ·have e:wa.heap.size≤g:=by omega
  exact (((((((h.bn.setCell (p:=⟨g,_,none⟩) e _).setCell (p:=⟨g,_,none⟩) e _).setCell (p:=⟨g,_,none⟩) e _).setCell (p:=⟨g,_,none⟩) e _).setCell (p:=⟨g,_,none⟩) e _).setCell (p:=⟨g,_,none⟩) e _).setCell (p:=⟨g,_,none⟩) e _).setCell (p:=⟨g,_,none⟩) e _
theorem dT.cells (h:dT wa w out ws aF aC (some ⟨g,0,none⟩) c1 A2 c2) (hj:j<out.length) :
  (w.cell? ⟨g,j * 8,none⟩=some (.int .i64 (nth out j).p)∧w.cell? ⟨g,j * 8+1,none⟩=some (.int .i64 (nth out j).k)∧w.cell? ⟨g,j * 8+2,none⟩=some (.int .i64 (nth out j).key)∧w.cell? ⟨g,j * 8+3,none⟩=some (.int .i64 (nth out j).arg)∧
  w.cell? ⟨g,j * 8+4,none⟩=some (.int .i64 (nth out j).res)∧w.cell? ⟨g,j * 8+5,none⟩=some (.int .i64 (nth out j).call)∧w.cell? ⟨g,j * 8+6,none⟩=some (.int .i64 (nth out j).ret)∧w.cell? ⟨g,j * 8+7,none⟩=some (.bool (nth out j).done))∧
  (w.frozen? ⟨g,j * 8,none⟩=false∧w.frozen? ⟨g,j * 8+1,none⟩=false∧w.frozen? ⟨g,j * 8+2,none⟩=false∧w.frozen? ⟨g,j * 8+3,none⟩=false∧w.frozen? ⟨g,j * 8+4,none⟩=false∧w.frozen? ⟨g,j * 8+5,none⟩=false∧w.frozen? ⟨g,j * 8+6,none⟩=false∧w.frozen? ⟨g,j * 8+7,none⟩=false):=by
 have hs:=(Sl.bK h.out rfl).j9 hj;simp only [zM] at hs;exact ⟨hs,h.out.frozenAt _,h.out.frozenAt _,h.out.frozenAt _,h.out.frozenAt _,h.out.frozenAt _,h.out.frozenAt _,h.out.frozenAt _,h.out.frozenAt _⟩
end
end
section
open Go.RowKit
attribute [local go_sem ↓] Go.wp_at_zero Go.wp_at_succ
set_option maxRecDepth 100000 in
theorem Be (A:Option Addr) (c:Nat) (l:List Int) (ae:Int) (w:World) (h1:Sl YK w w.heap.size A l) (hl:∀ x∈l,aT x) (hlen:l.length≤9223372036854775807) (eS:aT ae) :
  Calls Tryz.prog 31 #[.slice A l.length c,.int .i64 ae] w fun e w'=>∃ A1 c1,e=.returned (.slice A1 (yi l ae).length c1)∧
   w'.ownsRow w.heap.size 77 8 (.slice A1 (yi l ae).length c1) (yi l ae).length (flat aj.ah (yi l ae))∧Below w.heap.size w w':=by
 have n6:∀ w,(Instr.makeSlice 22 (.int .i64 4) (.int .i64 4)).run Tryz.prog w=.ok (.slice (some ⟨w.heap.size,0,none⟩) 4 4) (w.alloc (.cells #[.int .i64 0,.int .i64 0,.int .i64 0,.int .i64 0] 3)):=fun _=>by kernel_rfl
 have qL:∀ w,(Instr.makeSlice 22 (.int .i64 3) (.int .i64 3)).run Tryz.prog w=.ok (.slice (some ⟨w.heap.size,0,none⟩) 3 3) (w.alloc (.cells #[.int .i64 0,.int .i64 0,.int .i64 0] 3)):=fun _=>by kernel_rfl
 obtain ⟨ev,eL⟩:∃ ev,xe l ae=ev:=⟨_,rfl⟩
 obtain ⟨fr,l8⟩:∃ fr,Yf l=fr:=⟨_,rfl⟩
 have gj:yi l ae=(Zp ev fr ev.length).out:=by rw [yi,eL,l8]
 rw [gj];have cH:=xn l ae;have fT:=xU l ae;rw [eL] at cH fT;have om:=uY l (ae:=100) za;obtain ⟨pk,gR⟩:∃ pk,Vw l 100=pk:=⟨_,rfl⟩
 rw [gR] at om;obtain ⟨qW,qX⟩:=om;have qu:(pk % 2 == 1)=fr:=by rw [← l8,Yf,gR];rw [UH];simp
 have cB:=zg cH;clear cH l8 gj
 go_enter Tryz.func31,Tryz.ntmps31
 go_upto_region 4 with (go_at_call 79;refine (XU _ _ _ _ _ h1 hl hlen eS).mono ?_;rintro e wa ⟨Ae,ce,rfl,jP,fC⟩;rw [eL] at jP ⊢)
 have ov:=Sl.bK jP rfl;have nD:=h1.below fC;have kM:=fC.size
 go_wp2_with (go_at_call 80;refine (uw _ _ _ _ _ (((nD.more kM).keep fun p hp=>by rw [Xh _ _ _ zy,Xh _ _ _ hp]).more zy) hl hlen za za).mono ?_;rintro e w' ⟨rfl,rfl⟩;rw [gR])
 have sI:=zg h1;clear h1 nD hl
 go_loopw [6,7,11] (fun v6 v7 i wr=>∃ (k:Nat) (A1:Option Addr) (c1:Nat) (A2:Option Addr) (c2:Nat),k≤ev.length∧i=.int .i64 k∧v6=.slice A1 (Zp ev fr k).out.length c1∧v7=.slice A2 (Zp ev fr k).ws.length c2∧
   dT wa wr (Zp ev fr k).out (Zp ev fr k).ws (Zp ev fr k).aF (Zp ev fr k).aC A1 c1 A2 c2) (fun _ _ i _=>ev.length - (intOf i).toNat)
 case atStart=>
  refine ⟨0,none,0,none,0,by omega,rfl,rfl,rfl,yv _ _ _ _,yv _ _ _ _,(aQ.new wa 3 [.int .i64 0,.int .i64 0,.int .i64 0,.int .i64 0]).alloc _,?_,((zQ _ _).alloc (zf _) _).alloc zd _,by simp⟩;have:=aQ.new (wa.alloc (.cells #[.int .i64 0,.int .i64 0,.int .i64 0,.int .i64 0] 3)) 3 [.int .i64 0,.int .i64 0,.int .i64 0];simp only [yX] at this;exact this
 case round=>
  obtain ⟨k,A1,c1,A2,c2,hk,rfl,rfl,rfl,gw⟩:=hrel;have az:=gw.sz;by_cases aD:k<ev.length
  ·have inv:=Vy fr cB.out fT k za;have Hs:=zg (show Zp ev fr (k+1)=XX ev fr k (Zp ev fr k) from rfl);obtain ⟨s,hs⟩:∃ s,s=Zp ev fr k:=⟨_,rfl⟩
   rw [← hs] at gw inv Hs ⊢;clear hs;obtain ⟨be,oe,rfl,jt,q0,q1,q2⟩:=(ov.below gw.bn).ev aD;obtain ⟨⟨g1,g2⟩,⟨g3,g4⟩,_⟩:=cB.out k aD;obtain ⟨p,hp⟩:∃ p:Nat,(nth ev k).p=p:=⟨(nth ev k).p.toNat,by omega⟩
   obtain ⟨n,hn⟩:∃ n,(nth ev k).n=n:=⟨_,rfl⟩
   rw [hp] at q0 g1 g2;rw [hn] at q2 g3 g4;have tH:(0:Int)≤(p:Int):=by omega
   have mm:(p:Int)<4:=by omega
   have gf:(nth ev k).p.toNat=p:=by omega
   have ok:=inv.ok;have fY:p<s.aF.length:=by have:=ok.na;omega
   have qD:=inv.aC;have oF:=inv.ws;have tG:s.out.length≤100:=by
    rcases ZM s.out.length with h0|h0
    ·omega
    ·obtain ⟨c',_,sN,_⟩:=ok.call (s.out.length - 1) za;have key:∀ j,j<s.out.length→∃ c:Nat,(nth s.out j).call=c∧c<k∧j≤c:=by
      intro j
      induction j with
      | zero => intro hj; obtain ⟨c, a, b, _⟩ := ok.call 0 hj; exact ⟨c, a, b, zN _⟩
      | succ j ih =>
       intro hj;obtain ⟨c,a,b,d⟩:=ih za;obtain ⟨c2,a2,b2,_⟩:=ok.call (j+1) hj;have:=ok.mono j (j+1) za hj;exact ⟨c2,a2,b2,by omega⟩
     obtain ⟨c,_,b,d⟩:=key (s.out.length - 1) za;omega
   cases hi:(nth ev k).inv with
   | true=>
    rw [hi] at q1;obtain ⟨key,bU⟩:∃ key:Nat,1+n / 2 % 2=(key:Int):=⟨(1+n / 2 % 2).toNat,by omega⟩
    have fW:(0:Int)≤(key:Int):=by omega
    have fX:(key:Int)<3:=by omega
    have aM:Zp ev fr (k+1)=pC ev k (nth ev k) s:=by rw [Hs.out,XX,hi];rfl
    unfold pC at aM;rw [hn,hp,bU] at aM;simp only [Ys] at aM;obtain ⟨o',eW,bQ,br,bB⟩:∃ o' eW bQ,Zp ev fr (k+1)=⟨s.out++[o'],eW,s.aF.set p s.out.length,bQ⟩∧
      ((n % 2=1∧o'=⟨p,n % 2,key,(s.ws.length:Int)+1,0,k,ev.length,false⟩∧eW=s.ws++[(key:Int)]∧bQ=s.aC.set key ((s.ws.length:Int)+1))∨(n % 2=0∧o'=⟨p,n % 2,key,0,0,k,ev.length,false⟩∧eW=s.ws∧bQ=s.aC)):=by
     by_cases h2:n % 2=1
     ·rw [if_pos h2] at aM;exact ⟨_,_,_,aM,.inl ⟨h2,by rw [h2],rfl,rfl⟩⟩
     ·have h3:n % 2=0:=by omega
      rw [if_neg h2] at aM;exact ⟨_,_,_,aM,.inr ⟨h3,by rw [h3],rfl,rfl⟩⟩
    have dI:=zg br;clear br aM Hs ok inv;have hE:=az
    go_upto_if 53 with fail
    have h9:=gw.below (w':=(wr.alloc (.cells #[.int .i64 p,.bool true,.int .i64 n] 114)).alloc (.cells #[.int .i64 p,.int .i64 (n % 2),.int .i64 key,.int .i64 0,.int .i64 0,.int .i64 k,.int .i64 ev.length,.bool false] 77)) (((zQ _ _).alloc (zf _) _).alloc zd _);have hZ:∀ v,dT wa (((wr.alloc (.cells #[.int .i64 p,.bool true,.int .i64 n] 114)).alloc (.cells #[.int .i64 p,.int .i64 (n % 2),.int .i64 key,.int .i64 0,.int .i64 0,.int .i64 k,.int .i64 ev.length,.bool false] 77)).setCell ⟨wr.heap.size+1,3,none⟩ v) s.out s.ws s.aF s.aC A1 c1 A2 c2:=fun v=>gw.below ((((zQ _ _).alloc (zf _) _).alloc zd _).setCell zd _);have dk:aQ ((wr.alloc (.cells #[.int .i64 p,.bool true,.int .i64 n] 114)).alloc (.cells #[.int .i64 p,.int .i64 (n % 2),.int .i64 key,.int .i64 0,.int .i64 0,.int .i64 k,.int .i64 ev.length,.bool false] 77)) wr.heap.size 114 (bq.ah ⟨p,true,n⟩):=(aQ.new wr 114 (bq.ah ⟨p,true,n⟩)).alloc _;have bT:aQ ((wr.alloc (.cells #[.int .i64 p,.bool true,.int .i64 n] 114)).alloc (.cells #[.int .i64 p,.int .i64 (n % 2),.int .i64 key,.int .i64 0,.int .i64 0,.int .i64 k,.int .i64 ev.length,.bool false] 77)) (wr.heap.size+1) 77 (aj.ah ⟨p,n % 2,key,0,0,k,ev.length,false⟩):=by
     have:=aQ.new (wr.alloc (.cells #[.int .i64 p,.bool true,.int .i64 n] 114)) 77 (aj.ah ⟨p,n % 2,key,0,0,k,ev.length,false⟩);simp only [yX] at this;exact this
    have eV:wr.heap.size+2≤((wr.alloc (.cells #[.int .i64 p,.bool true,.int .i64 n] 114)).alloc (.cells #[.int .i64 p,.int .i64 (n % 2),.int .i64 key,.int .i64 0,.int .i64 0,.int .i64 k,.int .i64 ev.length,.bool false] 77)).heap.size:=by simp
    obtain ⟨w1,cP⟩:∃ w1,w1=(wr.alloc (.cells #[.int .i64 p,.bool true,.int .i64 n] 114)).alloc (.cells #[.int .i64 p,.int .i64 (n % 2),.int .i64 key,.int .i64 0,.int .i64 0,.int .i64 k,.int .i64 ev.length,.bool false] 77):=⟨_,rfl⟩
    rw [← cP] at h9 hZ dk bT eV;rw [← cP];clear cP gw q0 q1 q2;obtain ⟨E,jn⟩:∃ E,E=wr.heap.size:=⟨_,rfl⟩
    rw [← jn] at hZ dk bT eV az hE ⊢;clear jn;obtain ⟨x0,x1,x2,x3,x4,x5,x6,x7⟩:=bT.op
    go_cut [7] (fun v7 wx=>∃ A3 c3,v7=.slice A3 eW.length c3∧dT wa wx s.out eW s.aF bQ A1 c1 A3 c3∧aQ wx E 114 (bq.ah ⟨p,true,n⟩)∧aQ wx (E+1) 77 o'.ah∧E+2≤wx.heap.size)
    case first=>
     rcases bB with ⟨h2,rfl,rfl,rfl⟩|⟨h2,rfl,rfl,rfl⟩
     ·have iy : (n % 2 == 1)=true:=by simpa using h2
      have f3:=bT.frozen 3;have cw:=bT.dF 3 (.int .i64 ((s.ws.length:Int)+1));have kY:=dk.cj (p:=⟨E+1,3,none⟩) zd (.int .i64 ((s.ws.length:Int)+1));have hU:=hZ (.int .i64 ((s.ws.length:Int)+1));have iK:(w1.setCell ⟨E+1,3,none⟩ (.int .i64 ((s.ws.length:Int)+1))).heap.size=w1.heap.size:=by simp
      have y2:(w1.setCell ⟨E+1,3,none⟩ (.int .i64 ((s.ws.length:Int)+1))).cell? ⟨E+1,2,none⟩=some (.int .i64 key):=cw.cell 2;clear hZ h9
      go_wp2_with (at_builtin;go_loud (refine ym oS hU.ws rfl (.tmp 58) (.tmp 61) rfl rfl (by rw [iK];rfl) rfl YS za za za ?_;intro A5 c5 w5 mi iC ig nX;have kB:=hU.g8 mi iC ig;have kA:=cw.grown ig (xu hU.ws cw zc);have nz:=kY.grown ig (xu hU.ws kY zc);have xl:=kB.aC.int (i:=key) za;have fl:=kB.aC.frozen key;have k2:w5.cell? ⟨E+1,2,none⟩=some (.int .i64 key):=kA.cell 2;have k3:w5.cell? ⟨E+1,3,none⟩=some (.int .i64 ((s.ws.length:Int)+1)):=kA.cell 3;have iL:=iC.size))
      go_meet
      case rel=>exact ⟨A5,c5,by simp,kB.kb key _,nz.cj zy _,kA.cj zy _,by simp;omega⟩
     ·have iy : (n % 2 == 1)=false:=by simp [h2]
      go_wp2_with fail
      go_meet
      case rel=>exact ⟨A2,c2,rfl,h9,dk,bT,by omega⟩
    case rest=>
     obtain ⟨A3,c3,rfl,gx,g9,eP,lI⟩:=hcut;clear bB h9 dk bT x0 x1 x2 x3 x4 x5 x6 x7;obtain ⟨x0,x1,x2,x3,x4,x5,x6,x7⟩:=eP.op;have y0:wc.cell? ⟨E,0,none⟩=some (.int .i64 p):=g9.cell 0;have fo:=gx.aF.frozen p;have xo:=gx.aF.int (i:=p) fY;have g2:=gx.fz p s.out.length;have cw:=eP.cj (p:=⟨wa.heap.size,p,none⟩) zy (.int .i64 s.out.length);obtain ⟨z0,z1,z2,z3,z4,z5,z6,z7⟩:=cw.op;have eN:(wc.setCell ⟨wa.heap.size,p,none⟩ (.int .i64 s.out.length)).heap.size=wc.heap.size:=by simp
     have oA:=gx.sz
     go_wp2_with (at_builtin;go_loud (refine ym pQ g2.out rfl (.tmp 75) (.tmp 77) rfl rfl (by rw [eN];rfl) (cs:=o'.ah) rfl o'.one za za za ?_;intro A4 c4 w4 og iB gN tA))
     go_roundw
     case rel=>exact ⟨k+1,A4,c4,A3,c3,by omega,by go_num,by rw [dI.out];simp,by rw [dI.out],by rw [dI.out];exact g2.eZ og iB gN⟩
     case measure=>simp [intOf];omega
   | false=>
    rw [hi] at q1;have gD:(nth ev k).p=(p:Int):=hp;obtain ⟨j,j1,j2,j3,j4⟩:=ok.at_ cB.out aD hi gD;have qA:(0:Int)≤(j:Int):=by omega
    have dN:(j:Int)<(s.out.length:Int):=by omega
    obtain ⟨oj,gb⟩:∃ oj,nth s.out j=oj:=⟨_,rfl⟩
    have eU:=inv.sm _ (yj j2);rw [gb] at eU;obtain ⟨key,bU⟩:∃ key:Nat,oj.key=(key:Int):=⟨oj.key.toNat,by have:=eU.2.1;omega⟩
    have fX:(key:Int)<3:=by have:=eU.2.1;omega
    have fW:(0:Int)≤(key:Int):=by omega
    obtain ⟨o',bX⟩:∃ o' : aj,o'={ oj with done:=true,ret:=(k:Int),res:=if oj.k=0 then yz s.ws oj.key n (nth s.aC key) fr else oj.res }:=⟨_,rfl⟩
    have br:Zp ev fr (k+1)=⟨s.out.set j o',s.ws,s.aF,s.aC⟩:=by
     have jG:(nth s.aF p).toNat=j:=by omega
     have lh:oj.key.toNat=key:=by omega
     rw [Hs.out,XX,hi];simp only [ZF,if_false];unfold sg;rw [gf,jG,hn,gb,lh,bX]
    have dI:=zg br;clear br Hs;obtain ⟨g,rfl,l9,th⟩:=WN gw.out za;obtain ⟨⟨e0,e1,e2,e3,e4,e5,e6,e7⟩,_⟩:=gw.cells j2;rw [gb] at e0 e1 e2 e3 e4 e5 e6 e7;have xo:=gw.aF.int (i:=p) fY;rw [j1] at xo;have xl:=gw.aC.int (i:=key) za;have kO:=Sl.bK gw.ws rfl;have sM:=zg eU;have sK:=zg gb;have Hj:=zg (And.intro j1 (And.intro j3 j4));have gG:=zg bU;have il:key<s.aC.length:=by omega
    clear ok inv eU gb j1 j3 j4 bU gD;have gQ:wa.heap.size<wr.heap.size:=by omega
    have nZ:wa.heap.size+1<wr.heap.size:=by omega
    go_upto_region 21 with fail
    have dk:aQ ((wr.alloc (.cells #[.int .i64 p,.bool false,.int .i64 n] 114)).alloc (.cells #[.int .i64 oj.p,.int .i64 oj.k,.int .i64 oj.key,.int .i64 oj.arg,.int .i64 oj.res,.int .i64 oj.call,.int .i64 oj.ret,.bool oj.done] 77)) wr.heap.size 114 (bq.ah ⟨p,false,n⟩):=(aQ.new wr 114 (bq.ah ⟨p,false,n⟩)).alloc _;have bT:aQ ((wr.alloc (.cells #[.int .i64 p,.bool false,.int .i64 n] 114)).alloc (.cells #[.int .i64 oj.p,.int .i64 oj.k,.int .i64 oj.key,.int .i64 oj.arg,.int .i64 oj.res,.int .i64 oj.call,.int .i64 oj.ret,.bool oj.done] 77)) (wr.heap.size+1) 77 oj.ah:=by
     have:=aQ.new (wr.alloc (.cells #[.int .i64 p,.bool false,.int .i64 n] 114)) 77 oj.ah;simp only [yX] at this;exact this
    have B1:Below wr.heap.size wr ((wr.alloc (.cells #[.int .i64 p,.bool false,.int .i64 n] 114)).alloc (.cells #[.int .i64 oj.p,.int .i64 oj.k,.int .i64 oj.key,.int .i64 oj.arg,.int .i64 oj.res,.int .i64 oj.call,.int .i64 oj.ret,.bool oj.done] 77)):=((zQ _ _).alloc (zf _) _).alloc zd _;have eV:wr.heap.size+2≤((wr.alloc (.cells #[.int .i64 p,.bool false,.int .i64 n] 114)).alloc (.cells #[.int .i64 oj.p,.int .i64 oj.k,.int .i64 oj.key,.int .i64 oj.arg,.int .i64 oj.res,.int .i64 oj.call,.int .i64 oj.ret,.bool oj.done] 77)).heap.size:=by simp
    obtain ⟨w1,cP⟩:∃ w1,w1=(wr.alloc (.cells #[.int .i64 p,.bool false,.int .i64 n] 114)).alloc (.cells #[.int .i64 oj.p,.int .i64 oj.k,.int .i64 oj.key,.int .i64 oj.arg,.int .i64 oj.res,.int .i64 oj.call,.int .i64 oj.ret,.bool oj.done] 77):=⟨_,rfl⟩
    rw [← cP] at dk bT B1 eV;rw [← cP];clear cP q0 q1 q2 e0 e1 e2 e3 e4 e5 e6 e7 xo;have f7:=bT.frozen 7;have f6:=bT.frozen 6;obtain ⟨x0,x1,x2,x3,x4,x5,x6,x7⟩:=bT.op
    go_upto_if 93 with fail
    have eP:=(bT.dF 7 (.bool true)).dF 6 (.int .i64 k);have g9:=(dk.cj (p:=⟨wr.heap.size+1,7,none⟩) zd (.bool true)).cj (p:=⟨wr.heap.size+1,6,none⟩) zd (.int .i64 k);have B2:=(B1.setCell (p:=⟨wr.heap.size+1,7,none⟩) zd (.bool true)).setCell (p:=⟨wr.heap.size+1,6,none⟩) zd (.int .i64 k);have lI:wr.heap.size+2≤((w1.setCell ⟨wr.heap.size+1,7,none⟩ (.bool true)).setCell ⟨wr.heap.size+1,6,none⟩ (.int .i64 k)).heap.size:=by simpa using eV
    obtain ⟨w2,dR⟩:∃ w2,w2=(w1.setCell ⟨wr.heap.size+1,7,none⟩ (.bool true)).setCell ⟨wr.heap.size+1,6,none⟩ (.int .i64 k):=⟨_,rfl⟩
    rw [← dR] at g9 eP B2 lI;rw [← dR];clear dR x0 x1 x2 x3 x4 x5 x6 x7 f7 f6 dk bT B1 eV;have eJ : aQ w2 (wr.heap.size+1) 77 (aj.ah { oj with done:=true,ret:=(k:Int) }):=eP;clear eP
    go_cut [15] (fun rE wx=>rE=.pointer (some ⟨wr.heap.size+1,0,none⟩)∧Below wr.heap.size wr wx∧aQ wx (wr.heap.size+1) 77 o'.ah)
    case first=>
     by_cases h0:oj.k=0
     ·have vZ : (oj.k == 0)=true:=by simpa using h0
      have bV:o'={ oj with done:=true,ret:=(k:Int),res:=yz s.ws oj.key n (nth s.aC key) fr }:=by rw [bX,if_pos h0]
      have pS:=zg bV;clear bX bV
      go_upto_region 24 with fail
      have jm:=gw.below B2;have mR : w2.cell? ⟨wr.heap.size+1,2,none⟩=some (.int .i64 oj.key):=eJ.cell 2;rw [gG.out] at mR;have cn:w2.cell? ⟨wr.heap.size,2,none⟩=some (.int .i64 n):=g9.cell 2;have cl:=jm.aC.int (i:=key) il;have j0:=Sl.bK jm.ws rfl;have oE:s.ws.length≤1000000:=by omega
      go_region_held3 (fun w'=>w'.cell? ⟨wr.heap.size+1,2,none⟩=some (.int .i64 key)∧w'.cell? ⟨wr.heap.size,2,none⟩=some (.int .i64 n)∧w'.cell? ⟨wa.heap.size+1,key,none⟩=some (.int .i64 (nth s.aC key)))
       (first|(refine ⟨?_,?_,?_⟩ <;> assumption)|(go_keep;done)|(refine ⟨(Zu _ _ _ _ zd).trans ?_,(Zu _ _ _ _ zd).trans ?_,(Zu _ _ _ _ zd).trans ?_⟩ <;> assumption))
       ((go_at_call 81;refine (Ui _ _ _ _ _ _ _ _ (by exact j0) oE g3 za).mono ?_;rintro e w3 ⟨rfl,dv⟩;have d1:=(dv.cell (p:=⟨wr.heap.size+1,2,none⟩) (by show wr.heap.size+1<w2.heap.size;omega)).trans mR;have d2:=(dv.cell (p:=⟨wr.heap.size,2,none⟩) (by show wr.heap.size<w2.heap.size;omega)).trans cn;have d3:=(dv.cell (p:=⟨wa.heap.size+1,key,none⟩) (by show wa.heap.size+1<w2.heap.size;omega)).trans cl;have cw:=eJ.drew.below dv (by show wr.heap.size+1<w2.heap.size;omega);have f4:=cw.frozen 4;have k4:=cw.cell 4))
      go_wp2_with fail
      go_meet
      case rel=>
       refine ⟨rfl,((vL B2).trans (dv.mono (by show wr.heap.size≤w2.heap.size;omega))).setCell zd _,?_⟩;have jB:=cw.dF 4 (.int .i64 (yz s.ws oj.key n (nth s.aC key) fr));rw [pS.out];rw [gG.out] at jB ⊢;exact jB
     ·have vZ : (oj.k == 0)=false:=by simpa using h0
      have bV:o'={ oj with done:=true,ret:=(k:Int) }:=by rw [bX,if_neg h0]
      have pS:=zg bV;clear bX bV
      go_wp2_with fail
      go_meet
      case rel=>exact ⟨rfl,B2,by rw [pS.out];exact eJ⟩
    case rest=>
     obtain ⟨rfl,B3,cw⟩:=hcut;have gx:=gw.below B3;obtain ⟨⟨e0,e1,e2,e3,e4,e5,e6,e7⟩,f0,f1,f2,f3,f4,f5,f6,f7⟩:=gx.cells j2;obtain ⟨x0,x1,x2,x3,x4,x5,x6,x7⟩:=cw.op;clear bX
     go_wp2_with fail
     go_roundw
     case rel=>exact ⟨k+1,some ⟨g,0,none⟩,c1,A2,c2,by omega,by go_num,by rw [dI.out];simp,by rw [dI.out],by rw [dI.out];exact gx.gq l9 j2 o'⟩
     case measure=>simp [intOf];omega
  ·obtain rfl:k=ev.length:=by omega
   go_wp2_with fail
   go_ret
   have jX:=fC.size;exact ⟨A1,c1,rfl,ZT gw.out za,fC.trans (gw.bn.mono jX)⟩
end
section
open Go.RowKit
attribute [local go_sem ↓] Go.wp_at_zero Go.wp_at_succ
def pD (ev:List bq) (i:Nat) (e:bq) (s:xN):xN:=
 if 0<e.n % 3 then ⟨s.out++[⟨e.p,2,1+e.n / 2 % 2,(s.ws.length:Int)+1,0,i,ev.length,false⟩],s.ws++[1+e.n / 2 % 2],s.aF.set e.p.toNat s.out.length,s.aC⟩
 else ⟨s.out++[⟨e.p,0,1+e.n / 2 % 2,0,0,i,ev.length,false⟩],s.ws,s.aF.set e.p.toNat s.out.length,s.aC⟩
def ss (fresh:Bool) (i:Nat) (e:bq) (s:xN):xN:=
 { s with out:=s.out.set (nth s.aF e.p.toNat).toNat { nth s.out (nth s.aF e.p.toNat).toNat with done:=true,ret:=i,res:=yz s.ws (nth s.out (nth s.aF e.p.toNat).toNat).key e.n (nth s.aC (nth s.out (nth s.aF e.p.toNat).toNat).key.toNat) fresh }
          aC:=if (nth s.out (nth s.aF e.p.toNat).toNat).k=2 then s.aC.set (nth s.out (nth s.aF e.p.toNat).toNat).key.toNat (nth s.out (nth s.aF e.p.toNat).toNat).arg else s.aC }
def UE (ev:List bq) (fresh:Bool) (i:Nat) (s:xN):xN:=
 if (nth ev i).inv then pD ev i (nth ev i) s else ss fresh i (nth ev i) s
def VH (ev:List bq) (fresh:Bool) (k:Nat):xN:=YM (UE ev fresh) Yg k
def Wp (l:List Int) (ae:Int):List aj:=(VH (xe l ae) (Yf l) (xe l ae).length).out
theorem rI {ev:List bq} (fresh:Bool) (hg:ZW ev) (hl:ev.length≤40):∀ k,k≤ev.length→ve ev k (VH ev fresh k)
 | 0, _ => ⟨ZZ.zero ev, fun _ h => by simp [VH, YM, Yg] at h, rfl, fun x h => by simp [VH, YM, Yg] at h; omega, zN _, fun _ h => by simp [VH, YM, Yg] at h⟩
 | k + 1,hk=>by
  have ih:=rI fresh hg hl k za;have hs:VH ev fresh (k+1)=UE ev fresh k (VH ev fresh k):=rfl;rw [hs];generalize VH ev fresh k=s at ih;obtain ⟨g1,g2,g3⟩:=hg k za;obtain ⟨ok,sm,aC,eB,ws,iv⟩:=ih;obtain ⟨p,hp⟩:∃ p:Nat,(nth ev k).p=p:=⟨(nth ev k).p.toNat,by omega⟩
  unfold UE;cases hi:(nth ev k).inv with
  | true=>
   simp only [if_true];unfold pD;have gf:(nth ev k).p.toNat=p:=by omega
   rw [gf];split
   ·refine ⟨ok.add hg za hi rfl rfl rfl rfl rfl hp,fun o ho=>?_,aC,eB,by simp;omega,fun x hx=>?_⟩
    ·rcases zO.1 ho with h|h
     ·exact sm o h
     ·simp only [zP] at h;subst h;unfold gY;dsimp only;omega
    ·rcases zO.1 hx with h|h
     ·exact iv x h
     ·simp only [zP] at h;omega
   ·refine ⟨ok.add hg za hi rfl rfl rfl rfl rfl hp,fun o ho=>?_,aC,eB,by dsimp only;omega,iv⟩;rcases zO.1 ho with h|h
    ·exact sm o h
    ·simp only [zP] at h;subst h;unfold gY;dsimp only;omega
  | false=>
   simp only [ZF,if_false];unfold ss;have gf:(nth ev k).p.toNat=p:=by omega
   rw [gf];obtain ⟨j,j1,j2,j3,j4⟩:=ok.at_ hg za hi hp;have jG:(nth s.aF p).toNat=j:=by omega
   rw [jG];have hj:=sm _ (yj j2);refine ⟨ok.put za hi j2 za j4 rfl rfl rfl rfl,fun o ho=>?_,?_,fun x hx=>?_,by dsimp only;omega,iv⟩
   ·rcases xr ho with h|h
    ·exact sm o h
    ·subst h;unfold gY at hj ⊢;dsimp only;refine ⟨hj.1,hj.2.1,hj.2.2.1,?_⟩;have wH:=eB _ (yj (l:=s.aC) (i:=(nth s.out j).key.toNat) za);have:=Uh s.ws (nth s.out j).key (nth ev k).n (nth s.aC (nth s.out j).key.toNat) fresh za;omega
   ·dsimp only;split
    ·simpa using aC
    ·exact aC
   ·dsimp only at hx;split at hx
    ·rcases xr hx with h|h
     ·exact eB x h
     ·rw [h];exact hj.2.2.1
    ·exact eB x hx
end
section
open Go.RowKit
attribute [local go_sem ↓] Go.wp_at_zero Go.wp_at_succ
set_option maxRecDepth 100000 in
theorem DR (A:Option Addr) (c:Nat) (l:List Int) (ae:Int) (w:World) (h1:Sl YK w w.heap.size A l) (hl:∀ x∈l,aT x) (hlen:l.length≤9223372036854775807) (eS:aT ae) :
  Calls Tryz.prog 29 #[.slice A l.length c,.int .i64 ae] w fun e w'=>∃ A1 c1,e=.returned (.slice A1 (Wp l ae).length c1)∧
   w'.ownsRow w.heap.size 77 8 (.slice A1 (Wp l ae).length c1) (Wp l ae).length (flat aj.ah (Wp l ae))∧Below w.heap.size w w':=by
 have n6:∀ w,(Instr.makeSlice 22 (.int .i64 4) (.int .i64 4)).run Tryz.prog w=.ok (.slice (some ⟨w.heap.size,0,none⟩) 4 4) (w.alloc (.cells #[.int .i64 0,.int .i64 0,.int .i64 0,.int .i64 0] 3)):=fun _=>by kernel_rfl
 have qL:∀ w,(Instr.makeSlice 22 (.int .i64 3) (.int .i64 3)).run Tryz.prog w=.ok (.slice (some ⟨w.heap.size,0,none⟩) 3 3) (w.alloc (.cells #[.int .i64 0,.int .i64 0,.int .i64 0] 3)):=fun _=>by kernel_rfl
 obtain ⟨ev,eL⟩:∃ ev,xe l ae=ev:=⟨_,rfl⟩
 obtain ⟨fr,l8⟩:∃ fr,Yf l=fr:=⟨_,rfl⟩
 have gj:Wp l ae=(VH ev fr ev.length).out:=by rw [Wp,eL,l8]
 rw [gj];have cH:=xn l ae;have fT:=xU l ae;rw [eL] at cH fT;have om:=uY l (ae:=100) za;obtain ⟨pk,gR⟩:∃ pk,Vw l 100=pk:=⟨_,rfl⟩
 rw [gR] at om;obtain ⟨qW,qX⟩:=om;have qu:(pk % 2 == 1)=fr:=by rw [← l8,Yf,gR];rw [UH];simp
 have cB:=zg cH;clear cH l8 gj
 go_enter Tryz.func29,Tryz.ntmps29
 go_upto_region 4 with (go_at_call 79;refine (XU _ _ _ _ _ h1 hl hlen eS).mono ?_;rintro e wa ⟨Ae,ce,rfl,jP,fC⟩;rw [eL] at jP ⊢)
 have ov:=Sl.bK jP rfl;have nD:=h1.below fC;have kM:=fC.size
 go_wp2_with (go_at_call 80;refine (uw _ _ _ _ _ (((nD.more kM).keep fun p hp=>by rw [Xh _ _ _ zy,Xh _ _ _ hp]).more zy) hl hlen za za).mono ?_;rintro e w' ⟨rfl,rfl⟩;rw [gR])
 have sI:=zg h1;clear h1 nD hl
 go_loopw [6,7,11] (fun v6 v7 i wr=>∃ (k:Nat) (A1:Option Addr) (c1:Nat) (A2:Option Addr) (c2:Nat),k≤ev.length∧i=.int .i64 k∧v6=.slice A1 (VH ev fr k).out.length c1∧v7=.slice A2 (VH ev fr k).ws.length c2∧
   dT wa wr (VH ev fr k).out (VH ev fr k).ws (VH ev fr k).aF (VH ev fr k).aC A1 c1 A2 c2) (fun _ _ i _=>ev.length - (intOf i).toNat)
 case atStart=>
  refine ⟨0,none,0,none,0,by omega,rfl,rfl,rfl,yv _ _ _ _,yv _ _ _ _,(aQ.new wa 3 [.int .i64 0,.int .i64 0,.int .i64 0,.int .i64 0]).alloc _,?_,((zQ _ _).alloc (zf _) _).alloc zd _,by simp⟩;have:=aQ.new (wa.alloc (.cells #[.int .i64 0,.int .i64 0,.int .i64 0,.int .i64 0] 3)) 3 [.int .i64 0,.int .i64 0,.int .i64 0];simp only [yX] at this;exact this
 case round=>
  obtain ⟨k,A1,c1,A2,c2,hk,rfl,rfl,rfl,gw⟩:=hrel;have az:=gw.sz;by_cases aD:k<ev.length
  ·have inv:=rI fr cB.out fT k za;have Hs:=zg (show VH ev fr (k+1)=UE ev fr k (VH ev fr k) from rfl);obtain ⟨s,hs⟩:∃ s,s=VH ev fr k:=⟨_,rfl⟩
   rw [← hs] at gw inv Hs ⊢;clear hs;obtain ⟨be,oe,rfl,jt,q0,q1,q2⟩:=(ov.below gw.bn).ev aD;obtain ⟨⟨g1,g2⟩,⟨g3,g4⟩,_⟩:=cB.out k aD;obtain ⟨p,hp⟩:∃ p:Nat,(nth ev k).p=p:=⟨(nth ev k).p.toNat,by omega⟩
   obtain ⟨n,hn⟩:∃ n,(nth ev k).n=n:=⟨_,rfl⟩
   rw [hp] at q0 g1 g2;rw [hn] at q2 g3 g4;have tH:(0:Int)≤(p:Int):=by omega
   have mm:(p:Int)<4:=by omega
   have gf:(nth ev k).p.toNat=p:=by omega
   have ok:=inv.ok;have fY:p<s.aF.length:=by have:=ok.na;omega
   have qD:=inv.aC;have oF:=inv.ws;have tG:s.out.length≤100:=by
    rcases ZM s.out.length with h0|h0
    ·omega
    ·obtain ⟨c',_,sN,_⟩:=ok.call (s.out.length - 1) za;have key:∀ j,j<s.out.length→∃ c:Nat,(nth s.out j).call=c∧c<k∧j≤c:=by
      intro j
      induction j with
      | zero => intro hj; obtain ⟨c, a, b, _⟩ := ok.call 0 hj; exact ⟨c, a, b, zN _⟩
      | succ j ih =>
       intro hj;obtain ⟨c,a,b,d⟩:=ih za;obtain ⟨c2,a2,b2,_⟩:=ok.call (j+1) hj;have:=ok.mono j (j+1) za hj;exact ⟨c2,a2,b2,by omega⟩
     obtain ⟨c,_,b,d⟩:=key (s.out.length - 1) za;omega
   cases hi:(nth ev k).inv with
   | true=>
    rw [hi] at q1;obtain ⟨key,bU⟩:∃ key:Nat,1+n / 2 % 2=(key:Int):=⟨(1+n / 2 % 2).toNat,by omega⟩
    have fW:(0:Int)≤(key:Int):=by omega
    have fX:(key:Int)<3:=by omega
    have aM:VH ev fr (k+1)=pD ev k (nth ev k) s:=by rw [Hs.out,UE,hi];rfl
    unfold pD at aM;rw [hn,hp,bU] at aM;simp only [Ys] at aM;obtain ⟨o',eW,bQ,br,bB⟩:∃ o' eW bQ,VH ev fr (k+1)=⟨s.out++[o'],eW,s.aF.set p s.out.length,bQ⟩∧
      ((0<n % 3∧o'=⟨p,2,key,(s.ws.length:Int)+1,0,k,ev.length,false⟩∧eW=s.ws++[(key:Int)]∧bQ=s.aC)∨(n % 3=0∧o'=⟨p,0,key,0,0,k,ev.length,false⟩∧eW=s.ws∧bQ=s.aC)):=by
     by_cases h2:0<n % 3
     ·rw [if_pos h2] at aM;exact ⟨_,_,_,aM,.inl ⟨h2,rfl,rfl,rfl⟩⟩
     ·have h3:n % 3=0:=by omega
      rw [if_neg h2] at aM;exact ⟨_,_,_,aM,.inr ⟨h3,rfl,rfl,rfl⟩⟩
    have dI:=zg br;clear br aM Hs ok inv;have hE:=az
    go_upto_if 51 with fail
    have h9:=gw.below (w':=(wr.alloc (.cells #[.int .i64 p,.bool true,.int .i64 n] 114)).alloc (.cells #[.int .i64 p,.int .i64 0,.int .i64 key,.int .i64 0,.int .i64 0,.int .i64 k,.int .i64 ev.length,.bool false] 77)) (((zQ _ _).alloc (zf _) _).alloc zd _);have hZ:∀ v,dT wa ((((wr.alloc (.cells #[.int .i64 p,.bool true,.int .i64 n] 114)).alloc (.cells #[.int .i64 p,.int .i64 0,.int .i64 key,.int .i64 0,.int .i64 0,.int .i64 k,.int .i64 ev.length,.bool false] 77)).setCell ⟨wr.heap.size+1,1,none⟩ (.int .i64 2)).setCell ⟨wr.heap.size+1,3,none⟩ v) s.out s.ws s.aF s.aC A1 c1 A2 c2:=fun v=>gw.below (((((zQ _ _).alloc (zf _) _).alloc zd _).setCell zd _).setCell zd _);have dk:aQ ((wr.alloc (.cells #[.int .i64 p,.bool true,.int .i64 n] 114)).alloc (.cells #[.int .i64 p,.int .i64 0,.int .i64 key,.int .i64 0,.int .i64 0,.int .i64 k,.int .i64 ev.length,.bool false] 77)) wr.heap.size 114 (bq.ah ⟨p,true,n⟩):=(aQ.new wr 114 (bq.ah ⟨p,true,n⟩)).alloc _;have bT:aQ ((wr.alloc (.cells #[.int .i64 p,.bool true,.int .i64 n] 114)).alloc (.cells #[.int .i64 p,.int .i64 0,.int .i64 key,.int .i64 0,.int .i64 0,.int .i64 k,.int .i64 ev.length,.bool false] 77)) (wr.heap.size+1) 77 (aj.ah ⟨p,0,key,0,0,k,ev.length,false⟩):=by
     have:=aQ.new (wr.alloc (.cells #[.int .i64 p,.bool true,.int .i64 n] 114)) 77 (aj.ah ⟨p,0,key,0,0,k,ev.length,false⟩);simp only [yX] at this;exact this
    have eV:wr.heap.size+2≤((wr.alloc (.cells #[.int .i64 p,.bool true,.int .i64 n] 114)).alloc (.cells #[.int .i64 p,.int .i64 0,.int .i64 key,.int .i64 0,.int .i64 0,.int .i64 k,.int .i64 ev.length,.bool false] 77)).heap.size:=by simp
    obtain ⟨w1,cP⟩:∃ w1,w1=(wr.alloc (.cells #[.int .i64 p,.bool true,.int .i64 n] 114)).alloc (.cells #[.int .i64 p,.int .i64 0,.int .i64 key,.int .i64 0,.int .i64 0,.int .i64 k,.int .i64 ev.length,.bool false] 77):=⟨_,rfl⟩
    rw [← cP] at h9 hZ dk bT eV;rw [← cP];clear cP gw q0 q1 q2;obtain ⟨E,jn⟩:∃ E,E=wr.heap.size:=⟨_,rfl⟩
    rw [← jn] at hZ dk bT eV az hE ⊢;clear jn;obtain ⟨x0,x1,x2,x3,x4,x5,x6,x7⟩:=bT.op
    go_cut [7] (fun v7 wx=>∃ A3 c3,v7=.slice A3 eW.length c3∧dT wa wx s.out eW s.aF bQ A1 c1 A3 c3∧aQ wx E 114 (bq.ah ⟨p,true,n⟩)∧aQ wx (E+1) 77 o'.ah∧E+2≤wx.heap.size)
    case first=>
     rcases bB with ⟨h2,rfl,rfl,rfl⟩|⟨h2,rfl,rfl,rfl⟩
     ·have f1:=bT.frozen 1;have f3:=bT.frozen 3;have cw:=(bT.dF 1 (.int .i64 2)).dF 3 (.int .i64 ((s.ws.length:Int)+1));have kY:=(dk.cj (p:=⟨E+1,1,none⟩) zd (.int .i64 2)).cj (p:=⟨E+1,3,none⟩) zd (.int .i64 ((s.ws.length:Int)+1));have hU:=hZ (.int .i64 ((s.ws.length:Int)+1));have iK:((w1.setCell ⟨E+1,1,none⟩ (.int .i64 2)).setCell ⟨E+1,3,none⟩ (.int .i64 ((s.ws.length:Int)+1))).heap.size=w1.heap.size:=by simp
      have y0:w1.cell? ⟨E,2,none⟩=some (.int .i64 n):=dk.cell 2;have y2:((w1.setCell ⟨E+1,1,none⟩ (.int .i64 2)).setCell ⟨E+1,3,none⟩ (.int .i64 ((s.ws.length:Int)+1))).cell? ⟨E+1,2,none⟩=some (.int .i64 key):=cw.cell 2;clear hZ h9
      go_wp2_with (at_builtin;go_loud (refine ym oS hU.ws rfl (.tmp 57) (.tmp 60) rfl rfl (by rw [iK];rfl) rfl YS za za za ?_;intro A5 c5 w5 mi iC ig nX;have kB:=hU.g8 mi iC ig;have kA:=cw.grown ig (xu hU.ws cw zc);have nz:=kY.grown ig (xu hU.ws kY zc);have iL:=iC.size))
      go_meet
      case rel=>exact ⟨A5,c5,by simp,kB,nz,kA,by simp at iL;omega⟩
     ·have iy : ¬ (0:Int)<n % 3:=by omega
      go_wp2_with fail
      go_meet
      case rel=>exact ⟨A2,c2,rfl,h9,dk,bT,by omega⟩
    case rest=>
     obtain ⟨A3,c3,rfl,gx,g9,eP,lI⟩:=hcut;clear bB h9 dk bT x0 x1 x2 x3 x4 x5 x6 x7;obtain ⟨x0,x1,x2,x3,x4,x5,x6,x7⟩:=eP.op;have y0:wc.cell? ⟨E,0,none⟩=some (.int .i64 p):=g9.cell 0;have fo:=gx.aF.frozen p;have xo:=gx.aF.int (i:=p) fY;have g2:=gx.fz p s.out.length;have cw:=eP.cj (p:=⟨wa.heap.size,p,none⟩) zy (.int .i64 s.out.length);obtain ⟨z0,z1,z2,z3,z4,z5,z6,z7⟩:=cw.op;have eN:(wc.setCell ⟨wa.heap.size,p,none⟩ (.int .i64 s.out.length)).heap.size=wc.heap.size:=by simp
     have oA:=gx.sz
     go_wp2_with (at_builtin;go_loud (refine ym pQ g2.out rfl (.tmp 68) (.tmp 70) rfl rfl (by rw [eN];rfl) (cs:=o'.ah) rfl o'.one za za za ?_;intro A4 c4 w4 og iB gN tA))
     go_roundw
     case rel=>exact ⟨k+1,A4,c4,A3,c3,by omega,by go_num,by rw [dI.out];simp,by rw [dI.out],by rw [dI.out];exact g2.eZ og iB gN⟩
     case measure=>simp [intOf];omega
   | false=>
    rw [hi] at q1;have gD:(nth ev k).p=(p:Int):=hp;obtain ⟨j,j1,j2,j3,j4⟩:=ok.at_ cB.out aD hi gD;have qA:(0:Int)≤(j:Int):=by omega
    have dN:(j:Int)<(s.out.length:Int):=by omega
    obtain ⟨oj,gb⟩:∃ oj,nth s.out j=oj:=⟨_,rfl⟩
    have eU:=inv.sm _ (yj j2);rw [gb] at eU;obtain ⟨key,bU⟩:∃ key:Nat,oj.key=(key:Int):=⟨oj.key.toNat,by have:=eU.2.1;omega⟩
    have fX:(key:Int)<3:=by have:=eU.2.1;omega
    have fW:(0:Int)≤(key:Int):=by omega
    obtain ⟨o',bX⟩:∃ o' : aj,o'={ oj with done:=true,ret:=(k:Int),res:=yz s.ws oj.key n (nth s.aC key) fr }:=⟨_,rfl⟩
    have br:VH ev fr (k+1)=⟨s.out.set j o',s.ws,s.aF,if oj.k=2 then s.aC.set key oj.arg else s.aC⟩:=by
     have jG:(nth s.aF p).toNat=j:=by omega
     have lh:oj.key.toNat=key:=by omega
     rw [Hs.out,UE,hi];simp only [ZF,if_false];unfold ss;rw [gf,jG,hn,gb,lh,bX]
    have dI:=zg br;clear br Hs;obtain ⟨g,rfl,l9,th⟩:=WN gw.out za;obtain ⟨⟨e0,e1,e2,e3,e4,e5,e6,e7⟩,_⟩:=gw.cells j2;rw [gb] at e0 e1 e2 e3 e4 e5 e6 e7;have xo:=gw.aF.int (i:=p) fY;rw [j1] at xo;have xl:=gw.aC.int (i:=key) za;have kO:=Sl.bK gw.ws rfl;have sM:=zg eU;have sK:=zg gb;have Hj:=zg (And.intro j1 (And.intro j3 j4));have gG:=zg bU;have il:key<s.aC.length:=by omega
    clear ok inv eU gb j1 j3 j4 bU gD;have gQ:wa.heap.size<wr.heap.size:=by omega
    have nZ:wa.heap.size+1<wr.heap.size:=by omega
    go_upto_region 21 with fail
    have dk:aQ ((wr.alloc (.cells #[.int .i64 p,.bool false,.int .i64 n] 114)).alloc (.cells #[.int .i64 oj.p,.int .i64 oj.k,.int .i64 oj.key,.int .i64 oj.arg,.int .i64 oj.res,.int .i64 oj.call,.int .i64 oj.ret,.bool oj.done] 77)) wr.heap.size 114 (bq.ah ⟨p,false,n⟩):=(aQ.new wr 114 (bq.ah ⟨p,false,n⟩)).alloc _;have bT:aQ ((wr.alloc (.cells #[.int .i64 p,.bool false,.int .i64 n] 114)).alloc (.cells #[.int .i64 oj.p,.int .i64 oj.k,.int .i64 oj.key,.int .i64 oj.arg,.int .i64 oj.res,.int .i64 oj.call,.int .i64 oj.ret,.bool oj.done] 77)) (wr.heap.size+1) 77 oj.ah:=by
     have:=aQ.new (wr.alloc (.cells #[.int .i64 p,.bool false,.int .i64 n] 114)) 77 oj.ah;simp only [yX] at this;exact this
    have B1:Below wr.heap.size wr ((wr.alloc (.cells #[.int .i64 p,.bool false,.int .i64 n] 114)).alloc (.cells #[.int .i64 oj.p,.int .i64 oj.k,.int .i64 oj.key,.int .i64 oj.arg,.int .i64 oj.res,.int .i64 oj.call,.int .i64 oj.ret,.bool oj.done] 77)):=((zQ _ _).alloc (zf _) _).alloc zd _;have eV:wr.heap.size+2≤((wr.alloc (.cells #[.int .i64 p,.bool false,.int .i64 n] 114)).alloc (.cells #[.int .i64 oj.p,.int .i64 oj.k,.int .i64 oj.key,.int .i64 oj.arg,.int .i64 oj.res,.int .i64 oj.call,.int .i64 oj.ret,.bool oj.done] 77)).heap.size:=by simp
    obtain ⟨w1,cP⟩:∃ w1,w1=(wr.alloc (.cells #[.int .i64 p,.bool false,.int .i64 n] 114)).alloc (.cells #[.int .i64 oj.p,.int .i64 oj.k,.int .i64 oj.key,.int .i64 oj.arg,.int .i64 oj.res,.int .i64 oj.call,.int .i64 oj.ret,.bool oj.done] 77):=⟨_,rfl⟩
    rw [← cP] at dk bT B1 eV;rw [← cP];clear cP q0 q1 q2 e0 e1 e2 e3 e4 e5 e6 e7 xo;have f7:=bT.frozen 7;have f6:=bT.frozen 6;obtain ⟨x0,x1,x2,x3,x4,x5,x6,x7⟩:=bT.op
    go_upto_region 23 with fail
    have eP:=(bT.dF 7 (.bool true)).dF 6 (.int .i64 k);have g9:=(dk.cj (p:=⟨wr.heap.size+1,7,none⟩) zd (.bool true)).cj (p:=⟨wr.heap.size+1,6,none⟩) zd (.int .i64 k);have B2:=(B1.setCell (p:=⟨wr.heap.size+1,7,none⟩) zd (.bool true)).setCell (p:=⟨wr.heap.size+1,6,none⟩) zd (.int .i64 k);have lI:wr.heap.size+2≤((w1.setCell ⟨wr.heap.size+1,7,none⟩ (.bool true)).setCell ⟨wr.heap.size+1,6,none⟩ (.int .i64 k)).heap.size:=by simpa using eV
    obtain ⟨w2,dR⟩:∃ w2,w2=(w1.setCell ⟨wr.heap.size+1,7,none⟩ (.bool true)).setCell ⟨wr.heap.size+1,6,none⟩ (.int .i64 k):=⟨_,rfl⟩
    rw [← dR] at g9 eP B2 lI;rw [← dR];clear dR x0 x1 x2 x3 x4 x5 x6 x7 f7 f6 dk bT B1 eV;have eJ : aQ w2 (wr.heap.size+1) 77 (aj.ah { oj with done:=true,ret:=(k:Int) }):=eP;clear eP
    go_cut [15] (fun rE wx=>rE=.pointer (some ⟨wr.heap.size+1,0,none⟩)∧Below wr.heap.size wr wx∧aQ wx (wr.heap.size+1) 77 o'.ah)
    case first=>
     have vO:=zg bX;clear bX;have jm:=gw.below B2;have mR : w2.cell? ⟨wr.heap.size+1,2,none⟩=some (.int .i64 oj.key):=eJ.cell 2;rw [gG.out] at mR;have cn:w2.cell? ⟨wr.heap.size,2,none⟩=some (.int .i64 n):=g9.cell 2;have cl:=jm.aC.int (i:=key) il;have j0:=Sl.bK jm.ws rfl;have oE:s.ws.length≤1000000:=by omega
     go_region_held3 (fun w'=>w'.cell? ⟨wr.heap.size+1,2,none⟩=some (.int .i64 key)∧w'.cell? ⟨wr.heap.size,2,none⟩=some (.int .i64 n)∧w'.cell? ⟨wa.heap.size+1,key,none⟩=some (.int .i64 (nth s.aC key)))
      (first|(refine ⟨?_,?_,?_⟩ <;> assumption)|(go_keep;done)|(refine ⟨(Zu _ _ _ _ zd).trans ?_,(Zu _ _ _ _ zd).trans ?_,(Zu _ _ _ _ zd).trans ?_⟩ <;> assumption))
      ((go_at_call 81;refine (Ui _ _ _ _ _ _ _ _ (by exact j0) oE g3 za).mono ?_;rintro e w3 ⟨rfl,dv⟩;have d1:=(dv.cell (p:=⟨wr.heap.size+1,2,none⟩) (by show wr.heap.size+1<w2.heap.size;omega)).trans mR;have d2:=(dv.cell (p:=⟨wr.heap.size,2,none⟩) (by show wr.heap.size<w2.heap.size;omega)).trans cn;have d3:=(dv.cell (p:=⟨wa.heap.size+1,key,none⟩) (by show wa.heap.size+1<w2.heap.size;omega)).trans cl;have cw:=eJ.drew.below dv (by show wr.heap.size+1<w2.heap.size;omega);have f4:=cw.frozen 4;have k4:=cw.cell 4))
     go_wp2_with fail
     go_meet
     case rel=>
      refine ⟨rfl,((vL B2).trans (dv.mono (by show wr.heap.size≤w2.heap.size;omega))).setCell zd _,?_⟩;have jB:=cw.dF 4 (.int .i64 (yz s.ws oj.key n (nth s.aC key) fr));rw [vO.out];rw [gG.out] at jB ⊢;exact jB
    case rest=>
     obtain ⟨rfl,B3,cw⟩:=hcut;have gx:=gw.below B3;have cW:o'.k=oj.k:=by rw [bX]
     have qT:o'.arg=oj.arg:=by rw [bX]
     have qV:o'.key=key:=by rw [bX];exact gG.out
     clear bX;by_cases h2:oj.k=2
     ·have iy : (o'.k == 2)=true:=by rw [cW];simpa using h2
      have gT:VH ev fr (k+1)=⟨s.out.set j o',s.ws,s.aF,s.aC.set key oj.arg⟩:=by rw [dI.out,if_pos h2]
      rw [← qT] at gT;have gH:=zg gT;clear gT h2 cW qT;have gl:=gx.kb key o'.arg;have fl:=gx.aC.frozen key;have Fh:=gx.aC.int (i:=key) il;have nB:=cw.cj (p:=⟨wa.heap.size+1,key,none⟩) zy (.int .i64 o'.arg);obtain ⟨⟨e0,e1,e2,e3,e4,e5,e6,e7⟩,f0,f1,f2,f3,f4,f5,f6,f7⟩:=gl.cells j2;obtain ⟨x0,x1,x2,x3,x4,x5,x6,x7⟩:=cw.op;obtain ⟨z0,z1,z2,z3,z4,z5,z6,z7⟩:=nB.op;rw [qV] at x2
      go_wp2_with fail
      go_roundw
      case rel=>exact ⟨k+1,some ⟨g,0,none⟩,c1,A2,c2,by omega,by go_num,by rw [gH.out];simp,by rw [gH.out],by rw [gH.out];have oo:=gl.gq l9 j2 o';rw [qV] at oo;exact oo⟩
      case measure=>simp [intOf];omega
     ·have iy : (o'.k == 2)=false:=by rw [cW];simpa using h2
      have gT:VH ev fr (k+1)=⟨s.out.set j o',s.ws,s.aF,s.aC⟩:=by rw [dI.out,if_neg h2]
      have gH:=zg gT;clear gT h2 cW qT qV;obtain ⟨⟨e0,e1,e2,e3,e4,e5,e6,e7⟩,f0,f1,f2,f3,f4,f5,f6,f7⟩:=gx.cells j2;obtain ⟨x0,x1,x2,x3,x4,x5,x6,x7⟩:=cw.op
      go_wp2_with fail
      go_roundw
      case rel=>exact ⟨k+1,some ⟨g,0,none⟩,c1,A2,c2,by omega,by go_num,by rw [gH.out];simp,by rw [gH.out],by rw [gH.out];exact gx.gq l9 j2 o'⟩
      case measure=>simp [intOf];omega
  ·obtain rfl:k=ev.length:=by omega
   go_wp2_with fail
   go_ret
   have jX:=fC.size;exact ⟨A1,c1,rfl,ZT gw.out za,fC.trans (gw.bn.mono jX)⟩
end
section
open Go.RowKit
attribute [local go_sem ↓] Go.wp_at_zero Go.wp_at_succ
def pH (ev:List bq) (i:Nat) (e:bq) (s:xN):xN:=
 if e.n % 2=0 then ⟨s.out++[⟨e.p,3,1+e.n / 2 % 2,(s.ws.length:Int)+1,0,i,ev.length,false⟩],s.ws++[1+e.n / 2 % 2],s.aF.set e.p.toNat s.out.length,s.aC⟩
 else ⟨s.out++[⟨e.p,4,1+e.n / 2 % 2,0,0,i,ev.length,false⟩],s.ws,s.aF.set e.p.toNat s.out.length,s.aC⟩
def pI (i:Nat) (e:bq) (s:xN):xN:=
 if (nth s.out (nth s.aF e.p.toNat).toNat).k=4 then { s with out:=s.out.set (nth s.aF e.p.toNat).toNat { nth s.out (nth s.aF e.p.toNat).toNat with done:=true,ret:=i,res:=yH s.ws s.aC (nth s.out (nth s.aF e.p.toNat).toNat).key e.n },aC:=s.aC++[yH s.ws s.aC (nth s.out (nth s.aF e.p.toNat).toNat).key e.n] }
 else { s with out:=s.out.set (nth s.aF e.p.toNat).toNat { nth s.out (nth s.aF e.p.toNat).toNat with done:=true,ret:=i } }
def Uw (ev:List bq) (i:Nat) (s:xN):xN:=
 if (nth ev i).inv then pH ev i (nth ev i) s else pI i (nth ev i) s
def VL (ev:List bq) (k:Nat):xN:=YM (Uw ev) ⟨[],[],[0,0,0,0],[]⟩ k
def ZY (l:List Int) (ae:Int):List aj:=(VL (xe l ae) (xe l ae).length).out
structure Ew (ev:List bq) (k:Nat) (s:xN):Prop where
 ok:ZZ ev k s.out s.aF
 sm:∀ o∈s.out,gY o
 aC:s.aC.length≤k
 ws:s.ws.length≤k
 iv:∀ x∈s.ws,1≤x∧x≤2
theorem rQ {ev:List bq} (hg:ZW ev) (hl:ev.length≤40):∀ k,k≤ev.length→Ew ev k (VL ev k)
 | 0, _ => ⟨ZZ.zero ev, fun _ h => by simp [VL, YM] at h, zN _, zN _, fun _ h => by simp [VL, YM] at h⟩
 | k + 1,hk=>by
  have ih:=rQ hg hl k za;have hs:VL ev (k+1)=Uw ev k (VL ev k):=rfl;rw [hs];generalize VL ev k=s at ih;obtain ⟨g1,g2,g3⟩:=hg k za;obtain ⟨ok,sm,aC,ws,iv⟩:=ih;obtain ⟨p,hp⟩:∃ p:Nat,(nth ev k).p=p:=⟨(nth ev k).p.toNat,by omega⟩
  unfold Uw;cases hi:(nth ev k).inv with
  | true=>
   simp only [if_true];unfold pH;have gf:(nth ev k).p.toNat=p:=by omega
   rw [gf];split
   ·refine ⟨ok.add hg za hi rfl rfl rfl rfl rfl hp,fun o ho=>?_,by dsimp only;omega,by simp;omega,fun x hx=>?_⟩
    ·rcases zO.1 ho with h|h
     ·exact sm o h
     ·simp only [zP] at h;subst h;unfold gY;dsimp only;omega
    ·rcases zO.1 hx with h|h
     ·exact iv x h
     ·simp only [zP] at h;omega
   ·refine ⟨ok.add hg za hi rfl rfl rfl rfl rfl hp,fun o ho=>?_,by dsimp only;omega,by dsimp only;omega,iv⟩;rcases zO.1 ho with h|h
    ·exact sm o h
    ·simp only [zP] at h;subst h;unfold gY;dsimp only;omega
  | false=>
   simp only [ZF,if_false];unfold pI;have gf:(nth ev k).p.toNat=p:=by omega
   rw [gf];obtain ⟨j,j1,j2,j3,j4⟩:=ok.at_ hg za hi hp;have jG:(nth s.aF p).toNat=j:=by omega
   rw [jG];have hj:=sm _ (yj j2);unfold gY at hj;have wU:=CK s.ws s.aC (nth s.out j).key (nth ev k).n;split
   ·refine ⟨ok.put za hi j2 za j4 rfl rfl rfl rfl,fun o ho=>?_,by simp;omega,by dsimp only;omega,iv⟩;rcases xr ho with h|h
    ·exact sm o h
    ·subst h;unfold gY;dsimp only;exact ⟨hj.1,hj.2.1,hj.2.2.1,by omega⟩
   ·refine ⟨ok.put za hi j2 za j4 rfl rfl rfl rfl,fun o ho=>?_,by dsimp only;omega,by dsimp only;omega,iv⟩;rcases xr ho with h|h
    ·exact sm o h
    ·subst h;exact hj
theorem Eu {e:TypeId} {sz:Nat} (h:w.ownsRow base e sz v n xs) (hg:v.ownBlock=some g):g<w.heap.size:=by
 rcases h.2 with ⟨rfl,_⟩|⟨g',cap,cur,rfl,_,hh,_⟩
 ·simp [Value.ownBlock] at hg
 ·have:g'=g:=by simpa [Value.ownBlock] using hg
  subst this;exact (yy.1 hh).1
theorem tZ {fN : Nat} {e e' : TypeId} {sz rC n' : Nat} {v' v2:Value} {rH : List Value} (h:w.ownsRow base e sz v n xs) (h' : w.ownsRow fN e' rC v' n' rH) (aZ:v.ownBlock=none∨v.ownBlock≠v'.ownBlock) (hl:v2.ownBlock=v'.ownBlock∨∃ g,v2.ownBlock=some g∧w.heap.size≤g):v.ownBlock=none∨v.ownBlock≠v2.ownBlock:=by
 rcases hl with hl|⟨g,hl,ij⟩
 ·rw [hl];exact aZ
 ·right;intro he;have:=Eu h (he.trans hl);omega
theorem WU {a b:Option Nat} (h:a=none∨a≠b):b=none∨b≠a:=by
 rcases h with rfl|h
 ·cases b with
  | none => exact .inl rfl
  | some x => right; simp
 ·exact .inr fun e=>h e.symm
structure GQ (wa w:World) (out:List aj) (ws aF aC:List Int) (A1:Option Addr) (c1:Nat) (A2:Option Addr) (c2:Nat) (A9:Option Addr) (c9:Nat):Prop where
 out:w.ownsRow (wa.heap.size+1) 77 8 (.slice A1 out.length c1) out.length (flat aj.ah out)
 pu:w.ownsRow (wa.heap.size+1) 3 1 (.slice A2 ws.length c2) ws.length (flat YK ws)
 tk:w.ownsRow (wa.heap.size+1) 3 1 (.slice A9 aC.length c9) aC.length (flat YK aC)
 ne:(Value.slice A2 ws.length c2).ownBlock=none∨(Value.slice A2 ws.length c2).ownBlock≠(Value.slice A9 aC.length c9).ownBlock
 aF:aQ w wa.heap.size 3 (flat YK aF)
 bn:Below wa.heap.size wa w
 sz:wa.heap.size+1≤w.heap.size
section
variable {wa w w' : World} {out:List aj} {ws aF aC:List Int} {A1 A2 A9:Option Addr} {c1 c2 c9:Nat}
theorem GQ.below (h:GQ wa w out ws aF aC A1 c1 A2 c2 A9 c9) (hb:Below w.heap.size w w'):GQ wa w' out ws aF aC A1 c1 A2 c2 A9 c9:=
 ⟨Yo h.out hb,Yo h.pu hb,Yo h.tk hb,h.ne,h.aF.below hb (by have:=h.sz;omega),h.bn.trans (hb.mono (by have:=h.sz;omega)),by have:=h.sz;have:=hb.size;omega⟩
theorem GQ.fz (h:GQ wa w out ws aF aC A1 c1 A2 c2 A9 c9) (i:Nat) (x:Int):GQ wa (w.setCell ⟨wa.heap.size,i,none⟩ (.int .i64 x)) out ws (aF.set i x) aC A1 c1 A2 c2 A9 c9:=
 ⟨Zo h.out zd _,Zo h.pu zd _,Zo h.tk zd _,h.ne,h.aF.setInt i x,h.bn.setCell zd _,by simpa using h.sz⟩
theorem GQ.g8 (h:GQ wa w out ws aF aC A1 c1 A2 c2 A9 c9) (ho:w'.ownsRow (wa.heap.size+1) 3 1 (.slice A3 (ws.length+1) c3) (ws.length+1) (flat YK ws++[.int .i64 x])) (hb:Below (wa.heap.size+1) w w') (hg:w.grownBy w' (Value.slice A2 ws.length c2).ownBlock)
  (hl:(Value.slice A3 (ws.length+1) c3).ownBlock=(Value.slice A2 ws.length c2).ownBlock∨∃ g,(Value.slice A3 (ws.length+1) c3).ownBlock=some g∧w.heap.size≤g) :
  GQ wa w' out (ws++[x]) aF aC A1 c1 A3 c3 A9 c9:=
 ⟨h.out.kept hg (yR h.out h.pu zc),by rw [zH,yA,Zk];simpa [YK] using ho,h.tk.kept hg (WU h.ne),by rw [zH];exact WU (tZ h.tk h.pu (WU h.ne) hl),h.aF.below hb za,h.bn.trans (hb.mono za),by have:=h.sz;have:=hb.size;omega⟩
theorem GQ.nx (h:GQ wa w out ws aF aC A1 c1 A2 c2 A9 c9) (ho:w'.ownsRow (wa.heap.size+1) 3 1 (.slice A3 (aC.length+1) c3) (aC.length+1) (flat YK aC++[.int .i64 x])) (hb:Below (wa.heap.size+1) w w') (hg:w.grownBy w' (Value.slice A9 aC.length c9).ownBlock)
  (hl:(Value.slice A3 (aC.length+1) c3).ownBlock=(Value.slice A9 aC.length c9).ownBlock∨∃ g,(Value.slice A3 (aC.length+1) c3).ownBlock=some g∧w.heap.size≤g) :
  GQ wa w' out ws aF (aC++[x]) A1 c1 A2 c2 A3 c3:=
 ⟨h.out.kept hg (yR h.out h.tk zc),h.pu.kept hg h.ne,by rw [zH,yA,Zk];simpa [YK] using ho,by rw [zH];exact tZ h.pu h.tk h.ne hl,h.aF.below hb za,h.bn.trans (hb.mono za),by have:=h.sz;have:=hb.size;omega⟩
theorem GQ.eZ (h:GQ wa w out ws aF aC A1 c1 A2 c2 A9 c9) (ho:w'.ownsRow (wa.heap.size+1) 77 8 (.slice A3 (out.length+1) c3) (out.length+1) (flat aj.ah out++o.ah)) (hb:Below (wa.heap.size+1) w w') (hg:w.grownBy w' (Value.slice A1 out.length c1).ownBlock) :
  GQ wa w' (out++[o]) ws aF aC A3 c3 A2 c2 A9 c9:=
 ⟨by rw [zH,yA,Zk];simpa using ho,h.pu.kept hg (yR h.pu h.out zc),h.tk.kept hg (yR h.tk h.out zc),h.ne,h.aF.below hb za,h.bn.trans (hb.mono za),by have:=h.sz;have:=hb.size;omega⟩
theorem vF {w:World} {e:TypeId} {sz:Nat} (h:w.ownsRow base e sz v n xs) (aZ:some g≠v.ownBlock) (j:Nat) (o:aj) :
  ((((((((w.setCell ⟨g,j * 8,none⟩ (.int .i64 o.p)).setCell ⟨g,j * 8+1,none⟩ (.int .i64 o.k)).setCell ⟨g,j * 8+2,none⟩ (.int .i64 o.key)).setCell ⟨g,j * 8+3,none⟩ (.int .i64 o.arg)).setCell ⟨g,j * 8+4,none⟩ (.int .i64 o.res)).setCell ⟨g,j * 8+5,none⟩ (.int .i64 o.call)).setCell ⟨g,j * 8+6,none⟩ (.int .i64 o.ret)).setCell ⟨g,j * 8+7,none⟩ (.bool o.done)).ownsRow base e sz v n xs:=
 zn (zn (zn (zn (zn (zn (zn (zn h aZ _) aZ _) aZ _) aZ _) aZ _) aZ _) aZ _) aZ _
theorem GQ.gq (h:GQ wa w out ws aF aC (some ⟨g,0,none⟩) c1 A2 c2 A9 c9) (jD:wa.heap.size+1≤g) (hj:j<out.length) (o:aj) :
  GQ wa ((((((((w.setCell ⟨g,j * 8,none⟩ (.int .i64 o.p)).setCell ⟨g,j * 8+1,none⟩ (.int .i64 o.k)).setCell ⟨g,j * 8+2,none⟩ (.int .i64 o.key)).setCell ⟨g,j * 8+3,none⟩ (.int .i64 o.arg)).setCell ⟨g,j * 8+4,none⟩ (.int .i64 o.res)).setCell ⟨g,j * 8+5,none⟩ (.int .i64 o.call)).setCell ⟨g,j * 8+6,none⟩ (.int .i64 o.ret)).setCell ⟨g,j * 8+7,none⟩ (.bool o.done)) (out.set j o) ws aF aC (some ⟨g,0,none⟩) c1 A2 c2 A9 c9:=by
 have aZ:∀ {e:TypeId} {sz n:Nat} {v:Value} {xs:List Value},w.ownsRow (wa.heap.size+1) e sz v n xs→e≠77→some g≠v.ownBlock:=by
  intro e sz n v xs hv eL;rcases yR hv h.out eL with e|e
  ·rw [e];simp
  ·exact fun e2=>e (by rw [← e2];rfl)
 refine ⟨?_,vF h.pu (aZ h.pu zc) j o,vF h.tk (aZ h.tk zc) j o,h.ne,?_,?_,by simpa using h.sz⟩
 ·have:=uv h.out hj o;rwa [Zj]
 ·have e:wa.heap.size≠g:=by omega
  exact (((((((h.aF.cj (p:=⟨g,_,none⟩) e _).cj (p:=⟨g,_,none⟩) e _).cj (p:=⟨g,_,none⟩) e _).cj (p:=⟨g,_,none⟩) e _).cj (p:=⟨g,_,none⟩) e _).cj (p:=⟨g,_,none⟩) e _).cj (p:=⟨g,_,none⟩) e _).cj (p:=⟨g,_,none⟩) e _
 ·have e:wa.heap.size≤g:=by omega
  exact (((((((h.bn.setCell (p:=⟨g,_,none⟩) e _).setCell (p:=⟨g,_,none⟩) e _).setCell (p:=⟨g,_,none⟩) e _).setCell (p:=⟨g,_,none⟩) e _).setCell (p:=⟨g,_,none⟩) e _).setCell (p:=⟨g,_,none⟩) e _).setCell (p:=⟨g,_,none⟩) e _).setCell (p:=⟨g,_,none⟩) e _
theorem GQ.cells (h:GQ wa w out ws aF aC (some ⟨g,0,none⟩) c1 A2 c2 A9 c9) (hj:j<out.length) :
  (w.cell? ⟨g,j * 8,none⟩=some (.int .i64 (nth out j).p)∧w.cell? ⟨g,j * 8+1,none⟩=some (.int .i64 (nth out j).k)∧w.cell? ⟨g,j * 8+2,none⟩=some (.int .i64 (nth out j).key)∧w.cell? ⟨g,j * 8+3,none⟩=some (.int .i64 (nth out j).arg)∧
  w.cell? ⟨g,j * 8+4,none⟩=some (.int .i64 (nth out j).res)∧w.cell? ⟨g,j * 8+5,none⟩=some (.int .i64 (nth out j).call)∧w.cell? ⟨g,j * 8+6,none⟩=some (.int .i64 (nth out j).ret)∧w.cell? ⟨g,j * 8+7,none⟩=some (.bool (nth out j).done))∧
  (w.frozen? ⟨g,j * 8,none⟩=false∧w.frozen? ⟨g,j * 8+1,none⟩=false∧w.frozen? ⟨g,j * 8+2,none⟩=false∧w.frozen? ⟨g,j * 8+3,none⟩=false∧w.frozen? ⟨g,j * 8+4,none⟩=false∧w.frozen? ⟨g,j * 8+5,none⟩=false∧w.frozen? ⟨g,j * 8+6,none⟩=false∧w.frozen? ⟨g,j * 8+7,none⟩=false):=by
 have hs:=(Sl.bK h.out rfl).j9 hj;simp only [zM] at hs;exact ⟨hs,h.out.frozenAt _,h.out.frozenAt _,h.out.frozenAt _,h.out.frozenAt _,h.out.frozenAt _,h.out.frozenAt _,h.out.frozenAt _,h.out.frozenAt _⟩
end
end
section
open Go.RowKit
attribute [local go_sem ↓] Go.wp_at_zero Go.wp_at_succ
set_option maxRecDepth 100000 in
theorem CM (A:Option Addr) (c:Nat) (l:List Int) (ae:Int) (w:World) (h1:Sl YK w w.heap.size A l) (hl:∀ x∈l,aT x) (hlen:l.length≤9223372036854775807) (eS:aT ae) :
  Calls Tryz.prog 30 #[.slice A l.length c,.int .i64 ae] w fun e w'=>∃ A1 c1,e=.returned (.slice A1 (ZY l ae).length c1)∧
   w'.ownsRow w.heap.size 77 8 (.slice A1 (ZY l ae).length c1) (ZY l ae).length (flat aj.ah (ZY l ae))∧Below w.heap.size w w':=by
 have n6:∀ w,(Instr.makeSlice 22 (.int .i64 4) (.int .i64 4)).run Tryz.prog w=.ok (.slice (some ⟨w.heap.size,0,none⟩) 4 4) (w.alloc (.cells #[.int .i64 0,.int .i64 0,.int .i64 0,.int .i64 0] 3)):=fun _=>by kernel_rfl
 obtain ⟨ev,eL⟩:∃ ev,xe l ae=ev:=⟨_,rfl⟩
 have gj:ZY l ae=(VL ev ev.length).out:=by rw [ZY,eL]
 rw [gj];have cH:=xn l ae;have fT:=xU l ae;rw [eL] at cH fT;have cB:=zg cH;clear cH gj
 go_enter Tryz.func30,Tryz.ntmps30
 go_upto_region 4 with (go_at_call 79;refine (XU _ _ _ _ _ h1 hl hlen eS).mono ?_;rintro e wa ⟨Ae,ce,rfl,jP,fC⟩;rw [eL] at jP ⊢)
 have ov:=Sl.bK jP rfl;have kM:=fC.size
 go_wp2_with fail
 have sI:=zg h1;clear h1 hl
 go_loopw [6,7,8,10] (fun v6 v7 v8 i wr=>∃ (k:Nat) (A1:Option Addr) (c1:Nat) (A2:Option Addr) (c2:Nat) (A9:Option Addr) (c9:Nat),k≤ev.length∧i=.int .i64 k∧v6=.slice A1 (VL ev k).out.length c1∧v7=.slice A2 (VL ev k).ws.length c2∧v8=.slice A9 (VL ev k).aC.length c9∧
   GQ wa wr (VL ev k).out (VL ev k).ws (VL ev k).aF (VL ev k).aC A1 c1 A2 c2 A9 c9) (fun _ _ _ i _=>ev.length - (intOf i).toNat)
 case atStart=>
  exact ⟨0,none,0,none,0,none,0,by omega,rfl,rfl,rfl,rfl,yv _ _ _ _,yv _ _ _ _,yv _ _ _ _,.inl rfl,aQ.new wa 3 [.int .i64 0,.int .i64 0,.int .i64 0,.int .i64 0],(zQ _ _).alloc (zf _) _,by simp⟩
 case round=>
  obtain ⟨k,A1,c1,A2,c2,A9,c9,hk,rfl,rfl,rfl,rfl,gw⟩:=hrel;have az:=gw.sz;by_cases aD:k<ev.length
  ·have inv:=rQ cB.out fT k za;have Hs:=zg (show VL ev (k+1)=Uw ev k (VL ev k) from rfl);obtain ⟨s,hs⟩:∃ s,s=VL ev k:=⟨_,rfl⟩
   rw [← hs] at gw inv Hs ⊢;clear hs;obtain ⟨be,oe,rfl,jt,q0,q1,q2⟩:=(ov.below gw.bn).ev aD;obtain ⟨⟨g1,g2⟩,⟨g3,g4⟩,_⟩:=cB.out k aD;obtain ⟨p,hp⟩:∃ p:Nat,(nth ev k).p=p:=⟨(nth ev k).p.toNat,by omega⟩
   obtain ⟨n,hn⟩:∃ n,(nth ev k).n=n:=⟨_,rfl⟩
   rw [hp] at q0 g1 g2;rw [hn] at q2 g3 g4;have tH:(0:Int)≤(p:Int):=by omega
   have mm:(p:Int)<4:=by omega
   have gf:(nth ev k).p.toNat=p:=by omega
   have ok:=inv.ok;have fY:p<s.aF.length:=by have:=ok.na;omega
   have w9:=inv.aC;have oF:=inv.ws;have tG:s.out.length≤100:=by
    rcases ZM s.out.length with h0|h0
    ·omega
    ·obtain ⟨c',_,sN,_⟩:=ok.call (s.out.length - 1) za;have key:∀ j,j<s.out.length→∃ c:Nat,(nth s.out j).call=c∧c<k∧j≤c:=by
      intro j
      induction j with
      | zero => intro hj; obtain ⟨c, a, b, _⟩ := ok.call 0 hj; exact ⟨c, a, b, zN _⟩
      | succ j ih =>
       intro hj;obtain ⟨c,a,b,d⟩:=ih za;obtain ⟨c2,a2,b2,_⟩:=ok.call (j+1) hj;have:=ok.mono j (j+1) za hj;exact ⟨c2,a2,b2,by omega⟩
     obtain ⟨c,_,b,d⟩:=key (s.out.length - 1) za;omega
   cases hi:(nth ev k).inv with
   | true=>
    rw [hi] at q1;obtain ⟨key,bU⟩:∃ key:Nat,1+n / 2 % 2=(key:Int):=⟨(1+n / 2 % 2).toNat,by omega⟩
    have fW:(0:Int)≤(key:Int):=by omega
    have fX:(key:Int)<3:=by omega
    have aM:VL ev (k+1)=pH ev k (nth ev k) s:=by rw [Hs.out,Uw,hi];rfl
    unfold pH at aM;rw [hn,hp,bU] at aM;simp only [Ys] at aM;obtain ⟨o',eW,bQ,br,bB⟩:∃ o' eW bQ,VL ev (k+1)=⟨s.out++[o'],eW,s.aF.set p s.out.length,bQ⟩∧
      ((n % 2=0∧o'=⟨p,3+n % 2,key,(s.ws.length:Int)+1,0,k,ev.length,false⟩∧eW=s.ws++[(key:Int)]∧bQ=s.aC)∨(n % 2=1∧o'=⟨p,3+n % 2,key,0,0,k,ev.length,false⟩∧eW=s.ws∧bQ=s.aC)):=by
     by_cases h2:n % 2=0
     ·rw [if_pos h2] at aM;exact ⟨_,_,_,aM,.inl ⟨h2,by rw [h2];rfl,rfl,rfl⟩⟩
     ·have h3:n % 2=1:=by omega
      rw [if_neg h2] at aM;exact ⟨_,_,_,aM,.inr ⟨h3,by rw [h3];rfl,rfl,rfl⟩⟩
    have dI:=zg br;clear br aM Hs ok inv;have hE:=az
    go_upto_if 48 with fail
    have h9:=gw.below (w':=(wr.alloc (.cells #[.int .i64 p,.bool true,.int .i64 n] 114)).alloc (.cells #[.int .i64 p,.int .i64 (3+n % 2),.int .i64 key,.int .i64 0,.int .i64 0,.int .i64 k,.int .i64 ev.length,.bool false] 77)) (((zQ _ _).alloc (zf _) _).alloc zd _);have hZ:∀ v,GQ wa (((wr.alloc (.cells #[.int .i64 p,.bool true,.int .i64 n] 114)).alloc (.cells #[.int .i64 p,.int .i64 (3+n % 2),.int .i64 key,.int .i64 0,.int .i64 0,.int .i64 k,.int .i64 ev.length,.bool false] 77)).setCell ⟨wr.heap.size+1,3,none⟩ v) s.out s.ws s.aF s.aC A1 c1 A2 c2 A9 c9:=fun v=>gw.below ((((zQ _ _).alloc (zf _) _).alloc zd _).setCell zd _);have dk:aQ ((wr.alloc (.cells #[.int .i64 p,.bool true,.int .i64 n] 114)).alloc (.cells #[.int .i64 p,.int .i64 (3+n % 2),.int .i64 key,.int .i64 0,.int .i64 0,.int .i64 k,.int .i64 ev.length,.bool false] 77)) wr.heap.size 114 (bq.ah ⟨p,true,n⟩):=(aQ.new wr 114 (bq.ah ⟨p,true,n⟩)).alloc _;have bT:aQ ((wr.alloc (.cells #[.int .i64 p,.bool true,.int .i64 n] 114)).alloc (.cells #[.int .i64 p,.int .i64 (3+n % 2),.int .i64 key,.int .i64 0,.int .i64 0,.int .i64 k,.int .i64 ev.length,.bool false] 77)) (wr.heap.size+1) 77 (aj.ah ⟨p,3+n % 2,key,0,0,k,ev.length,false⟩):=by
     have:=aQ.new (wr.alloc (.cells #[.int .i64 p,.bool true,.int .i64 n] 114)) 77 (aj.ah ⟨p,3+n % 2,key,0,0,k,ev.length,false⟩);simp only [yX] at this;exact this
    have eV:wr.heap.size+2≤((wr.alloc (.cells #[.int .i64 p,.bool true,.int .i64 n] 114)).alloc (.cells #[.int .i64 p,.int .i64 (3+n % 2),.int .i64 key,.int .i64 0,.int .i64 0,.int .i64 k,.int .i64 ev.length,.bool false] 77)).heap.size:=by simp
    obtain ⟨w1,cP⟩:∃ w1,w1=(wr.alloc (.cells #[.int .i64 p,.bool true,.int .i64 n] 114)).alloc (.cells #[.int .i64 p,.int .i64 (3+n % 2),.int .i64 key,.int .i64 0,.int .i64 0,.int .i64 k,.int .i64 ev.length,.bool false] 77):=⟨_,rfl⟩
    rw [← cP] at h9 hZ dk bT eV;rw [← cP];clear cP gw q0 q1 q2;obtain ⟨E,jn⟩:∃ E,E=wr.heap.size:=⟨_,rfl⟩
    rw [← jn] at hZ dk bT eV az hE ⊢;clear jn;obtain ⟨x0,x1,x2,x3,x4,x5,x6,x7⟩:=bT.op
    go_cut [7] (fun v7 wx=>∃ A3 c3,v7=.slice A3 eW.length c3∧GQ wa wx s.out eW s.aF bQ A1 c1 A3 c3 A9 c9∧aQ wx E 114 (bq.ah ⟨p,true,n⟩)∧aQ wx (E+1) 77 o'.ah∧E+2≤wx.heap.size)
    case first=>
     rcases bB with ⟨h2,rfl,rfl,rfl⟩|⟨h2,rfl,rfl,rfl⟩
     ·have iy : ((3+n % 2) == 3)=true:=by simp;omega
      have f3:=bT.frozen 3;have cw:=bT.dF 3 (.int .i64 ((s.ws.length:Int)+1));have kY:=dk.cj (p:=⟨E+1,3,none⟩) zd (.int .i64 ((s.ws.length:Int)+1));have hU:=hZ (.int .i64 ((s.ws.length:Int)+1));have iK:(w1.setCell ⟨E+1,3,none⟩ (.int .i64 ((s.ws.length:Int)+1))).heap.size=w1.heap.size:=by simp
      have y2:(w1.setCell ⟨E+1,3,none⟩ (.int .i64 ((s.ws.length:Int)+1))).cell? ⟨E+1,2,none⟩=some (.int .i64 key):=cw.cell 2;clear hZ h9
      go_wp2_with (at_builtin;go_loud (refine ym oS hU.pu rfl (.tmp 53) (.tmp 56) rfl rfl (by rw [iK];rfl) rfl YS za za za ?_;intro A5 c5 w5 mi iC ig nX;have kB:=hU.g8 mi iC ig nX;have kA:=cw.grown ig (xu hU.pu cw zc);have nz:=kY.grown ig (xu hU.pu kY zc);have iL:=iC.size))
      go_meet
      case rel=>exact ⟨A5,c5,by simp,kB,nz,kA,by simp at iL;omega⟩
     ·have iy : ((3+n % 2) == 3)=false:=by simp;omega
      go_wp2_with fail
      go_meet
      case rel=>exact ⟨A2,c2,rfl,h9,dk,bT,by omega⟩
    case rest=>
     obtain ⟨A3,c3,rfl,gx,g9,eP,lI⟩:=hcut;obtain rfl:bQ=s.aC:=by rcases bB with ⟨_,_,_,h⟩|⟨_,_,_,h⟩ <;> exact h
     clear bB h9 dk bT x0 x1 x2 x3 x4 x5 x6 x7;obtain ⟨x0,x1,x2,x3,x4,x5,x6,x7⟩:=eP.op;have y0:wc.cell? ⟨E,0,none⟩=some (.int .i64 p):=g9.cell 0;have fo:=gx.aF.frozen p;have xo:=gx.aF.int (i:=p) fY;have g2:=gx.fz p s.out.length;have cw:=eP.cj (p:=⟨wa.heap.size,p,none⟩) zy (.int .i64 s.out.length);obtain ⟨z0,z1,z2,z3,z4,z5,z6,z7⟩:=cw.op;have eN:(wc.setCell ⟨wa.heap.size,p,none⟩ (.int .i64 s.out.length)).heap.size=wc.heap.size:=by simp
     have oA:=gx.sz
     go_wp2_with (at_builtin;go_loud (refine ym pQ g2.out rfl (.tmp 64) (.tmp 66) rfl rfl (by rw [eN];rfl) (cs:=o'.ah) rfl o'.one za za za ?_;intro A4 c4 w4 og iB gN tA))
     go_roundw
     case rel=>exact ⟨k+1,A4,c4,A3,c3,A9,c9,by omega,by go_num,by rw [dI.out];simp,by rw [dI.out],by rw [dI.out],by rw [dI.out];exact g2.eZ og iB gN⟩
     case measure=>simp [intOf];omega
   | false=>
    rw [hi] at q1;have gD:(nth ev k).p=(p:Int):=hp;obtain ⟨j,j1,j2,j3,j4⟩:=ok.at_ cB.out aD hi gD;have qA:(0:Int)≤(j:Int):=by omega
    have dN:(j:Int)<(s.out.length:Int):=by omega
    obtain ⟨oj,gb⟩:∃ oj,nth s.out j=oj:=⟨_,rfl⟩
    have eU:=inv.sm _ (yj j2);rw [gb] at eU;obtain ⟨key,bU⟩:∃ key:Nat,oj.key=(key:Int):=⟨oj.key.toNat,by have:=eU.2.1;omega⟩
    have fX:(key:Int)<3:=by have:=eU.2.1;omega
    have fW:(0:Int)≤(key:Int):=by omega
    obtain ⟨o',bQ,br,bB⟩:∃ (o' : aj) (bQ : List Int),VL ev (k+1)=⟨s.out.set j o',s.ws,s.aF,bQ⟩∧((oj.k=4∧o'={ oj with done:=true,ret:=(k:Int),res:=yH s.ws s.aC oj.key n }∧bQ=s.aC++[yH s.ws s.aC oj.key n])∨(¬ oj.k=4∧o'={ oj with done:=true,ret:=(k:Int) }∧bQ=s.aC)):=by
     have jG:(nth s.aF p).toNat=j:=by omega
     have e:VL ev (k+1)=pI k (nth ev k) s:=by rw [Hs.out,Uw,hi];simp only [ZF,if_false]
     unfold pI at e;rw [gf,jG,hn,gb] at e;by_cases h4:oj.k=4
     ·rw [if_pos h4] at e;exact ⟨_,_,e,.inl ⟨h4,rfl,rfl⟩⟩
     ·rw [if_neg h4] at e;exact ⟨_,_,e,.inr ⟨h4,rfl,rfl⟩⟩
    have dI:=zg br;clear br Hs;obtain ⟨g,rfl,l9,th⟩:=WN gw.out za;obtain ⟨⟨e0,e1,e2,e3,e4,e5,e6,e7⟩,_⟩:=gw.cells j2;rw [gb] at e0 e1 e2 e3 e4 e5 e6 e7;have xo:=gw.aF.int (i:=p) fY;rw [j1] at xo;have sM:=zg eU;have sK:=zg gb;have Hj:=zg (And.intro j1 (And.intro j3 j4));have gG:=zg bU;clear ok inv eU gb j1 j3 j4 bU gD;have gQ:wa.heap.size<wr.heap.size:=by omega
    go_upto_region 19 with fail
    have dk:aQ ((wr.alloc (.cells #[.int .i64 p,.bool false,.int .i64 n] 114)).alloc (.cells #[.int .i64 oj.p,.int .i64 oj.k,.int .i64 oj.key,.int .i64 oj.arg,.int .i64 oj.res,.int .i64 oj.call,.int .i64 oj.ret,.bool oj.done] 77)) wr.heap.size 114 (bq.ah ⟨p,false,n⟩):=(aQ.new wr 114 (bq.ah ⟨p,false,n⟩)).alloc _;have bT:aQ ((wr.alloc (.cells #[.int .i64 p,.bool false,.int .i64 n] 114)).alloc (.cells #[.int .i64 oj.p,.int .i64 oj.k,.int .i64 oj.key,.int .i64 oj.arg,.int .i64 oj.res,.int .i64 oj.call,.int .i64 oj.ret,.bool oj.done] 77)) (wr.heap.size+1) 77 oj.ah:=by
     have:=aQ.new (wr.alloc (.cells #[.int .i64 p,.bool false,.int .i64 n] 114)) 77 oj.ah;simp only [yX] at this;exact this
    have B1:Below wr.heap.size wr ((wr.alloc (.cells #[.int .i64 p,.bool false,.int .i64 n] 114)).alloc (.cells #[.int .i64 oj.p,.int .i64 oj.k,.int .i64 oj.key,.int .i64 oj.arg,.int .i64 oj.res,.int .i64 oj.call,.int .i64 oj.ret,.bool oj.done] 77)):=((zQ _ _).alloc (zf _) _).alloc zd _;have eV:wr.heap.size+2≤((wr.alloc (.cells #[.int .i64 p,.bool false,.int .i64 n] 114)).alloc (.cells #[.int .i64 oj.p,.int .i64 oj.k,.int .i64 oj.key,.int .i64 oj.arg,.int .i64 oj.res,.int .i64 oj.call,.int .i64 oj.ret,.bool oj.done] 77)).heap.size:=by simp
    obtain ⟨w1,cP⟩:∃ w1,w1=(wr.alloc (.cells #[.int .i64 p,.bool false,.int .i64 n] 114)).alloc (.cells #[.int .i64 oj.p,.int .i64 oj.k,.int .i64 oj.key,.int .i64 oj.arg,.int .i64 oj.res,.int .i64 oj.call,.int .i64 oj.ret,.bool oj.done] 77):=⟨_,rfl⟩
    rw [← cP] at dk bT B1 eV;rw [← cP];clear cP q0 q1 q2 e0 e1 e2 e3 e4 e5 e6 e7 xo;have f7:=bT.frozen 7;have f6:=bT.frozen 6;obtain ⟨x0,x1,x2,x3,x4,x5,x6,x7⟩:=bT.op
    go_upto_if 82 with fail
    have eP:=(bT.dF 7 (.bool true)).dF 6 (.int .i64 k);have g9:=(dk.cj (p:=⟨wr.heap.size+1,7,none⟩) zd (.bool true)).cj (p:=⟨wr.heap.size+1,6,none⟩) zd (.int .i64 k);have B2:=(B1.setCell (p:=⟨wr.heap.size+1,7,none⟩) zd (.bool true)).setCell (p:=⟨wr.heap.size+1,6,none⟩) zd (.int .i64 k);have lI:wr.heap.size+2≤((w1.setCell ⟨wr.heap.size+1,7,none⟩ (.bool true)).setCell ⟨wr.heap.size+1,6,none⟩ (.int .i64 k)).heap.size:=by simpa using eV
    obtain ⟨w2,dR⟩:∃ w2,w2=(w1.setCell ⟨wr.heap.size+1,7,none⟩ (.bool true)).setCell ⟨wr.heap.size+1,6,none⟩ (.int .i64 k):=⟨_,rfl⟩
    rw [← dR] at g9 eP B2 lI;rw [← dR];clear dR x0 x1 x2 x3 x4 x5 x6 x7 f7 f6 dk bT B1 eV;have eJ : aQ w2 (wr.heap.size+1) 77 (aj.ah { oj with done:=true,ret:=(k:Int) }):=eP;clear eP
    go_cut [8] (fun v8 wx=>∃ A5 c5,v8=.slice A5 bQ.length c5∧GQ wa wx s.out s.ws s.aF bQ (some ⟨g,0,none⟩) c1 A2 c2 A5 c5∧aQ wx (wr.heap.size+1) 77 o'.ah)
    case first=>
     rcases bB with ⟨h4,rfl,rfl⟩|⟨h4,rfl,rfl⟩
     ·have v9 : (oj.k == 4)=true:=by simpa using h4
      clear h4;have jm:=gw.below B2;have mR : w2.cell? ⟨wr.heap.size+1,2,none⟩=some (.int .i64 oj.key):=eJ.cell 2;have cn:w2.cell? ⟨wr.heap.size,2,none⟩=some (.int .i64 n):=g9.cell 2;have j0:=Sl.bK jm.pu rfl;have rf:=Sl.bK jm.tk rfl;have oE:s.ws.length≤1000000:=by omega
      have oB:s.aC.length≤1000000:=by omega
      have vW : 0≤n:=g3;have vX : n≤1000000:=by omega
      clear jm
      go_upto_region 23 with (go_at_call 82;refine (CL _ _ _ _ _ _ _ _ _ j0 rf oE oB vW vX).mono ?_;rintro e w3 ⟨rfl,dv⟩;have cw:=eJ.below dv za;have f4:=cw.frozen 4;have k4:=cw.cell 4)
      have B4:=(B2.trans (dv.mono za)).setCell (p:=⟨wr.heap.size+1,4,none⟩) zd (.int .i64 (yH s.ws s.aC oj.key n));have pZ:=gw.below B4;have nB:=cw.dF 4 (.int .i64 (yH s.ws s.aC oj.key n));have E7 : (w3.setCell ⟨wr.heap.size+1,4,none⟩ (.int .i64 (yH s.ws s.aC oj.key n))).cell? ⟨wr.heap.size+1,4,none⟩=some (.int .i64 (yH s.ws s.aC oj.key n)):=nB.cell 4;have iK:=dv.size;have oz:(w3.setCell ⟨wr.heap.size+1,4,none⟩ (.int .i64 (yH s.ws s.aC oj.key n))).heap.size=w3.heap.size:=by simp
      go_wp2_with (at_builtin;go_loud (refine ym oS pZ.tk rfl (.tmp 91) (.tmp 94) rfl rfl (by rw [oz];rfl) rfl YS za za za ?_;intro A5 c5 w5 mi iC ig nX;have kB:=pZ.nx mi iC ig nX;have kA:=nB.grown ig (xu pZ.tk nB zc)))
      go_meet
      case rel=>exact ⟨A5,c5,by simp,kB,kA⟩
     ·have v9 : (oj.k == 4)=false:=by simpa using h4
      have jm:=gw.below B2
      go_wp2_with fail
      go_meet
      case rel=>exact ⟨A9,c9,rfl,jm,eJ⟩
    case rest=>
     obtain ⟨A5,c5,rfl,gx,cw⟩:=hcut;clear bB;obtain ⟨⟨e0,e1,e2,e3,e4,e5,e6,e7⟩,f0,f1,f2,f3,f4,f5,f6,f7⟩:=gx.cells j2;obtain ⟨x0,x1,x2,x3,x4,x5,x6,x7⟩:=cw.op
     go_wp2_with fail
     go_roundw
     case rel=>exact ⟨k+1,some ⟨g,0,none⟩,c1,A2,c2,A5,c5,by omega,by go_num,by rw [dI.out];simp,by rw [dI.out],by rw [dI.out],by rw [dI.out];exact gx.gq l9 j2 o'⟩
     case measure=>simp [intOf];omega
  ·obtain rfl:k=ev.length:=by omega
   go_wp2_with fail
   go_ret
   have jX:=fC.size;exact ⟨A1,c1,rfl,ZT gw.out za,fC.trans (gw.bn.mono jX)⟩
end
section
open Go.RowKit
attribute [local go_sem ↓] Go.wp_at_zero Go.wp_at_succ
def mixed (l:List Int) (which:Int):List aj:=
 if yp which 3=0 then yi l 12 else if yp which 3=1 then Wp l 12 else ZY l 12
/-! ### what the generated operations are -/
theorem WK {ev:List bq} {out:List aj} {aF:List Int} (hg:ZW ev) (hl:ev.length≤40) (h:ZZ ev ev.length out aF) (eU:∀ o∈out,gY o):xm out=0∧(∀ o∈out,gy o):=by
 have hle:∀ k,XF ev k≤k:=by
  intro k
  induction k with
  | zero => exact zf _
  | succ k ih => unfold XF; split <;> omega
 have hlen:out.length≤40:=by have:=h.len;have:=hle ev.length;omega
 refine ⟨h.kH hg (zf _) za fun o ho=>(eU o ho).1,fun o ho=>?_⟩;obtain ⟨j,hj,rfl⟩:=yr ho;rw [← yq hj];have hs:=eU _ (yj hj);unfold gY at hs;obtain ⟨c,c1,c2,_,c4⟩:=h.call j hj;have hp:=(hg c za).1;have hr:0≤(nth out j).ret∧(nth out j).ret≤40:=by
  cases hd:(nth out j).done with
  | true => obtain ⟨r, a1, a2, _⟩ := h.ret j hj hd; omega
  | false => have := (h.stay j hj hd).1; omega
 unfold gy aT;omega
/-! ### Bent -/
def xc (d v:Int) (o:aj):aj:=
 if d=0 then { o with p:=v } else if d=1 then { o with k:=v } else if d=2 then { o with key:=v } else if d=3 then { o with arg:=v } else if d=4 then { o with res:=v } else if d=5 then { o with call:=v } else if d=6 then { o with ret:=v } else { o with done:=!o.done }
def Zw (l:List aj) (at_ how v:Int):List aj:=
 l.set (yp at_ l.length).toNat (xc (yp how 8) v (nth l (yp at_ l.length).toNat))
theorem Ug (l:List aj) (at_ how v:Int):(Zw l at_ how v).length=l.length:=by simp [Zw]
theorem Ct (h:∀ o∈l,gy o) (at_ how:Int) {v:Int} (hv:aT v):∀ o∈Zw l at_ how v,gy o:=by
 intro o ho;rcases xr ho with h1|h1
 ·exact h o h1
 ·rcases yd (yp at_ l.length).toNat l.length with aD|ij
  ·have bV:=h _ (yj aD);subst h1;unfold gy at bV ⊢;obtain ⟨a1,a2,a3,a4,a5,a6,a7⟩:=bV;unfold xc
   repeat' split
   all_goals exact ⟨by assumption,by assumption,by assumption,by assumption,by assumption,by assumption,by assumption⟩
  ·rw [Zw,List.set_eq_of_length_le ij] at ho;exact h o ho
end
section
open Go.RowKit
attribute [local go_sem ↓] Go.wp_at_zero Go.wp_at_succ
theorem xK (h:w.ownsRow base t 8 v n (flat aj.ah l)) (hv:v.ownBlock=some g) {m:Nat} (hj:j<l.length) (hm:m<8) (u:Value) (o:aj) (ho:o.ah=(nth l j).ah.set m u) :
  (w.setCell ⟨g,j * 8+m,none⟩ u).ownsRow base t 8 v n (flat aj.ah (l.set j o)):=by
 rcases h.2 with ⟨rfl,_⟩|⟨g',cap,cur,rfl,_⟩
 ·simp [Value.ownBlock] at hv
 ·obtain rfl:g'=g:=by simpa [Value.ownBlock] using hv
  have s:=(h.stored (j * 8+m) u).1;rw [rK aj.wide l j m u o hj hm (by rw [← yq hj];exact ho)] at s;exact s
set_option maxRecDepth 100000 in
theorem BQ (A:Option Addr) (c:Nat) (l:List aj) (at_ how v:Int) (w:World) (h1:Sl aj.ah w w.heap.size A l) (hlen:l.length≤1000000) (ha:aT at_) (hh:aT how) :
  Calls Tryz.prog 15 #[.slice A l.length c,.int .i64 at_,.int .i64 how,.int .i64 v] w fun e w'=>∃ A1 c1,e=.returned (.slice A1 (Zw l at_ how v).length c1)∧
   w'.ownsRow w.heap.size 77 8 (.slice A1 (Zw l at_ how v).length c1) (Zw l at_ how v).length (flat aj.ah (Zw l at_ how v))∧Below w.heap.size w w':=by
 rw [Ug];have lq:(w.alloc (.cells #[] 77)).ownsRow w.heap.size 77 8 (.slice (some ⟨w.heap.size,0,none⟩) 0 0) 0 []:=World.ownsRow_made w #[] 0 (zf _) (by unfold maxLen;omega) rfl;have fC:=ZX (w:=w) (.cells #[] 77);have tL:=h1.below fC;have az:w.heap.size≤(w.alloc (.cells #[] 77)).heap.size:=fC.size
 go_enter Tryz.func15,Tryz.ntmps15
 go_upto_region 2 with (at_builtin;go_loud (refine Ci pQ lq aj.wide aj.one tL rfl (.tmp 11) (.tmp 12) rfl rfl rfl rfl za za az ?_;intro A3 c3 w2 ho hb hg))
 have bV:w2.ownsRow w.heap.size 77 8 (.slice A3 l.length c3) l.length (flat aj.ah l):=by simpa using ho
 have c7:Below w.heap.size w w2:=fC.trans hb;clear ho hb hg lq fC tL h1;by_cases mX:l=[]
 ·subst mX
  go_wp2_with fail
  go_ret
  exact ⟨A3,c3,rfl,bV,c7⟩
 ·have bm:0<l.length:=List.length_pos_iff.2 mX;have tF:((l.length:Int) == 0)=false:=beq_eq_false_iff_ne.2 za;obtain ⟨j,hj⟩:∃ j:Nat,yp at_ l.length=j:=⟨(yp at_ l.length).toNat,by have:=xX (n:=at_) (ae:=(l.length:Int)) za;omega⟩
  have dN:j<l.length:=by have:=Zr (n:=at_) (ae:=(l.length:Int)) za;omega
  have qA:(0:Int)≤(j:Int):=by omega
  have ER:(j:Int)<(l.length:Int):=by omega
  obtain ⟨d,hd⟩:∃ d,yp how 8=d:=⟨_,rfl⟩
  have EN:0≤d:=hd▸xX za;have iE:d<8:=hd▸Zr za;have lB:Zw l at_ how v=l.set j (xc d v (nth l j)):=by rw [Zw,hj,hd];rfl
  have dU:=zg lB;clear lB;obtain ⟨g,rfl,s9,l9⟩:=WN bV bm;obtain ⟨e0,e1,e2,e3,e4,e5,e6,e7⟩:=(Sl.bK bV rfl).j9 dN;simp only [zM] at e0 e1 e2 e3 e4 e5 e6 e7;have f0:w2.frozen? ⟨g,j * 8,none⟩=false:=bV.frozenAt _;have f1:=bV.frozenAt (j * 8+1);have f2:=bV.frozenAt (j * 8+2);have f3:=bV.frozenAt (j * 8+3);have f4:=bV.frozenAt (j * 8+4);have f5:=bV.frozenAt (j * 8+5);have f6:=bV.frozenAt (j * 8+6);have f7:=bV.frozenAt (j * 8+7);have q1:(1:Int)≤(l.length:Int):=by omega
  have q2:(l.length:Int)≤4611686018427387904:=by omega
  have q3:(1:Int)≤8:=by omega
  have q4:(8:Int)≤4611686018427387904:=by omega
  go_upto_region 5 with (go_at_call 6;refine (yB _ _ _ ha q1 q2).mono ?_;rintro e w' ⟨rfl,rfl⟩;rw [hj])
  go_upto_region 7 with (go_at_call 6;refine (yB _ _ _ hh q3 q4).mono ?_;rintro e w' ⟨rfl,rfl⟩;rw [hd])
  by_cases Av:d=0
  ·subst Av
   go_wp2_with fail
   go_ret
   refine ⟨some ⟨g,0,none⟩,c3,rfl,?_,c7.setCell zy _⟩;rw [dU.out];have hq:=xK bV rfl dN (m:=0) za (.int .i64 v) { nth l j with p:=v } rfl;rw [xQ] at hq;rw [show xc 0 v (nth l j)={ nth l j with p:=v } from by simp [xc]];exact hq
  by_cases Aw:d=1
  ·subst Aw
   go_wp2_with fail
   go_ret
   refine ⟨some ⟨g,0,none⟩,c3,rfl,?_,c7.setCell zy _⟩;rw [dU.out];have hq:=xK bV rfl dN (m:=1) za (.int .i64 v) { nth l j with k:=v } rfl;rw [show xc 1 v (nth l j)={ nth l j with k:=v } from by simp [xc]];exact hq
  by_cases Ax:d=2
  ·subst Ax
   go_wp2_with fail
   go_ret
   refine ⟨some ⟨g,0,none⟩,c3,rfl,?_,c7.setCell zy _⟩;rw [dU.out];have hq:=xK bV rfl dN (m:=2) za (.int .i64 v) { nth l j with key:=v } rfl;rw [show xc 2 v (nth l j)={ nth l j with key:=v } from by simp [xc]];exact hq
  by_cases Ay:d=3
  ·subst Ay
   go_wp2_with fail
   go_ret
   refine ⟨some ⟨g,0,none⟩,c3,rfl,?_,c7.setCell zy _⟩;rw [dU.out];have hq:=xK bV rfl dN (m:=3) za (.int .i64 v) { nth l j with arg:=v } rfl;rw [show xc 3 v (nth l j)={ nth l j with arg:=v } from by simp [xc]];exact hq
  by_cases Az:d=4
  ·subst Az
   go_wp2_with fail
   go_ret
   refine ⟨some ⟨g,0,none⟩,c3,rfl,?_,c7.setCell zy _⟩;rw [dU.out];have hq:=xK bV rfl dN (m:=4) za (.int .i64 v) { nth l j with res:=v } rfl;rw [show xc 4 v (nth l j)={ nth l j with res:=v } from by simp [xc]];exact hq
  by_cases AA:d=5
  ·subst AA
   go_wp2_with fail
   go_ret
   refine ⟨some ⟨g,0,none⟩,c3,rfl,?_,c7.setCell zy _⟩;rw [dU.out];have hq:=xK bV rfl dN (m:=5) za (.int .i64 v) { nth l j with call:=v } rfl;rw [show xc 5 v (nth l j)={ nth l j with call:=v } from by simp [xc]];exact hq
  by_cases AB:d=6
  ·subst AB
   go_wp2_with fail
   go_ret
   refine ⟨some ⟨g,0,none⟩,c3,rfl,?_,c7.setCell zy _⟩;rw [dU.out];have hq:=xK bV rfl dN (m:=6) za (.int .i64 v) { nth l j with ret:=v } rfl;rw [show xc 6 v (nth l j)={ nth l j with ret:=v } from by simp [xc]];exact hq
  obtain rfl:d=7:=by omega
  go_wp2_with fail
  go_ret
  refine ⟨some ⟨g,0,none⟩,c3,rfl,?_,c7.setCell zy _⟩;rw [dU.out];have hq:=xK bV rfl dN (m:=7) za (.bool (!(nth l j).done)) { nth l j with done:=!(nth l j).done } rfl;rw [show xc 7 v (nth l j)={ nth l j with done:=!(nth l j).done } from by simp [xc]];exact hq
end
section
open Go.RowKit
theorem Bk (l:List aj) (hlen:l.length≤1000000000):zX Tryz.prog 32 [.list 8 (l.map aj.fv)] .fr (.int .i64 (Vx l)) where
 go:=by kernel_rfl
 hand:=rfl
 calls w I vs hI hv:=by
  obtain ⟨_,rfl,e1⟩:=hv.inv1;obtain ⟨A,c,rfl,_,hs⟩:=mG.of e1 hI;refine (CN A c l w hs hlen).mono ?_;rintro e w' ⟨rfl,hb⟩;exact ⟨_,rfl,hb,.int _ _⟩
theorem BL (k:Int) (h1:1≤k) (h2:k≤8):zX Tryz.prog 34 [.int .i64 k] .sh (kx k):=by
 obtain rfl|rfl|rfl|rfl|rfl|rfl|rfl|rfl:k=1∨k=2∨k=3∨k=4∨k=5∨k=6∨k=7∨k=8:=by omega
 ·change zX Tryz.prog 34 [.int .i64 1] .sh .nil;refine zt 16 Tryz.func34 Tryz.ntmps34 rfl ?_;change FW _ _ _ ⟨[(0,.int .i64 1)],[]⟩;refine zb ?_;exact FW.ret ⟨.inl rfl,.sh (.cons (.tmp 2 rfl rfl) .nil) rfl rfl⟩
 ·change zX Tryz.prog 34 [.int .i64 2] .sh (.list 1 [[.int .i64 0],[.int .i64 1]]);refine zt 16 Tryz.func34 Tryz.ntmps34 rfl ?_;change FW _ _ _ ⟨[(0,.int .i64 2)],[]⟩;refine zb ?_;refine zD (es:=[[.int .i64 0],[.int .i64 1]]) rfl rfl rfl (by refine yb.int rfl rfl ?_;refine yb.int rfl rfl ?_;exact yb.nil) rfl rfl rfl rfl rfl ?_;refine zb ?_;exact FW.ret ⟨.inl rfl,.sh (.cons (.tmp 2 rfl rfl) .nil) rfl rfl⟩
 ·change zX Tryz.prog 34 [.int .i64 3] .sh (.list 1 [[.int .i64 0],[.int .i64 2]]);refine zt 16 Tryz.func34 Tryz.ntmps34 rfl ?_;change FW _ _ _ ⟨[(0,.int .i64 3)],[]⟩;refine zb ?_;refine zD (es:=[[.int .i64 0],[.int .i64 2]]) rfl rfl rfl (by refine yb.int rfl rfl ?_;refine yb.int rfl rfl ?_;exact yb.nil) rfl rfl rfl rfl rfl ?_;refine zb ?_;exact FW.ret ⟨.inl rfl,.sh (.cons (.tmp 2 rfl rfl) .nil) rfl rfl⟩
 ·change zX Tryz.prog 34 [.int .i64 4] .sh (.list 1 [[.int .i64 0],[.int .i64 2]]);refine zt 16 Tryz.func34 Tryz.ntmps34 rfl ?_;change FW _ _ _ ⟨[(0,.int .i64 4)],[]⟩;refine zb ?_;refine zD (es:=[[.int .i64 0],[.int .i64 2]]) rfl rfl rfl (by refine yb.int rfl rfl ?_;refine yb.int rfl rfl ?_;exact yb.nil) rfl rfl rfl rfl rfl ?_;refine zb ?_;exact FW.ret ⟨.inl rfl,.sh (.cons (.tmp 2 rfl rfl) .nil) rfl rfl⟩
 ·change zX Tryz.prog 34 [.int .i64 5] .sh (.list 1 [[.int .i64 0],[.int .i64 1]]);refine zt 16 Tryz.func34 Tryz.ntmps34 rfl ?_;change FW _ _ _ ⟨[(0,.int .i64 5)],[]⟩;refine zb ?_;refine zD (es:=[[.int .i64 0],[.int .i64 1]]) rfl rfl rfl (by refine yb.int rfl rfl ?_;refine yb.int rfl rfl ?_;exact yb.nil) rfl rfl rfl rfl rfl ?_;refine zb ?_;exact FW.ret ⟨.inl rfl,.sh (.cons (.tmp 2 rfl rfl) .nil) rfl rfl⟩
 ·change zX Tryz.prog 34 [.int .i64 6] .sh (.list 1 [[.int .i64 0],[.int .i64 1]]);refine zt 16 Tryz.func34 Tryz.ntmps34 rfl ?_;change FW _ _ _ ⟨[(0,.int .i64 6)],[]⟩;refine zb ?_;refine zD (es:=[[.int .i64 0],[.int .i64 1]]) rfl rfl rfl (by refine yb.int rfl rfl ?_;refine yb.int rfl rfl ?_;exact yb.nil) rfl rfl rfl rfl rfl ?_;refine zb ?_;exact FW.ret ⟨.inl rfl,.sh (.cons (.tmp 2 rfl rfl) .nil) rfl rfl⟩
 ·change zX Tryz.prog 34 [.int .i64 7] .sh (.list 1 [[.int .i64 3],[.int .i64 4]]);refine zt 16 Tryz.func34 Tryz.ntmps34 rfl ?_;change FW _ _ _ ⟨[(0,.int .i64 7)],[]⟩;refine zb ?_;refine zD (es:=[[.int .i64 3],[.int .i64 4]]) rfl rfl rfl (by refine yb.int rfl rfl ?_;refine yb.int rfl rfl ?_;exact yb.nil) rfl rfl rfl rfl rfl ?_;refine zb ?_;exact FW.ret ⟨.inl rfl,.sh (.cons (.tmp 2 rfl rfl) .nil) rfl rfl⟩
 ·change zX Tryz.prog 34 [.int .i64 8] .sh .nil;refine zt 16 Tryz.func34 Tryz.ntmps34 rfl ?_;change FW _ _ _ ⟨[(0,.int .i64 8)],[]⟩;refine zb ?_;exact FW.ret ⟨.inl rfl,.sh (.cons (.tmp 2 rfl rfl) .nil) rfl rfl⟩
theorem Bg (k:Int) (h1:2≤k) (h2:k≤7):zX Tryz.prog 34 [.int .i64 k] .sh (.list 1 ((WZ k).map Zc)):=by
 have h3:kx k=.list 1 ((WZ k).map Zc):=by
  unfold kx;rw [if_neg];obtain rfl|rfl|rfl|rfl|rfl|rfl:k=2∨k=3∨k=4∨k=5∨k=6∨k=7:=by omega
  all_goals decide
 rw [← h3];exact BL k za za
theorem Wg (o:aj):zX Tryz.prog 35 [.agg o.fv] .fr (.bool (eH o)):=by
 obtain ⟨p,k,ke,ar,re,ca,rt,dn⟩:=o;refine zt 16 Tryz.func35 Tryz.ntmps35 rfl ?_;change FW _ _ _ ⟨[(0,.agg (aj.fv ⟨p,k,ke,ar,re,ca,rt,dn⟩))],[]⟩;unfold eH aj.fv;dsimp only;refine zb ?_;refine yl (fun h1=>?_) (fun h1=>?_)
 ·rw [h1];refine zb ?_;exact FW.ret ⟨.inl rfl,zm rfl rfl rfl rfl⟩
 ·rw [h1];refine zb ?_;refine yl (fun h2=>?_) (fun h2=>?_)
  ·rw [h2];refine zb ?_;exact FW.ret ⟨.inl rfl,zm rfl rfl rfl rfl⟩
  ·rw [h2];refine zb ?_;exact FW.ret ⟨.inl rfl,zm rfl rfl rfl rfl⟩
def XS (l:List aj) (i j:Nat):Bool:=decide ((nth l i).arg=0) || (decide ((j:Int)≠i) && (eH (nth l j) && (decide ((nth l j).key=(nth l i).key) && decide ((nth l j).arg=(nth l i).arg))))
theorem CJ (hj:j<i) (hi:i≤l.length) (hw:eH (nth l j)=true):((nth l j).key,(nth l j).arg)∈Zl l i:=by
 unfold Zl;refine zL.2 ⟨nth l j,UQ.2 ⟨?_,hw⟩,rfl⟩;rw [yq za];have h:j<(l.take i).length:=by rw [yf];omega
 have e:(l.take i)[j]=l[j]'(by omega):=List.getElem_take;rw [← e];exact yw h
theorem Dj (hi:i<l.length) (hj:j<l.length) (hw:eH (nth l i)=true) (h:XS l i j=true):VJ K l=false:=by
 have key:∀ a b:Nat,a<b→b<l.length→eH (nth l a)=true→eH (nth l b)=true→(nth l a).key=(nth l b).key→(nth l a).arg=(nth l b).arg→VJ K l=false:=fun a b lU hb wa wb e1 e2=>by
  refine UV hb ?_;unfold iX;rw [wb,← e1,← e2,decide_eq_true (CJ lU za wa)];simp
 unfold XS at h;rw [ZG] at h;rcases h with h|h
 ·refine UV hi ?_;unfold iX;rw [hw,h];simp
 ·simp only [zA,decide_eq_true_eq] at h;obtain ⟨h1,h2,h3,h4⟩:=h;rcases yd j i with h5|h5
  ·exact key j i h5 hi h2 hw h3 h4
  ·exact key i j za hj hw h2 h3.symm h4.symm
theorem C8 (hi:i<l.length) (h:ja K (nth l i).k=false):VJ K l=false:=by
 refine UV hi ?_;unfold iX;rw [show (K.any fun x=>decide ((nth l i).k=x))=false from ?_]
 ·rfl
 ·unfold ja at h;have h:=of_decide_eq_false h;rw [List.any_eq_false];intro x hx e;exact h (by rw [of_decide_eq_true e];exact hx)
theorem DT (hc:xm l=0) (h:∀ i,i<l.length→ja K (nth l i).k=true∧(eH (nth l i)=true→∀ j,j<l.length→XS l i j=false)):VJ K l=true:=by
 unfold VJ;rw [decide_eq_true hc,Bool.true_and,zI];intro i hi;have hi:i<l.length:=by simpa using hi
 obtain ⟨h1,h2⟩:=h i hi;unfold iX;rw [show (K.any fun x=>decide ((nth l i).k=x))=true from yY.2 ⟨_,of_decide_eq_true h1,decide_eq_true rfl⟩,Bool.true_and];cases hw:eH (nth l i) with
 | false => rfl
 | true=>
  have h2:=h2 hw;have ha:=h2 i hi;unfold XS at ha;rw [Bool.or_eq_false_iff] at ha;rw [ha.1];have hp:((nth l i).key,(nth l i).arg)∉Zl l i:=fun hm=>by
   unfold Zl at hm;obtain ⟨o,ho,e⟩:=zL.1 hm;obtain ⟨fZ,bV⟩:=UQ.1 ho;obtain ⟨j,hj,rfl⟩:=yr fZ;rw [yf] at hj;have dN:j<l.length:=by omega
   have ej:(l.take i)[j]'(by rw [yf];exact hj)=nth l j:=by rw [yq dN];exact List.getElem_take
   rw [ej] at e bV;injection e with e1 e2
   have:=h2 j dN;unfold XS at this;rw [Bool.or_eq_false_iff] at this;have h3:=this.2;rw [bV,e1,e2] at h3;simp at h3;omega
  rw [decide_eq_false hp];rfl
theorem Ud (k:Int) (h1:2≤k) (h2:k≤7) (l:List aj) (hl:l.length≤1000000):zX Tryz.prog 17 [.int .i64 k,.list 8 (l.map aj.fv)] .fr (.bool (VJ (WZ k) l)):=by
 have lh:=Bg k h1 h2;have hlen:(WZ k).length≤1000000:=by
  unfold WZ;split
  ·decide
  ·split
   ·decide
   ·split <;> decide
 generalize WZ k=K at lh hlen;have l5:=Bk l za;rw [← BV] at l5;have jf:=fun i (hi:i<l.length)=>C8 (K:=K) hi;have fM:=fun i j (hi:i<l.length) (hj:j<l.length)=>Dj (K:=K) hi hj;have kz:xm l≠0→VJ K l=false:=fun h=>by unfold VJ;rw [decide_eq_false h];rfl
 have gK:=DT (K:=K) (l:=l);generalize VJ K l=E at kz jf fM gK ⊢;generalize xm l=C at l5 kz gK;refine zt 88 Tryz.func17 Tryz.ntmps17 rfl ?_;change FW _ _ _ ⟨[(0,.int .i64 k),(1,.list 8 (l.map aj.fv))],[]⟩;refine zb ?_;refine zB l5 (by repeat (first|exact zi.nil|refine zi.cons zj ?_)) rfl rfl ?_;refine zb ?_;refine FW.cond rfl (fun h=>?_) (fun h=>?_)
 ·obtain rfl:=kz (by simpa using h);refine zb ?_;exact FW.ret ⟨.inl rfl,zm rfl rfl rfl rfl⟩
 have h0:C=0:=by simpa using h
 have gK:=gK h0;clear kz h;refine zb ?_;refine FW.loop (fun i:Nat=>⟨[(0,.int .i64 k),(1,.list 8 (l.map aj.fv)),(6,.int .i64 i)],[]⟩) (fun i=>i≤l.length∧∀ a,a<i→ja K (nth l a).k=true∧(eH (nth l a)=true→∀ j,j<l.length→XS l a j=false)) (fun i=>l.length - i) 0 ⟨zN _,fun j hj=>absurd hj za⟩ ?_ ?_
 ·exact (aL.cv [] yQ zu)
 rintro i ⟨hi,cW⟩;refine zb ?_;refine FW.cond rfl (fun h=>?_) (fun h=>?_)
 ·have aD:i<l.length:=by simpa using h
  clear h;have jf:=jf i aD;have fM:=fun j=>fM i j aD;have hh:=Dy K (nth l i).k za;have hw:=Wg (nth l i);have step:ja K (nth l i).k=true→(eH (nth l i)=true→∀ j,j<l.length→XS l i j=false)→∀ a,a<i+1→ja K (nth l a).k=true∧(eH (nth l a)=true→∀ j,j<l.length→XS l a j=false):=fun s1 s2 a ha=>by
   rcases yd a i with h3|h3
   ·exact cW a h3
   ·have:a=i:=by omega
    subst this;exact ⟨s1,s2⟩
  generalize ja K (nth l i).k=KB at hh jf step;generalize EL:eH (nth l i)=WB at hw fM step;refine xb ?_;refine zF lh (by repeat (first|exact zi.nil|refine zi.cons zj ?_)) rfl rfl ?_;refine zq ?_;refine YY hh (by repeat (first|exact zi.nil|refine zi.cons zj ?_)) rfl rfl ?_;refine zq ?_;refine ⟨by kernel_rfl,?_⟩;skip;refine FW.cond rfl (fun h=>?_) (fun h=>?_)
  ·obtain rfl:KB=false:=by simpa using h
   obtain rfl:=jf rfl;refine zb ?_;exact FW.ret ⟨.inl rfl,zm rfl rfl rfl rfl⟩
  obtain rfl:KB=true:=by simpa using h
  refine zb ?_;refine zB hw (by repeat (first|exact zi.nil|refine zi.cons zj ?_)) rfl rfl ?_;refine zb ?_;refine FW.loop (fun j:Nat=>⟨[(0,.int .i64 k),(1,.list 8 (l.map aj.fv)),(6,.int .i64 i),(7,.bool WB),(8,.int .i64 j)],[]⟩) (fun j=>j≤l.length∧(WB=true→∀ a,a<j→XS l i a=false)) (fun j=>l.length - j) 0 ⟨zN _,fun _ a ha=>absurd ha za⟩ ?_ ?_
  ·exact (aL.cv [] yQ zu)
  rintro j ⟨hj,o3⟩;refine zb ?_;refine yl (fun h=>?_) (fun h=>?_)
  ·have dN:j<l.length:=by simpa using h
   rw [h];clear h;refine zb ?_;cases WB
   ·refine zb ?_;refine ⟨i+1,⟨by omega,step rfl (fun h=>by cases h)⟩,by omega,?_⟩;exact (aL.cv [] yQ zu)
   have fM:=fM j dN rfl;have o3:=o3 rfl;have pq:XS l i j=false→∀ a,a<j+1→XS l i a=false:=fun hc a ha=>by
    rcases yd a j with h3|h3
    ·exact o3 a h3
    ·have:a=j:=by omega
     subst this;exact hc
   have dR:=Wg (nth l j);obtain ⟨q,hq⟩:∃ q,nth l j=q:=⟨_,rfl⟩
   have l0:XS l i j=(decide ((nth l i).arg=0) || (decide ((j:Int)≠i) && (eH q && (decide ((nth l j).key=(nth l i).key) && decide ((nth l j).arg=(nth l i).arg))))):=by unfold XS;rw [hq]
   rw [hq] at dR;generalize eH q=WJ at dR l0;refine zb ?_;rw [hq];refine zB dR (by repeat (first|exact zi.nil|refine zi.cons zj ?_)) rfl rfl ?_;refine xb ?_;refine pB (fun h1=>?_) (fun h1=>?_)
   ·rw [h1];refine zq ?_;refine ⟨by kernel_rfl,?_⟩;obtain rfl:=fM (by rw [l0,h1];rfl);refine zb ?_;exact FW.ret ⟨.inl rfl,zm rfl rfl rfl rfl⟩
   rw [h1];refine zq ?_;refine pB (fun h2=>?_) (fun h2=>?_);rotate_left
   ·rw [h2];refine zq ?_;refine ⟨by kernel_rfl,?_⟩;refine zb ?_;refine ⟨j+1,⟨by omega,fun _=>pq (by rw [l0,h1,h2];rfl)⟩,by omega,?_⟩;exact (aL.cv [] yQ zu)
   rw [h2];refine zq ?_;cases WJ
   ·refine zq ?_;refine ⟨by kernel_rfl,?_⟩;refine zb ?_;refine ⟨j+1,⟨by omega,fun _=>pq (by rw [l0,h1,h2];rfl)⟩,by omega,?_⟩;exact (aL.cv [] yQ zu)
   refine zq ?_;refine pB (fun h3=>?_) (fun h3=>?_);rotate_left
   ·rw [h3];refine zq ?_;refine ⟨by kernel_rfl,?_⟩;refine zb ?_;refine ⟨j+1,⟨by omega,fun _=>pq (by rw [l0,h1,h2,h3];rfl)⟩,by omega,?_⟩;exact (aL.cv [] yQ zu)
   rw [h3];refine zq ?_;refine ⟨by kernel_rfl,?_⟩;skip;refine FW.cond rfl (fun h4=>?_) (fun h4=>?_)
   ·have h4:decide ((nth l j).arg=(nth l i).arg)=true:=h4;obtain rfl:=fM (by rw [l0,h1,h2,h3,h4];rfl);refine zb ?_;exact FW.ret ⟨.inl rfl,zm rfl rfl rfl rfl⟩
   ·have h4:decide ((nth l j).arg=(nth l i).arg)=false:=h4;refine zb ?_;refine ⟨j+1,⟨by omega,fun _=>pq (by rw [l0,h1,h2,h3,h4];rfl)⟩,by omega,?_⟩;exact (aL.cv [] yQ zu)
  ·rw [h];refine zb ?_;have dN:j=l.length:=by simp at h;omega
   subst dN;refine ⟨i+1,⟨by omega,step rfl o3⟩,by omega,?_⟩;exact (aL.cv [] yQ zu)
 ·obtain rfl:i=l.length:=by simp at h;omega
  obtain rfl:=gK cW;refine zb ?_;exact FW.ret ⟨.inl rfl,zm rfl rfl rfl rfl⟩
theorem Ce (l:List Int) (ae:Int) (hl:∀ x∈l,aT x) (hlen:l.length≤9223372036854775807) (hm:aT ae):zX Tryz.prog 31 [.list 1 (l.map Zc),.int .i64 ae] (.ow 77 8) (.list 8 ((yi l ae).map aj.fv)) where
 go:=by kernel_rfl
 hand:=rfl
 calls w I vs hI hv:=by
  obtain ⟨_,_,rfl,e1,e2⟩:=hv.inv2;obtain ⟨A,c,rfl,_,hs⟩:=oW.of e1 hI;rw [e2.aV];refine (Be A c l ae w hs hl hlen hm).mono ?_;rintro e w' ⟨A1,c1,rfl,ho,hb⟩;exact ⟨_,rfl,hb,mG.res ho⟩
theorem Bm (l:List Int) (ae:Int) (hl:∀ x∈l,aT x) (hlen:l.length≤9223372036854775807) (hm:aT ae):zX Tryz.prog 29 [.list 1 (l.map Zc),.int .i64 ae] (.ow 77 8) (.list 8 ((Wp l ae).map aj.fv)) where
 go:=by kernel_rfl
 hand:=rfl
 calls w I vs hI hv:=by
  obtain ⟨_,_,rfl,e1,e2⟩:=hv.inv2;obtain ⟨A,c,rfl,_,hs⟩:=oW.of e1 hI;rw [e2.aV];refine (DR A c l ae w hs hl hlen hm).mono ?_;rintro e w' ⟨A1,c1,rfl,ho,hb⟩;exact ⟨_,rfl,hb,mG.res ho⟩
theorem Bc (l:List Int) (ae:Int) (hl:∀ x∈l,aT x) (hlen:l.length≤9223372036854775807) (hm:aT ae):zX Tryz.prog 30 [.list 1 (l.map Zc),.int .i64 ae] (.ow 77 8) (.list 8 ((ZY l ae).map aj.fv)) where
 go:=by kernel_rfl
 hand:=rfl
 calls w I vs hI hv:=by
  obtain ⟨_,_,rfl,e1,e2⟩:=hv.inv2;obtain ⟨A,c,rfl,_,hs⟩:=oW.of e1 hI;rw [e2.aV];refine (CM A c l ae w hs hl hlen hm).mono ?_;rintro e w' ⟨A1,c1,rfl,ho,hb⟩;exact ⟨_,rfl,hb,mG.res ho⟩
theorem BR (l:List aj) (at_ how v:Int) (hlen:l.length≤1000000) (ha:aT at_) (hh:aT how):zX Tryz.prog 15 [.list 8 (l.map aj.fv),.int .i64 at_,.int .i64 how,.int .i64 v] (.ow 77 8) (.list 8 ((Zw l at_ how v).map aj.fv)) where
 go:=by kernel_rfl
 hand:=rfl
 calls w I vs hI hv:=by
  obtain ⟨_,_,_,_,rfl,e1,e2,e3,e4⟩:=hv.rm;obtain ⟨A,c,rfl,_,hs⟩:=mG.of e1 hI;rw [e2.aV,e3.aV,e4.aV];refine (BQ A c l at_ how v w hs hlen ha hh).mono ?_;rintro e w' ⟨A1,c1,rfl,ho,hb⟩;exact ⟨_,rfl,hb,mG.res ho⟩
/-! ### what the registers are -/
theorem Cd (l:List Int) (h0:0≤ae) (h1:ae≤20):xm (yi l ae)=0∧(∀ o∈yi l ae,gy o)∧(∀ o∈yi l ae,gY o)∧((yi l ae).length:Int)≤ae:=by
 have hg:=xn l ae;have hl:=xU l ae;have hi:=YV l (ae:=ae) h0;have inv:=Vy (Yf l) hg hl _ (zf _);exact ⟨(WK hg hl inv.ok inv.sm).1,(WK hg hl inv.ok inv.sm).2,inv.sm,by have:=inv.ok.len;unfold yi;omega⟩
theorem Bl (l:List Int) (h0:0≤ae) (h1:ae≤20):(∀ o∈Wp l ae,gy o)∧((Wp l ae).length:Int)≤ae:=by
 have hg:=xn l ae;have hl:=xU l ae;have hi:=YV l (ae:=ae) h0;have inv:=rI (Yf l) hg hl _ (zf _);exact ⟨(WK hg hl inv.ok inv.sm).2,by have:=inv.ok.len;unfold Wp;omega⟩
theorem Bb (l:List Int) (h0:0≤ae) (h1:ae≤20):(∀ o∈ZY l ae,gy o)∧((ZY l ae).length:Int)≤ae:=by
 have hg:=xn l ae;have hl:=xU l ae;have hi:=YV l (ae:=ae) h0;have inv:=rQ hg hl _ (zf _);exact ⟨(WK hg hl inv.ok inv.sm).2,by have:=inv.ok.len;unfold ZY;omega⟩
theorem BO (k ck cl ar:Int) (h:¬ (1≤k∧k≤8∧ck=k)):zX Tryz.prog 8 [.agg [.int .i64 k,.int .i64 0,.int .i64 0,.int .i64 0,.int .i64 0,.int .i64 0,.list 5 []],.agg [.list 8 [],.list 1 [],.list 4 []],.agg [.int .i64 ck,.int .i64 cl,.int .i64 ar,.nil,.list 3 []]] .fr (.int .i64 1):=by
 refine zt 72 Tryz.func8 Tryz.ntmps8 rfl ?_;change FW _ _ _ ⟨[(0,_),(1,_),(2,_)],[]⟩;refine zb ?_;refine yl (fun h1=>?_) (fun h1=>?_)
 ·rw [h1];refine zb ?_;exact FW.ret ⟨.inl rfl,zm rfl rfl rfl rfl⟩
 ·rw [h1];refine zb ?_;refine yl (fun h2=>?_) (fun h2=>?_)
  ·rw [h2];refine zb ?_;exact FW.ret ⟨.inl rfl,zm rfl rfl rfl rfl⟩
  ·rw [h2];refine zb ?_;refine FW.cond rfl (fun h3=>?_) (fun h3=>?_)
   ·refine zb ?_;exact FW.ret ⟨.inl rfl,zm rfl rfl rfl rfl⟩
   ·exfalso;have h1:=of_decide_eq_false h1;have h2:=of_decide_eq_false h2;have h3:decide (ck≠k)=false:=h3;have h3:=of_decide_eq_false h3;omega
def pN:List Int:=[2,3,4,5,6,7]
theorem Bs:zX Tryz.prog 14 [] .sh (.list 1 (pN.map Zc)):=by
 refine zt 2 Tryz.func14 Tryz.ntmps14 rfl ?_;change FW _ _ _ ⟨[],[]⟩;refine zb ?_;refine zD (es:=pN.map Zc) rfl rfl rfl (by refine yb.int rfl rfl ?_;refine yb.int rfl rfl ?_;refine yb.int rfl rfl ?_;refine yb.int rfl rfl ?_;refine yb.int rfl rfl ?_;refine yb.int rfl rfl ?_;exact yb.nil) rfl rfl rfl rfl rfl ?_;refine zb ?_;exact FW.ret ⟨.inl rfl,.sh (.cons (.tmp 0 rfl rfl) .nil) rfl rfl⟩
def mQ (k:Int) (l:List Int):List aj:=if k=3∨k=4 then Wp l 10 else if k=7 then ZY l 10 else yi l 10
theorem DB (k:Int) (l:List Int):(∀ o∈mQ k l,gy o)∧(mQ k l).length≤10:=by
 unfold mQ;split
 ·have h:=Bl l (ae:=10) zc zc;exact ⟨h.1,by have:=h.2;omega⟩
 ·split
  ·have h:=Bb l (ae:=10) zc zc;exact ⟨h.1,by have:=h.2;omega⟩
  ·have h:=Cd l (ae:=10) zc zc;exact ⟨h.2.1,by have:=h.2.2.2;omega⟩
theorem CI (k:Int) (h1:2≤k) (h2:k≤7) (l:List Int) (hl:∀ x∈l,aT x) (hlen:l.length≤9223372036854775807):zX Tryz.prog 16 [.int .i64 k,.list 1 (l.map Zc)] (.ow 77 8) (.list 8 ((mQ k l).map aj.fv)):=by
 have hs:=Bm l 10 hl hlen zc;have hq:=Bc l 10 hl hlen zc;have hr:=Ce l 10 hl hlen zc;obtain ⟨H,hH⟩:∃ H,mQ k l=H:=⟨_,rfl⟩
 rw [hH];unfold mQ at hH;obtain rfl|rfl|rfl|rfl|rfl|rfl:k=2∨k=3∨k=4∨k=5∨k=6∨k=7:=by omega
 all_goals (
  simp at hH
  try rw [hH] at hs
  try rw [hH] at hq
  try rw [hH] at hr
  refine zt 17 Tryz.func16 Tryz.ntmps16 rfl ?_;change FW _ _ _ ⟨[(0,_),(1,_)],[]⟩;refine zb ?_
  first
  | refine WP (by first|exact hs|exact hq|exact hr) (by repeat (first|exact zi.nil|refine zi.cons zj ?_)) (zU _) rfl rfl rfl ?_
  refine zb ?_;exact FW.ret ⟨.inl rfl,vy rfl rfl rfl zd zc rfl (fun e he=>by obtain ⟨b,_,rfl⟩:=zL.1 he;rfl)⟩)
theorem BP (n:Int) (m:Nat) (hm:0<m):∃ k:Nat,yp n m=k∧k<m:=⟨(yp n m).toNat,by have:=xX (n:=n) (ae:=m) za;omega,by have:=xX (n:=n) (ae:=m) za;have:=Zr (n:=n) (ae:=m) za;omega⟩
theorem vG (k:Int):∀ p∈xR,¬ (p.1=k∧p.2.1=99):=fun p hp h=>by
 have:∀ p∈xR,p.2.1≠99:=by decide
 exact this p hp h.2
theorem DU {k:Int} (h1:2≤k) (h2:k≤7):WZ k≠[]∧kx k=.list 1 ((WZ k).map Zc):=by
 obtain rfl|rfl|rfl|rfl|rfl|rfl:k=2∨k=3∨k=4∨k=5∨k=6∨k=7:=by omega
 all_goals exact ⟨by decide,rfl⟩
theorem Dl (K:List Int):VJ K []=true:=rfl
theorem uN (k:Int) (h1:2≤k) (h2:k≤7) (H:List aj) (hl:H.length≤1000000) (cA:∀ o∈H,gy o) :
  zX Tryz.prog 8 [.agg [.int .i64 k,.int .i64 0,.int .i64 0,.int .i64 0,.int .i64 0,.int .i64 0,.list 5 []],.agg [.list 8 (H.map aj.fv),.list 1 [],.list 4 []],.agg [.int .i64 k,.int .i64 99,.int .i64 0,.nil,.list 3 []]] .fr (.int .i64 (if VJ (WZ k) H then 30 else 22)):=by
 have qz:=XE k h1 h2 H hl cA;have hn:=DU h1 h2;have hs:=ZD { k:=k,ops:=H.map aj.fv,cl:=99 } .nil rfl ⟨by show 1≤k;omega,by show k≤8;omega⟩ (by show aT 99;decide) (VJ (WZ k) H) (.inr ⟨hn.2,hn.1,qz⟩) false (fun _=>vG k) 0 0 [] [] (fun h=>by cases h) false false false (fun h=>by cases h) (fun h=>by cases h) (fun h=>by cases h)
  (if VJ (WZ k) H then 30 else 22) (fun h=>by rw [h];rfl) (fun h=>by rw [h];rfl)
 exact hs
theorem Ec (k ck:Int) (hk:aT k):zX Tryz.prog 8 [.agg [.int .i64 k,.int .i64 0,.int .i64 0,.int .i64 0,.int .i64 0,.int .i64 0,.list 5 []],.agg [.list 8 [],.list 1 [],.list 4 []],.agg [.int .i64 ck,.int .i64 99,.int .i64 0,.nil,.list 3 []]] .fr (.int .i64 (if 1≤k∧k≤8∧ck=k then 30 else 1)):=by
 by_cases h:1≤k∧k≤8∧ck=k
 ·rw [if_pos h];obtain ⟨h1,h2,rfl⟩:=h;by_cases h3:2≤ck∧ck≤7
  ·have:=uN ck h3.1 h3.2 [] zc (fun o h=>by cases h);rwa [Dl] at this
  ·have hd:kx ck=.nil:=by
    obtain rfl|rfl:ck=1∨ck=8:=by omega
    ·rfl
    ·rfl
   exact ZD { k:=ck,cl:=99 } .nil rfl ⟨h1,h2⟩ (by show aT 99;decide) true (.inl ⟨hd,rfl⟩) false (fun _=>vG ck) 0 0 [] [] (fun h=>by cases h) false false false (fun h=>by cases h) (fun h=>by cases h) (fun h=>by cases h) 30 (fun h=>by cases h) (fun _=>rfl)
 ·rw [if_neg h];exact BO k ck 99 0 h
theorem Xt (k ck wh:Int) (l:List Int) (a0 a1 a2:Int) (hk:aT k) (l5:aT ck) (Af:aT wh) (hl:∀ x∈l,aT x) (hlen:l.length≤9223372036854775807) (i0:aT a0) (i1:aT a1) (i2:aT a2) :
  zX Tryz.prog 5 [.int .i64 k,.int .i64 ck,.int .i64 wh,.list 1 (l.map Zc),.agg [.int .i64 a0,.int .i64 a1,.int .i64 a2]] .fr (.bool true):=by
 have hA:=Ec k ck hk;have sW:=Bn wh 6 Af zc zc;obtain ⟨j,hj,wD⟩:=BP wh 6 zc;have hj:yp wh 6=(j:Int):=hj;have nV:j<pN.length:=wD;rw [hj] at sW;obtain ⟨K,hK⟩:∃ K,nth pN j=K:=⟨_,rfl⟩
 have mU:2≤K∧K≤7:=by
  obtain rfl|rfl|rfl|rfl|rfl|rfl:j=0∨j=1∨j=2∨j=3∨j=4∨j=5:=by omega
  all_goals (rw [← hK];decide)
 have ho:=CI K mU.1 mU.2 l hl hlen;have hf:=DB K l;generalize mQ K l=G at ho hf;have hb:=BR G a0 a1 a2 za i0 i1;have qc:(Zw G a0 a1 a2).length≤1000000:=by rw [Ug];omega
 have sT:=Ct hf.1 a0 a1 i2;generalize Zw G a0 a1 a2=H at hb qc sT;have hX:=uN K mU.1 mU.2 H qc sT;have hD:=Ud K mU.1 mU.2 H qc;generalize VJ (WZ K) H=D at hX hD;refine zt 81 Tryz.func5 Tryz.ntmps5 rfl ?_;change FW _ _ _ ⟨[(0,_),(1,_),(2,_),(3,_),(4,_)],[]⟩;refine zb ?_;refine zB hA (by repeat (first|exact zi.nil|refine zi.cons (by exact fH.sub rfl rfl (by repeat (first|exact FV.le.refl _|exact FV.le.nil _|refine FV.le.agg ?_|refine FV.le.bN ?_|exact fL.nil|refine fL.cons ?_ ?_|exact FV.le.undef _))) ?_)) rfl rfl ?_
 (repeat (first|refine zx.nil ?_|refine zx.aq (Za rfl) rfl rfl ?_))
 refine FW.seq ?_;refine FW.join (fun _:Unit=>⟨[(2,.int .i64 wh),(3,.list 1 (l.map Zc)),(9,.ptr 109 0 0 0)],[(109,⟨0,.own,53,3,[[.int .i64 a0,.int .i64 a1,.int .i64 a2]]⟩)]⟩) (fun _=>True) ?_ ?_
 ·by_cases cW:1≤k∧k≤8∧ck=k
  ·rw [if_pos cW];obtain ⟨k1,k2,k3⟩:=cW;refine zb ?_;refine yl (fun h=>absurd (of_decide_eq_true h) za) (fun h1=>?_);rw [h1];refine zb ?_;refine yl (fun h=>absurd (of_decide_eq_true h) za) (fun h2=>?_);rw [h2];refine zb ?_;refine FW.cond rfl (fun h=>absurd h (by simp [k3])) (fun _=>?_);refine FW.skip ?_;exact ⟨rfl,(),trivial,(aL.cv [⟨109,some 9,1,⟨0,.own,53,3,[[.int .i64 a0,.int .i64 a1,.int .i64 a2]]⟩⟩] zw zu)⟩
  ·rw [if_neg cW];refine zb ?_;refine yl (fun h1=>?_) (fun h1=>?_)
   ·rw [h1];refine zb ?_;exact ⟨rfl,(),trivial,(aL.cv [⟨109,some 9,1,⟨0,.own,53,3,[[.int .i64 a0,.int .i64 a1,.int .i64 a2]]⟩⟩] zw zu)⟩
   ·rw [h1];refine zb ?_;refine yl (fun h2=>?_) (fun h2=>?_)
    ·rw [h2];refine zb ?_;exact ⟨rfl,(),trivial,(aL.cv [⟨109,some 9,1,⟨0,.own,53,3,[[.int .i64 a0,.int .i64 a1,.int .i64 a2]]⟩⟩] zw zu)⟩
    ·rw [h2];refine zb ?_;have h1:=of_decide_eq_false h1;have h2:=of_decide_eq_false h2;refine FW.cond rfl (fun h=>absurd h zy) (fun _=>?_);refine FW.skip ?_;exact ⟨rfl,(),trivial,(aL.cv [⟨109,some 9,1,⟨0,.own,53,3,[[.int .i64 a0,.int .i64 a1,.int .i64 a2]]⟩⟩] zw zu)⟩
 intro _ _;clear hA;refine zb ?_;refine YF Bs UT rfl rfl ?_;refine zb ?_;refine zB sW (by repeat (first|exact zi.nil|refine zi.cons zj ?_)) rfl rfl ?_;refine zb ?_;rw [hK];refine xb ?_;refine uZ ho (by repeat (first|exact zi.nil|refine zi.cons zj ?_)) (zU _) rfl rfl rfl ?_;refine zq ?_;refine uZ hb Xq (zU _) rfl rfl rfl ?_;refine zq ?_;refine ⟨by kernel_rfl,?_⟩;refine FW.le (s':=⟨[(14,.int .i64 K),(15,.own 115 0 0 H.length)],[(115,⟨0,.own,77,8,H.map aj.fv⟩)]⟩) ?_ (aL.cv [⟨115,some 56,1,⟨0,.own,77,8,H.map aj.fv⟩⟩] zw zu);refine FW.le ?_ (aL.share 15 rfl rfl (by rw [zU]));refine zb ?_;refine zB hX (by repeat (first|exact zi.nil|refine zi.cons (by exact fH.sub rfl rfl (by repeat (first|exact FV.le.refl _|exact FV.le.nil _|refine FV.le.agg ?_|refine FV.le.bN ?_|exact fL.nil|refine fL.cons ?_ ?_|exact FV.le.undef _))) ?_)) rfl rfl ?_;refine zb ?_;refine zB hD (by repeat (first|exact zi.nil|refine zi.cons zj ?_)) rfl rfl ?_;cases D
 ·refine zb ?_;refine zB We UT rfl ⟨_,_,rfl,rfl,rfl⟩ ?_;refine zb ?_;exact FW.ret ⟨.inl rfl,zm rfl rfl rfl rfl⟩
 ·refine zb ?_;refine zB We UT rfl ⟨_,_,rfl,rfl,rfl⟩ ?_;refine zb ?_;exact FW.ret ⟨.inl rfl,zm rfl rfl rfl rfl⟩
end
end Go.Proofs.YtedkppfghdipdaaGreatDoor
