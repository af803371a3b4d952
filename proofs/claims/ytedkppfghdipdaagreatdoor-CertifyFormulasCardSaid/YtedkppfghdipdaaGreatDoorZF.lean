/-
  Lemmas, in parts.
-/
import Derived.Test.YtedkppfghdipdaaGreatDoorZE
import Derived.Deep.RegionHeld3
import Derived.Deep.DrawnRows
import Derived.Deep.DeepCutAuto
import Derived.Test.YtedkppfghdipdaaGreatDoorZC
import Derived.Test.YtedkppfghdipdaaGreatDoorZFmCe3
import Derived.Test.YtedkppfghdipdaaGreatDoorZDA
namespace Go.Proofs.YtedkppfghdipdaaGreatDoor
set_option linter.unusedVariables false
set_option maxHeartbeats 16000000
section
open Go.RowKit
attribute [local go_sem ↓] Go.wp_at_zero Go.wp_at_succ
structure ZY where
 out:List aN
 ws:List Int
 dE:List Int
 gv:List Int
 deriving Inhabited
def v8:ZY:=⟨[],[],[0,0,0,0],[0,0,0]⟩
def Fb (ev:List fM) (i:Nat) (e:fM) (s:ZY):ZY:=
 if e.n % 2=1 then ⟨s.out++[⟨e.p,1,1+e.n / 2 % 2,(s.ws.length:Int)+1,0,i,ev.length,false⟩],s.ws++[1+e.n / 2 % 2],s.dE.set e.p.toNat s.out.length,s.gv.set (1+e.n / 2 % 2).toNat ((s.ws.length:Int)+1)⟩
 else ⟨s.out++[⟨e.p,0,1+e.n / 2 % 2,0,0,i,ev.length,false⟩],s.ws,s.dE.set e.p.toNat s.out.length,s.gv⟩
def F0 (fresh:Bool) (i:Nat) (e:fM) (s:ZY):ZY:=
 { s with out:=s.out.set (nth s.dE e.p.toNat).toNat { nth s.out (nth s.dE e.p.toNat).toNat with done:=true,ret:=i,res:=if (nth s.out (nth s.dE e.p.toNat).toNat).k=0 then wo s.ws (nth s.out (nth s.dE e.p.toNat).toNat).key e.n (nth s.gv (nth s.out (nth s.dE e.p.toNat).toNat).key.toNat) fresh else (nth s.out (nth s.dE e.p.toNat).toNat).res } }
def Fc (ev:List fM) (fresh:Bool) (i:Nat) (s:ZY):ZY:=
 if (nth ev i).inv then Fb ev i (nth ev i) s else F0 fresh i (nth ev i) s
def Gg (ev:List fM) (fresh:Bool) (k:Nat):ZY:=pd (Fc ev fresh) v8 k
def v5 (l:List Int):Bool:=decide (FH l 100 % 2=1)
def EL (l:List Int) (aV:Int):List aN:=(Gg (nA l aV) (v5 l) (nA l aV).length).out
section
variable {wa w w' : World} {out:List aN} {ws dE gv:List Int} {A1 A2:Option Addr} {c1 c2:Nat}
end
end
section
open Go.RowKit
attribute [local go_sem ↓] Go.wp_at_zero Go.wp_at_succ
end
section
open Go.RowKit
attribute [local go_sem ↓] Go.wp_at_zero Go.wp_at_succ
def F2 (ev:List fM) (i:Nat) (e:fM) (s:ZY):ZY:=
 if 0<e.n % 3 then ⟨s.out++[⟨e.p,2,1+e.n / 2 % 2,(s.ws.length:Int)+1,0,i,ev.length,false⟩],s.ws++[1+e.n / 2 % 2],s.dE.set e.p.toNat s.out.length,s.gv⟩
 else ⟨s.out++[⟨e.p,0,1+e.n / 2 % 2,0,0,i,ev.length,false⟩],s.ws,s.dE.set e.p.toNat s.out.length,s.gv⟩
def Gh (fresh:Bool) (i:Nat) (e:fM) (s:ZY):ZY:=
 { s with out:=s.out.set (nth s.dE e.p.toNat).toNat { nth s.out (nth s.dE e.p.toNat).toNat with done:=true,ret:=i,res:=wo s.ws (nth s.out (nth s.dE e.p.toNat).toNat).key e.n (nth s.gv (nth s.out (nth s.dE e.p.toNat).toNat).key.toNat) fresh }
          gv:=if (nth s.out (nth s.dE e.p.toNat).toNat).k=2 then s.gv.set (nth s.out (nth s.dE e.p.toNat).toNat).key.toNat (nth s.out (nth s.dE e.p.toNat).toNat).arg else s.gv }
def F3 (ev:List fM) (fresh:Bool) (i:Nat) (s:ZY):ZY:=
 if (nth ev i).inv then F2 ev i (nth ev i) s else Gh fresh i (nth ev i) s
def Gm (ev:List fM) (fresh:Bool) (k:Nat):ZY:=pd (F3 ev fresh) v8 k
def Gi (l:List Int) (aV:Int):List aN:=(Gm (nA l aV) (v5 l) (nA l aV).length).out
end
section
open Go.RowKit
attribute [local go_sem ↓] Go.wp_at_zero Go.wp_at_succ
end
section
open Go.RowKit
attribute [local go_sem ↓] Go.wp_at_zero Go.wp_at_succ
def FX (ev:List fM) (i:Nat) (e:fM) (s:ZY):ZY:=
 if e.n % 2=0 then ⟨s.out++[⟨e.p,3,1+e.n / 2 % 2,(s.ws.length:Int)+1,0,i,ev.length,false⟩],s.ws++[1+e.n / 2 % 2],s.dE.set e.p.toNat s.out.length,s.gv⟩
 else ⟨s.out++[⟨e.p,4,1+e.n / 2 % 2,0,0,i,ev.length,false⟩],s.ws,s.dE.set e.p.toNat s.out.length,s.gv⟩
def Gf (i:Nat) (e:fM) (s:ZY):ZY:=
 if (nth s.out (nth s.dE e.p.toNat).toNat).k=4 then { s with out:=s.out.set (nth s.dE e.p.toNat).toNat { nth s.out (nth s.dE e.p.toNat).toNat with done:=true,ret:=i,res:=vZ s.ws s.gv (nth s.out (nth s.dE e.p.toNat).toNat).key e.n },gv:=s.gv++[vZ s.ws s.gv (nth s.out (nth s.dE e.p.toNat).toNat).key e.n] }
 else { s with out:=s.out.set (nth s.dE e.p.toNat).toNat { nth s.out (nth s.dE e.p.toNat).toNat with done:=true,ret:=i } }
def FY (ev:List fM) (i:Nat) (s:ZY):ZY:=
 if (nth ev i).inv then FX ev i (nth ev i) s else Gf i (nth ev i) s
def Gk (ev:List fM) (k:Nat):ZY:=pd (FY ev) ⟨[],[],[0,0,0,0],[]⟩ k
def FZ (l:List Int) (aV:Int):List aN:=(Gk (nA l aV) (nA l aV).length).out
section
variable {wa w w' : World} {out:List aN} {ws dE gv:List Int} {A1 A2 A9:Option Addr} {c1 c2 c9:Nat}
end
end
section
open Go.RowKit
attribute [local go_sem ↓] Go.wp_at_zero Go.wp_at_succ
end
section
open Go.RowKit
attribute [local go_sem ↓] Go.wp_at_zero Go.wp_at_succ
def mixed (l:List Int) (which:Int):List aN:=
 if xy which 3=0 then EL l 12 else if xy which 3=1 then Gi l 12 else FZ l 12
/-! ### what the generated operations are -/
/-! ### Bent -/
end
section
open Go.RowKit
attribute [local go_sem ↓] Go.wp_at_zero Go.wp_at_succ
end
section
open Go.RowKit
theorem CP (k:Int) (h1:1≤k) (h2:k≤8):zP Tryz.prog 34 [.int .i64 k] .sh (lL k):=by
 obtain rfl|rfl|rfl|rfl|rfl|rfl|rfl|rfl:k=1∨k=2∨k=3∨k=4∨k=5∨k=6∨k=7∨k=8:=by omega
 ·change zP Tryz.prog 34 [.int .i64 1] .sh .nil;refine zj 16 Tryz.func34 Tryz.ntmps34 rfl ?_;change FW _ _ _ ⟨[(0,.int .i64 1)],[]⟩;refine za ?_;exact FW.ret ⟨.inl rfl,.sh (.cons (.tmp 2 rfl rfl) .nil) rfl rfl⟩
 ·change zP Tryz.prog 34 [.int .i64 2] .sh (.list 1 [[.int .i64 0],[.int .i64 1]]);refine zj 16 Tryz.func34 Tryz.ntmps34 rfl ?_;change FW _ _ _ ⟨[(0,.int .i64 2)],[]⟩;refine za ?_;refine zC (es:=[[.int .i64 0],[.int .i64 1]]) rfl rfl rfl (by refine zY.int rfl rfl ?_;refine zY.int rfl rfl ?_;exact zY.nil) rfl rfl rfl rfl rfl ?_;refine za ?_;exact FW.ret ⟨.inl rfl,.sh (.cons (.tmp 2 rfl rfl) .nil) rfl rfl⟩
 ·change zP Tryz.prog 34 [.int .i64 3] .sh (.list 1 [[.int .i64 0],[.int .i64 2]]);refine zj 16 Tryz.func34 Tryz.ntmps34 rfl ?_;change FW _ _ _ ⟨[(0,.int .i64 3)],[]⟩;refine za ?_;refine zC (es:=[[.int .i64 0],[.int .i64 2]]) rfl rfl rfl (by refine zY.int rfl rfl ?_;refine zY.int rfl rfl ?_;exact zY.nil) rfl rfl rfl rfl rfl ?_;refine za ?_;exact FW.ret ⟨.inl rfl,.sh (.cons (.tmp 2 rfl rfl) .nil) rfl rfl⟩
 ·change zP Tryz.prog 34 [.int .i64 4] .sh (.list 1 [[.int .i64 0],[.int .i64 2]]);refine zj 16 Tryz.func34 Tryz.ntmps34 rfl ?_;change FW _ _ _ ⟨[(0,.int .i64 4)],[]⟩;refine za ?_;refine zC (es:=[[.int .i64 0],[.int .i64 2]]) rfl rfl rfl (by refine zY.int rfl rfl ?_;refine zY.int rfl rfl ?_;exact zY.nil) rfl rfl rfl rfl rfl ?_;refine za ?_;exact FW.ret ⟨.inl rfl,.sh (.cons (.tmp 2 rfl rfl) .nil) rfl rfl⟩
 ·change zP Tryz.prog 34 [.int .i64 5] .sh (.list 1 [[.int .i64 0],[.int .i64 1]]);refine zj 16 Tryz.func34 Tryz.ntmps34 rfl ?_;change FW _ _ _ ⟨[(0,.int .i64 5)],[]⟩;refine za ?_;refine zC (es:=[[.int .i64 0],[.int .i64 1]]) rfl rfl rfl (by refine zY.int rfl rfl ?_;refine zY.int rfl rfl ?_;exact zY.nil) rfl rfl rfl rfl rfl ?_;refine za ?_;exact FW.ret ⟨.inl rfl,.sh (.cons (.tmp 2 rfl rfl) .nil) rfl rfl⟩
 ·change zP Tryz.prog 34 [.int .i64 6] .sh (.list 1 [[.int .i64 0],[.int .i64 1]]);refine zj 16 Tryz.func34 Tryz.ntmps34 rfl ?_;change FW _ _ _ ⟨[(0,.int .i64 6)],[]⟩;refine za ?_;refine zC (es:=[[.int .i64 0],[.int .i64 1]]) rfl rfl rfl (by refine zY.int rfl rfl ?_;refine zY.int rfl rfl ?_;exact zY.nil) rfl rfl rfl rfl rfl ?_;refine za ?_;exact FW.ret ⟨.inl rfl,.sh (.cons (.tmp 2 rfl rfl) .nil) rfl rfl⟩
 ·change zP Tryz.prog 34 [.int .i64 7] .sh (.list 1 [[.int .i64 3],[.int .i64 4]]);refine zj 16 Tryz.func34 Tryz.ntmps34 rfl ?_;change FW _ _ _ ⟨[(0,.int .i64 7)],[]⟩;refine za ?_;refine zC (es:=[[.int .i64 3],[.int .i64 4]]) rfl rfl rfl (by refine zY.int rfl rfl ?_;refine zY.int rfl rfl ?_;exact zY.nil) rfl rfl rfl rfl rfl ?_;refine za ?_;exact FW.ret ⟨.inl rfl,.sh (.cons (.tmp 2 rfl rfl) .nil) rfl rfl⟩
 ·change zP Tryz.prog 34 [.int .i64 8] .sh .nil;refine zj 16 Tryz.func34 Tryz.ntmps34 rfl ?_;change FW _ _ _ ⟨[(0,.int .i64 8)],[]⟩;refine za ?_;exact FW.ret ⟨.inl rfl,.sh (.cons (.tmp 2 rfl rfl) .nil) rfl rfl⟩
/-! ### what the registers are -/
theorem zu {c:Ctx} {fn:Func} {t:List (Nat×FV)} {ob:List (Nat×zL)} {d T id aa E sz dr:Nat} {kk:TK} {z cs:List FV} (hr:fn.results.toList=[.cell d T]) (h:look .undef t d=.ptr id aa 0 0) (hT:c.ty T=⟨kk,sz,dr,z⟩) (hk:kk.aX = some true) (hp:0<sz) (hb:look {} ob id=⟨aa,.own,E,sz,[cs]⟩) (hl:cs.length=sz):jr c fn ⟨t,ob⟩ .sh (.agg cs):=by
 have bB : (⟨t,ob⟩:ae).ob id=⟨aa,.own,E,sz,[cs]⟩:=hb;have hc:=lK.cell (c:=c) (s:=⟨t,ob⟩) d T (bb:=true) (by rw [hT];exact hk) (id:=id) (aa:=aa) (j:=0) (o:=0) h ⟨(fun e=>by (rw [bB] at e;cases e)),by rw [bB]⟩ (by rw [bB];rfl) (by rw [bB];exact Nat.one_pos) (by rw [bB,hT];simp) (by rw [bB];exact hp);have e:Zl (c.ty T) ((((⟨t,ob⟩:ae).ob id).es.getD 0 []).drop 0)=.agg cs:=by
  rw [bB,hT];unfold Zl;rw [hk];show FV.agg (cs.take sz)=_;rw [ym zc]
 rw [e] at hc;exact .sh (fs:=[.agg cs]) (by rw [hr];exact .cons hc .nil) rfl rfl
end
end Go.Proofs.YtedkppfghdipdaaGreatDoor
