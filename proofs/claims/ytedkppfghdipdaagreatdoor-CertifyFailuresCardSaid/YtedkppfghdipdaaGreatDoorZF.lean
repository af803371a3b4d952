/-
  Lemmas, in parts.
-/
import Derived.Test.YtedkppfghdipdaaGreatDoorZG
import Derived.Deep.RegionHeld3
import Derived.Deep.DrawnRows
import Derived.Deep.DeepCutAuto
import Derived.Test.YtedkppfghdipdaaGreatDoorZC
import Derived.Test.YtedkppfghdipdaaGreatDoorZFmMapH
import Derived.Test.YtedkppfghdipdaaGreatDoorZFmKx
namespace Go.Proofs.YtedkppfghdipdaaGreatDoor
set_option linter.unusedVariables false
set_option maxHeartbeats 16000000
section
open Go.RowKit
attribute [local go_sem ↓] Go.wp_at_zero Go.wp_at_succ
structure xE where
 out:List aG
 ws:List Int
 c4:List Int
 eX:List Int
 deriving Inhabited
def pS:xE:=⟨[],[],[0,0,0,0],[0,0,0]⟩
def u5 (ev:List eK) (i:Nat) (e:eK) (s:xE):xE:=
 if e.n % 2=1 then ⟨s.out++[⟨e.p,1,1+e.n / 2 % 2,(s.ws.length:Int)+1,0,i,ev.length,false⟩],s.ws++[1+e.n / 2 % 2],s.c4.set e.p.toNat s.out.length,s.eX.set (1+e.n / 2 % 2).toNat ((s.ws.length:Int)+1)⟩
 else ⟨s.out++[⟨e.p,0,1+e.n / 2 % 2,0,0,i,ev.length,false⟩],s.ws,s.c4.set e.p.toNat s.out.length,s.eX⟩
def vP (fresh:Bool) (i:Nat) (e:eK) (s:xE):xE:=
 { s with out:=s.out.set (nth s.c4 e.p.toNat).toNat { nth s.out (nth s.c4 e.p.toNat).toNat with done:=true,ret:=i,res:=if (nth s.out (nth s.c4 e.p.toNat).toNat).k=0 then pV s.ws (nth s.out (nth s.c4 e.p.toNat).toNat).key e.n (nth s.eX (nth s.out (nth s.c4 e.p.toNat).toNat).key.toNat) fresh else (nth s.out (nth s.c4 e.p.toNat).toNat).res } }
def u6 (ev:List eK) (fresh:Bool) (i:Nat) (s:xE):xE:=
 if (nth ev i).inv then u5 ev i (nth ev i) s else vP fresh i (nth ev i) s
def vx (ev:List eK) (fresh:Bool) (k:Nat):xE:=lT (u6 ev fresh) pS k
def pR (l:List Int):Bool:=decide (vu l 100 % 2=1)
def uR (l:List Int) (aL:Int):List aG:=(vx (WR l aL) (pR l) (WR l aL).length).out
section
variable {wa w w' : World} {out:List aG} {ws c4 eX:List Int} {A1 A2:Option Addr} {c1 c2:Nat}
end
end
section
open Go.RowKit
attribute [local go_sem ↓] Go.wp_at_zero Go.wp_at_succ
end
section
open Go.RowKit
attribute [local go_sem ↓] Go.wp_at_zero Go.wp_at_succ
def vT (ev:List eK) (i:Nat) (e:eK) (s:xE):xE:=
 if 0<e.n % 3 then ⟨s.out++[⟨e.p,2,1+e.n / 2 % 2,(s.ws.length:Int)+1,0,i,ev.length,false⟩],s.ws++[1+e.n / 2 % 2],s.c4.set e.p.toNat s.out.length,s.eX⟩
 else ⟨s.out++[⟨e.p,0,1+e.n / 2 % 2,0,0,i,ev.length,false⟩],s.ws,s.c4.set e.p.toNat s.out.length,s.eX⟩
def vy (fresh:Bool) (i:Nat) (e:eK) (s:xE):xE:=
 { s with out:=s.out.set (nth s.c4 e.p.toNat).toNat { nth s.out (nth s.c4 e.p.toNat).toNat with done:=true,ret:=i,res:=pV s.ws (nth s.out (nth s.c4 e.p.toNat).toNat).key e.n (nth s.eX (nth s.out (nth s.c4 e.p.toNat).toNat).key.toNat) fresh }
          eX:=if (nth s.out (nth s.c4 e.p.toNat).toNat).k=2 then s.eX.set (nth s.out (nth s.c4 e.p.toNat).toNat).key.toNat (nth s.out (nth s.c4 e.p.toNat).toNat).arg else s.eX }
def vU (ev:List eK) (fresh:Bool) (i:Nat) (s:xE):xE:=
 if (nth ev i).inv then vT ev i (nth ev i) s else vy fresh i (nth ev i) s
def vE (ev:List eK) (fresh:Bool) (k:Nat):xE:=lT (vU ev fresh) pS k
def vz (l:List Int) (aL:Int):List aG:=(vE (WR l aL) (pR l) (WR l aL).length).out
end
section
open Go.RowKit
attribute [local go_sem ↓] Go.wp_at_zero Go.wp_at_succ
end
section
open Go.RowKit
attribute [local go_sem ↓] Go.wp_at_zero Go.wp_at_succ
def vM (ev:List eK) (i:Nat) (e:eK) (s:xE):xE:=
 if e.n % 2=0 then ⟨s.out++[⟨e.p,3,1+e.n / 2 % 2,(s.ws.length:Int)+1,0,i,ev.length,false⟩],s.ws++[1+e.n / 2 % 2],s.c4.set e.p.toNat s.out.length,s.eX⟩
 else ⟨s.out++[⟨e.p,4,1+e.n / 2 % 2,0,0,i,ev.length,false⟩],s.ws,s.c4.set e.p.toNat s.out.length,s.eX⟩
def vv (i:Nat) (e:eK) (s:xE):xE:=
 if (nth s.out (nth s.c4 e.p.toNat).toNat).k=4 then { s with out:=s.out.set (nth s.c4 e.p.toNat).toNat { nth s.out (nth s.c4 e.p.toNat).toNat with done:=true,ret:=i,res:=p8 s.ws s.eX (nth s.out (nth s.c4 e.p.toNat).toNat).key e.n },eX:=s.eX++[p8 s.ws s.eX (nth s.out (nth s.c4 e.p.toNat).toNat).key e.n] }
 else { s with out:=s.out.set (nth s.c4 e.p.toNat).toNat { nth s.out (nth s.c4 e.p.toNat).toNat with done:=true,ret:=i } }
def vN (ev:List eK) (i:Nat) (s:xE):xE:=
 if (nth ev i).inv then vM ev i (nth ev i) s else vv i (nth ev i) s
def vC (ev:List eK) (k:Nat):xE:=lT (vN ev) ⟨[],[],[0,0,0,0],[]⟩ k
def vO (l:List Int) (aL:Int):List aG:=(vC (WR l aL) (WR l aL).length).out
section
variable {wa w w' : World} {out:List aG} {ws c4 eX:List Int} {A1 A2 A9:Option Addr} {c1 c2 c9:Nat}
end
end
section
open Go.RowKit
attribute [local go_sem ↓] Go.wp_at_zero Go.wp_at_succ
end
section
open Go.RowKit
attribute [local go_sem ↓] Go.wp_at_zero Go.wp_at_succ
def mixed (l:List Int) (which:Int):List aG:=
 if yo which 3=0 then uR l 12 else if yo which 3=1 then vz l 12 else vO l 12
/-! ### what the generated operations are -/
/-! ### Bent -/
end
section
open Go.RowKit
attribute [local go_sem ↓] Go.wp_at_zero Go.wp_at_succ
end
section
open Go.RowKit
theorem tG (k:Int) (h1:1≤k) (h2:k≤8):zQ Tryz.prog 34 [.int .i64 k] .sh (jA k):=by
 obtain rfl|rfl|rfl|rfl|rfl|rfl|rfl|rfl:k=1∨k=2∨k=3∨k=4∨k=5∨k=6∨k=7∨k=8:=by omega
 ·change zQ Tryz.prog 34 [.int .i64 1] .sh .nil;refine zj 16 Tryz.func34 Tryz.ntmps34 rfl ?_;change FW _ _ _ ⟨[(0,.int .i64 1)],[]⟩;refine za ?_;exact FW.ret ⟨.inl rfl,.sh (.cons (.tmp 2 rfl rfl) .nil) rfl rfl⟩
 ·change zQ Tryz.prog 34 [.int .i64 2] .sh (.list 1 [[.int .i64 0],[.int .i64 1]]);refine zj 16 Tryz.func34 Tryz.ntmps34 rfl ?_;change FW _ _ _ ⟨[(0,.int .i64 2)],[]⟩;refine za ?_;refine zw (es:=[[.int .i64 0],[.int .i64 1]]) rfl rfl rfl (by refine zY.int rfl rfl ?_;refine zY.int rfl rfl ?_;exact zY.nil) rfl rfl rfl rfl rfl ?_;refine za ?_;exact FW.ret ⟨.inl rfl,.sh (.cons (.tmp 2 rfl rfl) .nil) rfl rfl⟩
 ·change zQ Tryz.prog 34 [.int .i64 3] .sh (.list 1 [[.int .i64 0],[.int .i64 2]]);refine zj 16 Tryz.func34 Tryz.ntmps34 rfl ?_;change FW _ _ _ ⟨[(0,.int .i64 3)],[]⟩;refine za ?_;refine zw (es:=[[.int .i64 0],[.int .i64 2]]) rfl rfl rfl (by refine zY.int rfl rfl ?_;refine zY.int rfl rfl ?_;exact zY.nil) rfl rfl rfl rfl rfl ?_;refine za ?_;exact FW.ret ⟨.inl rfl,.sh (.cons (.tmp 2 rfl rfl) .nil) rfl rfl⟩
 ·change zQ Tryz.prog 34 [.int .i64 4] .sh (.list 1 [[.int .i64 0],[.int .i64 2]]);refine zj 16 Tryz.func34 Tryz.ntmps34 rfl ?_;change FW _ _ _ ⟨[(0,.int .i64 4)],[]⟩;refine za ?_;refine zw (es:=[[.int .i64 0],[.int .i64 2]]) rfl rfl rfl (by refine zY.int rfl rfl ?_;refine zY.int rfl rfl ?_;exact zY.nil) rfl rfl rfl rfl rfl ?_;refine za ?_;exact FW.ret ⟨.inl rfl,.sh (.cons (.tmp 2 rfl rfl) .nil) rfl rfl⟩
 ·change zQ Tryz.prog 34 [.int .i64 5] .sh (.list 1 [[.int .i64 0],[.int .i64 1]]);refine zj 16 Tryz.func34 Tryz.ntmps34 rfl ?_;change FW _ _ _ ⟨[(0,.int .i64 5)],[]⟩;refine za ?_;refine zw (es:=[[.int .i64 0],[.int .i64 1]]) rfl rfl rfl (by refine zY.int rfl rfl ?_;refine zY.int rfl rfl ?_;exact zY.nil) rfl rfl rfl rfl rfl ?_;refine za ?_;exact FW.ret ⟨.inl rfl,.sh (.cons (.tmp 2 rfl rfl) .nil) rfl rfl⟩
 ·change zQ Tryz.prog 34 [.int .i64 6] .sh (.list 1 [[.int .i64 0],[.int .i64 1]]);refine zj 16 Tryz.func34 Tryz.ntmps34 rfl ?_;change FW _ _ _ ⟨[(0,.int .i64 6)],[]⟩;refine za ?_;refine zw (es:=[[.int .i64 0],[.int .i64 1]]) rfl rfl rfl (by refine zY.int rfl rfl ?_;refine zY.int rfl rfl ?_;exact zY.nil) rfl rfl rfl rfl rfl ?_;refine za ?_;exact FW.ret ⟨.inl rfl,.sh (.cons (.tmp 2 rfl rfl) .nil) rfl rfl⟩
 ·change zQ Tryz.prog 34 [.int .i64 7] .sh (.list 1 [[.int .i64 3],[.int .i64 4]]);refine zj 16 Tryz.func34 Tryz.ntmps34 rfl ?_;change FW _ _ _ ⟨[(0,.int .i64 7)],[]⟩;refine za ?_;refine zw (es:=[[.int .i64 3],[.int .i64 4]]) rfl rfl rfl (by refine zY.int rfl rfl ?_;refine zY.int rfl rfl ?_;exact zY.nil) rfl rfl rfl rfl rfl ?_;refine za ?_;exact FW.ret ⟨.inl rfl,.sh (.cons (.tmp 2 rfl rfl) .nil) rfl rfl⟩
 ·change zQ Tryz.prog 34 [.int .i64 8] .sh .nil;refine zj 16 Tryz.func34 Tryz.ntmps34 rfl ?_;change FW _ _ _ ⟨[(0,.int .i64 8)],[]⟩;refine za ?_;exact FW.ret ⟨.inl rfl,.sh (.cons (.tmp 2 rfl rfl) .nil) rfl rfl⟩
/-! ### what the registers are -/
theorem Ws {c:Ctx} {fn:Func} {t:List (Nat×FV)} {ob:List (Nat×yb)} {d T id aa E sz c6:Nat} {kk:TK} {z cs:List FV} (hr:fn.results.toList=[.cell d T]) (h:look .undef t d=.ptr id aa 0 0) (hT:c.ty T=⟨kk,sz,c6,z⟩) (hk:kk.aQ = some true) (hp:0<sz) (hb:look {} ob id=⟨aa,.own,E,sz,[cs]⟩) (hl:cs.length=sz):gz c fn ⟨t,ob⟩ .sh (.agg cs):=by
 have bD : (⟨t,ob⟩:ab).ob id=⟨aa,.own,E,sz,[cs]⟩:=hb;have hc:=km.cell (c:=c) (s:=⟨t,ob⟩) d T (bb:=true) (by rw [hT];exact hk) (id:=id) (aa:=aa) (j:=0) (o:=0) h ⟨(fun e=>by (rw [bD] at e;cases e)),by rw [bD]⟩ (by rw [bD];rfl) (by rw [bD];exact Nat.one_pos) (by rw [bD,hT];simp) (by rw [bD];exact hp);have e:xB (c.ty T) ((((⟨t,ob⟩:ab).ob id).es.getD 0 []).drop 0)=.agg cs:=by
  rw [bD,hT];unfold xB;rw [hk];show FV.agg (cs.take sz)=_;rw [ya zc]
 rw [e] at hc;exact .sh (fs:=[.agg cs]) (by rw [hr];exact .cons hc .nil) rfl rfl
theorem UY (n:Int) (m:Nat) (hm:0<m):∃ k:Nat,yo n m=k∧k<m:=⟨(yo n m).toNat,by have:=XP (n:=n) (aL:=m) zc;omega,by have:=XP (n:=n) (aL:=m) zc;have:=VU (n:=n) (aL:=m) zc;omega⟩
def kO (k:Int) (n:Nat):Int:=if (yo k 1000).tmod 29=7∨(n:Int)<1 then (yo k 1000).tmod ((n:Int)+2) - 1 else (yo k 1000).tmod n
theorem sI (k:Int) (n:Nat) (hk:bq k) (hn:n≤1000):zQ Tryz.prog 18 [.int .i64 k,.int .i64 n] .fr (.int .i64 (kO k n)):=by
 have h1:=XQ k 1000 hk zb zb;obtain ⟨m,hm,ji⟩:=UY k 1000 zb;have hm:yo k 1000=(m:Int):=hm;unfold kO;rw [hm] at h1 ⊢;have b2:-1≤(m:Int).tmod ((n:Int)+2)∧(m:Int).tmod ((n:Int)+2)≤100000:=by
  rw [pB zc];have h:=Int.emod_nonneg (m:Int) (b:=(n:Int)+2) zc;have h':=Int.emod_lt_of_pos (m:Int) (b:=(n:Int)+2) zc;omega
 generalize h2:(m:Int).tmod ((n:Int)+2)=q2 at b2 ⊢;generalize h3:(m:Int).tmod (n:Int)=q3 at ⊢;generalize h4:(m:Int).tmod 29=q1 at ⊢;refine zj 23 Tryz.func18 Tryz.ntmps18 rfl ?_;change FW _ _ _ ⟨[(0,.int .i64 k),(1,.int .i64 n)],[]⟩;refine za ?_;refine zy h1 (by repeat (first|exact zh.nil|refine zh.cons zi ?_)) rfl rfl ?_;refine Zk ?_;refine zu.aj (Vt rfl rfl zb) rfl rfl ?_;rw [h4];refine Zk ?_;refine yd (fun h5=>?_) (fun h5=>?_)
 ·rw [if_pos (.inl (of_decide_eq_true h5))];refine Zk ?_;refine zu.aj (Vt rfl rfl zc) rfl rfl ?_;rw [h2];refine Zk ?_;exact FW.ret ⟨.inl rfl,zg rfl rfl rfl rfl⟩
 ·refine Zk ?_;refine FW.cond rfl (fun h6=>?_) (fun h6=>?_)
  ·have h6:decide ((n:Int)<1)=true:=h6;rw [if_pos (.inr (of_decide_eq_true h6))];refine Zk ?_;refine zu.aj (Vt rfl rfl zc) rfl rfl ?_;rw [h2];refine Zk ?_;exact FW.ret ⟨.inl rfl,zg rfl rfl rfl rfl⟩
  ·have h6:decide ((n:Int)<1)=false:=h6;have h6:=of_decide_eq_false h6;rw [if_neg (fun h=>by rcases h with h|h;exact of_decide_eq_false h5 h;exact h6 h)];refine Zk ?_;refine zu.aj (Vt rfl rfl zc) rfl rfl ?_;rw [h3];refine Zk ?_;exact FW.ret ⟨.inl rfl,zg rfl rfl rfl rfl⟩
def UB (l:List Int) (n:Nat):List Int:=(l.take 12).map fun k=>kO k n
theorem tX {l:List Int} {n:Nat}:UB l n=[]↔l=[]:=by
 unfold UB;cases l with
 | nil => simp
 | cons a l => simp
theorem s4 (l:List Int) (n:Nat) (hl:∀ x∈l,bq x) (hlen:l.length≤9223372036854775807) (hn:n≤1000):zQ Tryz.prog 7 [.list 1 (l.map yw),.nil,.int .i64 n] .sh (.agg [bT (UB l n),.nil]):=by
 by_cases ma:l=[]
 ·subst ma;show zQ Tryz.prog 7 [.list 1 [],.nil,.int .i64 n] .sh (.agg [.nil,.nil]);refine zj 69 Tryz.func7 Tryz.ntmps7 rfl ?_;change FW _ _ _ ⟨[(0,.list 1 []),(1,.nil),(2,.int .i64 n)],[]⟩;refine za ?_;refine FW.loop (fun _:Unit=>⟨[(0,.list 1 []),(1,.nil),(6,.ptr 106 0 0 0),(7,.ptr 107 0 0 0),(8,.int .i64 0)],[(106,⟨0,.own,40,2,[[.nil,.nil]]⟩),(107,⟨0,.own,40,2,[[.nil,.nil]]⟩)]⟩) (fun _=>True) (fun _=>0) () trivial ?_ ?_
  ·exact (aC.cv [⟨106,some 6,1,⟨0,.own,40,2,[[.nil,.nil]]⟩⟩,⟨107,some 7,1,⟨0,.own,40,2,[[.nil,.nil]]⟩⟩] zn zt)
  intro _ _;refine za ?_;refine FW.loop (fun _:Unit=>⟨[(0,.list 1 []),(1,.nil),(6,.ptr 106 0 0 0),(7,.ptr 107 0 0 0),(9,.int .i64 0)],[(106,⟨0,.own,40,2,[[.nil,.nil]]⟩),(107,⟨0,.own,40,2,[[.nil,.nil]]⟩)]⟩) (fun _=>True) (fun _=>0) () trivial ?_ ?_
  ·exact (aC.cv [⟨106,some 106,0,⟨0,.own,40,2,[[.nil,.nil]]⟩⟩,⟨107,some 107,0,⟨0,.own,40,2,[[.nil,.nil]]⟩⟩] zn zt)
  intro _ _;refine za ?_;exact FW.ret ⟨.inl rfl,Ws rfl rfl rfl rfl zb rfl rfl⟩
 ·have kq:(UB l n).length=min 12 l.length:=by unfold UB;rw [zx,zT]
  have gH:∀ i,i<(UB l n).length→(UB l n).take (i+1)=(UB l n).take i++[kO (nth l i) n]:=fun i hi=>by
   have h2:i<l.length:=by rw [kq] at hi;omega
   have e:(UB l n)[i]=kO (nth l i) n:=by simp only [UB,List.getElem_map,List.getElem_take,Zc h2]
   rw [Zj hi,e]
  have fB:UB l n≠[]:=fun e=>ma (tX.1 e);have cn:bT (UB l n)=.list 1 ((UB l n).map yw):=by unfold bT;rw [if_neg fB]
  rw [cn];obtain ⟨O,hO⟩:∃ O,UB l n=O:=⟨_,rfl⟩
  rw [hO] at kq gH ⊢;clear fB cn hO;refine zj 69 Tryz.func7 Tryz.ntmps7 rfl ?_;change FW _ _ _ ⟨[(0,.list 1 (l.map yw)),(1,.nil),(2,.int .i64 n)],[]⟩;refine za ?_;refine FW.le ?_ (aC.pA (i:=7) rfl);refine FW.loop (fun i:Nat=>⟨[(0,.list 1 (l.map yw)),(1,.nil),(2,.int .i64 n),(6,.ptr 106 0 0 0),(7,.ptr 107 0 0 0),(8,.int .i64 i)],[(106,⟨0,.own,40,2,[[.nil,.nil]]⟩),(107,⟨0,.aw,40,2,[[.own 105 0 0 (O.take i).length,.nil]]⟩),(105,⟨0,.own,3,1,(O.take i).map yw⟩)]⟩) (fun i=>i≤O.length) (fun i=>O.length - i) 0 (zN _) ?_ ?_
  ·show aC _ ⟨[(0,.list 1 (l.map yw)),(1,.nil),(2,.int .i64 n),(6,.ptr 106 0 0 0),(7,.ptr 107 0 0 0),(8,.int .i64 0)],[(106,⟨0,.own,40,2,[[.nil,.nil]]⟩),(107,⟨0,.aw,40,2,[[.own 105 0 0 0,.nil]]⟩),(105,⟨0,.own,3,1,[]⟩)]⟩;exact (aC.cv [⟨106,some 6,1,⟨0,.own,40,2,[[.nil,.nil]]⟩⟩,⟨107,some 7,1,⟨0,.aw,40,2,[[.own 105 0 0 0,.nil]]⟩⟩,⟨105,none,0,⟨0,.own,3,1,[]⟩⟩] zn zt)
  intro i hi;have iG:(O.take i).length=i:=by rw [zT];omega
  have dH:i=O.length→O.take i=O:=fun e=>by rw [e,ZO]
  have gH:=gH i;generalize O.take i=A at iG gH dH;refine za ?_;refine yd (fun h=>?_) (fun h=>?_)
  ·have aM:i<l.length:=by simpa using h
   rw [h];clear h;refine za ?_;refine FW.cond rfl (fun h=>?_) (fun h=>?_)
   ·have h:decide ((i:Int)<12)=true:=h;have we:i<12:=by have:=of_decide_eq_true h;omega
    clear h;have gH:=gH zc;have hx:=hl _ (Ym aM);obtain ⟨x,j2⟩:∃ x,nth l i=x:=⟨_,rfl⟩
    rw [j2] at gH hx;have lz:=sI x n hx hn;generalize kO x n=y at lz gH;refine yp ?_;refine UE rfl rfl rfl rfl rfl rfl rfl ?_;refine zp ?_;rw [j2];skip;refine xT lz (by repeat (first|exact zh.nil|refine zh.cons zi ?_)) rfl rfl ?_;refine zp ?_;refine WX (d:=0) rfl rfl ⟨_,_,_,rfl⟩ (yz rfl zb) (fun i v n e=>by injection e with e1 e2 e3 e4;subst e1;subst e2;exact yz rfl zb) rfl rfl rfl rfl (by show 0<2;decide) rfl rfl ?_;refine zB.nil ⟨by kernel_rfl,?_⟩;refine za ?_;refine ⟨i+1,by omega,by omega,?_⟩;rw [gH,show (A++[y]).length=A.length+1 by simp,xM];exact (aC.cv [⟨106,some 106,0,⟨0,.own,40,2,[[.nil,.nil]]⟩⟩,⟨107,some 107,0,⟨0,.aw,40,2,[[.own 105 0 0 (A.length+1),.nil]]⟩⟩,⟨105,some 29,0+1,⟨0,.own,3,1,A.map yw++[y].map yw⟩⟩] zn zt)
   ·have h:decide ((i:Int)<12)=false:=h;have he:i=O.length:=by have:=of_decide_eq_false h;omega
    rw [dH he];clear gH;refine za ?_;refine FW.le ?_ (aC.e9 (r:=[.own 105 0 0 O.length,.nil]) (es:=O.map yw) 107 105 0 zb rfl rfl (by show some _=some _;rw [zx]) rfl rfl);refine FW.loop (fun _:Unit=>⟨[(1,.nil),(6,.ptr 106 0 0 0),(7,.ptr 107 0 0 0),(9,.int .i64 0)],[(106,⟨0,.own,40,2,[[.nil,.nil]]⟩),(107,⟨0,.own,40,2,[[.list 1 (O.map yw),.nil]]⟩)]⟩) (fun _=>True) (fun _=>0) () trivial ?_ ?_
    ·exact (aC.cv [⟨106,some 106,0,⟨0,.own,40,2,[[.nil,.nil]]⟩⟩,⟨107,some 107,0,⟨0,.own,40,2,[[.list 1 (O.map yw),.nil]]⟩⟩] zn zt)
    intro _ _;refine za ?_;exact FW.ret ⟨.inl rfl,Ws rfl rfl rfl rfl zb rfl rfl⟩
  ·have he:i=O.length:=by simp at h;omega
   rw [h,dH he];clear gH;refine za ?_;refine FW.le ?_ (aC.e9 (r:=[.own 105 0 0 O.length,.nil]) (es:=O.map yw) 107 105 0 zb rfl rfl (by show some _=some _;rw [zx]) rfl rfl);refine FW.loop (fun _:Unit=>⟨[(1,.nil),(6,.ptr 106 0 0 0),(7,.ptr 107 0 0 0),(9,.int .i64 0)],[(106,⟨0,.own,40,2,[[.nil,.nil]]⟩),(107,⟨0,.own,40,2,[[.list 1 (O.map yw),.nil]]⟩)]⟩) (fun _=>True) (fun _=>0) () trivial ?_ ?_
   ·exact (aC.cv [⟨106,some 106,0,⟨0,.own,40,2,[[.nil,.nil]]⟩⟩,⟨107,some 107,0,⟨0,.own,40,2,[[.list 1 (O.map yw),.nil]]⟩⟩] zn zt)
   intro _ _;refine za ?_;exact FW.ret ⟨.inl rfl,Ws rfl rfl rfl rfl zb rfl rfl⟩
end
end Go.Proofs.YtedkppfghdipdaaGreatDoor
