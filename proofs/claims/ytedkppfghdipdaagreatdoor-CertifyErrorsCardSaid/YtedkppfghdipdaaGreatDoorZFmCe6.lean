/-
  Lemmas, in parts.
-/
import Derived.Test.YtedkppfghdipdaaGreatDoorZFmKm
import Derived.Test.YtedkppfghdipdaaGreatDoorZC
import Derived.Deep.RegionHeld3
import Derived.Deep.DrawnRows
import Derived.Deep.DeepCutAuto
namespace Go.Proofs.YtedkppfghdipdaaGreatDoor
set_option linter.unusedVariables false
set_option maxHeartbeats 16000000
variable {base cK i k sz:Nat} {l:List aj} {o:aj} {w:World} {v:Value} {xs:List Value} {ae:Int} {A:Option Addr} {P:Program}
section
open Go.RowKit
theorem DJ {c:Ctx} {fn:Func} {t:List (Nat×FV)} {ob:List (Nat×yo)} {d T id aa E:Nat} {kk:TK} {z cs:List FV} (hr:fn.results.toList=[.cell d T]) (h:look .undef t d=.ptr id aa 0 0) (hT:c.ty T=⟨kk,sz,cK,z⟩) (hk:kk.aW = some true) (hp:0<sz) (hb:look {} ob id=⟨aa,.own,E,sz,[cs]⟩) (hl:cs.length=sz) (hf:(FV.agg cs).flat=true):ki c fn ⟨t,ob⟩ .fr (.agg cs):=by
 have bP : (⟨t,ob⟩:ab).ob id=⟨aa,.own,E,sz,[cs]⟩:=hb;have hc:=nh.cell (c:=c) (s:=⟨t,ob⟩) d T (bb:=true) (by rw [hT];exact hk) (id:=id) (aa:=aa) (j:=0) (o:=0) h ⟨(fun e=>by (rw [bP] at e;cases e)),by rw [bP]⟩ (by rw [bP];rfl) (by rw [bP];exact Nat.one_pos) (by rw [bP,hT];simp) (by rw [bP];exact hp);have e:Zn (c.ty T) ((((⟨t,ob⟩:ab).ob id).es.getD 0 []).drop 0)=.agg cs:=by
  rw [bP,hT];unfold Zn;rw [hk];show FV.agg (cs.take sz)=_;rw [yO za]
 rw [e] at hc;exact .flat (fs:=[.agg cs]) (by rw [hr];exact .cons hc .nil) rfl hf
theorem Yn (x:ch) (od:FV) (fD:oV od) (l:List aj) (eA:x.ops=l.map aj.fv) (i:Nat) (hi:i<l.length):zX Tryz.prog 91 [x.x od,.int .i64 i] .fr (.agg (nth l i).fv):=by
 have hA:=x.one fD;rw [eA] at hA;unfold ch.x;rw [eA];refine zt 11 Tryz.func91 Tryz.ntmps91 rfl ?_;change FW _ _ _ ⟨[(0,_),(1,_)],[]⟩
 (repeat (first|refine FW.seq ?_|refine FW.region ?_))
 refine zx.cC (Yd rfl rfl hA rfl rfl) rfl rfl ?_;refine zb ?_;exact FW.ret ⟨.inl rfl,DJ rfl rfl rfl rfl zc rfl rfl rfl⟩
theorem Bo (x:ch) (od:FV) (fD:oV od) (l:List aj) (eA:x.ops=l.map aj.fv) (hl:l.length≤1000000) (i k:Int):zX Tryz.prog 88 [x.x od,.int .i64 i,.int .i64 k] .fr (.bool (kv l i k)):=by
 have hb:=AY l i k za;generalize kv l i k=B at hb ⊢;have hA:=x.one fD;rw [eA] at hA;unfold ch.x;rw [eA];refine zt 13 Tryz.func88 Tryz.ntmps88 rfl ?_;change FW _ _ _ ⟨[(0,_),(1,_),(2,_)],[]⟩
 (repeat (first|refine FW.seq ?_|refine FW.region ?_))
 refine zx.cC (Yd rfl rfl hA rfl rfl) rfl rfl ?_;refine zb ?_;refine zB hb (by repeat (first|exact zi.nil|refine zi.cons zj ?_)) rfl rfl ?_;refine zb ?_;exact FW.ret ⟨.inl rfl,zm rfl rfl rfl rfl⟩
theorem Ut (x:ch) (od:FV) (fD:oV od) (l:List aj) (eA:x.ops=l.map aj.fv) (i:Nat) (hi:i<l.length):zX Tryz.prog 89 [x.x od,.int .i64 i] .fr (.bool (decide (x.ar=(nth l i).key))):=by
 have bM:=Yn x od fD l eA i hi;generalize nth l i=o at bM ⊢;have hA:=x.one fD;unfold ch.x at bM ⊢;refine zt 13 Tryz.func89 Tryz.ntmps89 rfl ?_;change FW _ _ _ ⟨[(0,_),(1,_)],[]⟩
 (repeat (first|refine FW.seq ?_|refine FW.region ?_))
 refine zx.cC (Yd rfl rfl hA rfl rfl) rfl rfl ?_;refine xb ?_;refine YY bM (by repeat (first|exact zi.nil|refine zi.cons zj ?_)) rfl rfl ?_;skip;refine DE rfl rfl rfl rfl rfl rfl rfl rfl ?_;refine zq ?_;refine ⟨by kernel_rfl,?_⟩;skip;exact FW.ret ⟨.inl rfl,zm rfl rfl rfl rfl⟩
theorem Vo (x:ch) (od:FV) (fD:oV od) (l:List aj) (eA:x.ops=l.map aj.fv) (hl:l.length≤1000000) (i k:Nat) (hi:i<l.length) (hk:k<l.length):zX Tryz.prog 90 [x.x od,.agg [.int .i64 i,.int .i64 k,.int .i64 5]] .fr (.bool (kv l i k)):=by
 have h1:=Yn x od fD l eA i hi;have h2:=Yn x od fD l eA k hk;have hb:=Bo x od fD l eA hl i k;generalize nth l i=o1 at h1;generalize nth l k=o2 at h2;generalize kv l i k=B at hb ⊢;have hA:=x.one fD;unfold ch.x at h1 h2 hb ⊢;refine zt 81 Tryz.func90 Tryz.ntmps90 rfl ?_;change FW _ _ _ ⟨[(0,_),(1,_)],[]⟩
 (repeat (first|refine FW.seq ?_|refine FW.region ?_))
 refine zx.cC (Yd rfl rfl hA rfl rfl) rfl rfl ?_;refine xb ?_;refine YY h1 (by repeat (first|exact zi.nil|refine zi.cons zj ?_)) rfl rfl ?_;refine zq ?_;refine YY h2 (by repeat (first|exact zi.nil|refine zi.cons zj ?_)) rfl rfl ?_;refine zq ?_;refine ⟨by kernel_rfl,?_⟩;refine zb ?_;refine zB hb (by repeat (first|exact zi.nil|refine zi.cons zj ?_)) rfl rfl ?_;refine zb ?_;exact FW.ret ⟨.inl rfl,zm rfl rfl rfl rfl⟩
def Ya:List aj:=[⟨0,1,0,1,0,0,1,true⟩,⟨1,0,0,0,0,2,3,true⟩]
def xS:ch:={ k:=2,ops:=Ya.map aj.fv,cl:=4,ed:=[[.int .i64 0,.int .i64 1,.int .i64 5]] }
def xH:ch:={ k:=2,ops:=Ya.map aj.fv,cl:=0 }
def mF:FV:=.list 1 [[.int .i64 0],[.int .i64 1]]
theorem Cj:zX Tryz.prog 44 ([xS.x .nil]++[]) .fr (.bool true):=by
 have h0:=Yn xS .nil rfl Ya rfl 0 zc;have h1:=Yn xS .nil rfl Ya rfl 1 zc;have hj:=Vo xS .nil rfl Ya rfl zc 0 1 zc zc;rw [show kv Ya ((0:Nat):Int) ((1:Nat):Int)=true by decide] at hj;have k0:=Ut xS .nil rfl Ya rfl 0 zc;have k1:=Ut xS .nil rfl Ya rfl 1 zc;have w0:=Xd (nth Ya 0);have o1:=ZS (nth Ya 1);simp only [ch.x,xS] at h0 h1 hj k0 k1 ⊢;refine zt 85 Tryz.func44 Tryz.ntmps44 rfl ?_;change FW _ _ _ ⟨[(0,_)],[]⟩;refine zb ?_;refine FW.loop (fun i:Nat=>⟨[(1,.ptr 101 0 0 0),(3,.ptr 103 0 0 0),(12,.list 3 [[.int .i64 0,.int .i64 1,.int .i64 5]]),(13,.int .i64 1),(14,.int .i64 (i:Nat))],[(101,⟨0,.own,64,15,[[.int .i64 2,.int .i64 0,.int .i64 0,.int .i64 0,.int .i64 0,.int .i64 0,.list 5 [],.list 8 (Ya.map aj.fv),.list 1 [],.list 4 [],.int .i64 2,.int .i64 4,.int .i64 0,.nil,.list 3 [[.int .i64 0,.int .i64 1,.int .i64 5]]]]⟩),(103,⟨0,.own,38,1,[[.list 3 [[.int .i64 0,.int .i64 1,.int .i64 5]]]]⟩)]⟩) (fun i=>i≤1) (fun i=>1 - i) 0 zc ?_ ?_
 ·exact (aL.cv [⟨101,some 1,1,⟨0,.own,64,15,[[.int .i64 2,.int .i64 0,.int .i64 0,.int .i64 0,.int .i64 0,.int .i64 0,.list 5 [],.list 8 (Ya.map aj.fv),.list 1 [],.list 4 [],.int .i64 2,.int .i64 4,.int .i64 0,.nil,.list 3 [[.int .i64 0,.int .i64 1,.int .i64 5]]]]⟩⟩,⟨103,some 3,1,⟨0,.own,38,1,[[.list 3 [[.int .i64 0,.int .i64 1,.int .i64 5]]]]⟩⟩] zw zu)
 intro i hi;obtain rfl|rfl:i=0∨i=1:=by omega
 ·refine zb ?_;refine zB hj (by repeat (first|exact zi.nil|refine zi.cons zj ?_)) rfl ⟨_,_,rfl,rfl,rfl⟩ ?_;refine zb ?_;refine zB k0 (by repeat (first|exact zi.nil|refine zi.cons zj ?_)) rfl ⟨_,_,rfl,rfl,rfl⟩ ?_;refine zb ?_;refine zB k1 (by repeat (first|exact zi.nil|refine zi.cons zj ?_)) rfl ⟨_,_,rfl,rfl,rfl⟩ ?_;refine zb ?_;refine ⟨1,by decide,by decide,?_⟩;exact (aL.cv [⟨101,some 101,0,⟨0,.own,64,15,[[.int .i64 2,.int .i64 0,.int .i64 0,.int .i64 0,.int .i64 0,.int .i64 0,.list 5 [],.list 8 (Ya.map aj.fv),.list 1 [],.list 4 [],.int .i64 2,.int .i64 4,.int .i64 0,.nil,.list 3 [[.int .i64 0,.int .i64 1,.int .i64 5]]]]⟩⟩,⟨103,some 103,0,⟨0,.own,38,1,[[.list 3 [[.int .i64 0,.int .i64 1,.int .i64 5]]]]⟩⟩] zw zu)
 ·refine xb ?_;refine YY h0 (by repeat (first|exact zi.nil|refine zi.cons zj ?_)) rfl rfl ?_;refine zq ?_;refine YY h1 (by repeat (first|exact zi.nil|refine zi.cons zj ?_)) rfl rfl ?_;refine zq ?_;refine ⟨by kernel_rfl,?_⟩;refine zb ?_;refine zB o1 (by repeat (first|exact zi.nil|refine zi.cons zj ?_)) rfl rfl ?_;refine zb ?_;refine zB w0 (by repeat (first|exact zi.nil|refine zi.cons zj ?_)) rfl ⟨_,_,rfl,rfl,rfl⟩ ?_;refine zb ?_;exact FW.ret ⟨.inl rfl,zm rfl rfl rfl rfl⟩
theorem vw:Maps.Keyed Tryz.prog 3:=Maps.int_keyed (q:=.i64) zp
theorem sj {a:Int} (ha:aT a):YH Tryz.prog 3 (.int .i64 a):=⟨rfl,_,Maps.keyOf_int_mk (q:=.i64) zp (oM ha)⟩
def lL:FV:=.agg [.int .i64 2,.int .i64 0,.int .i64 0,.int .i64 0,.int .i64 0,.int .i64 0,.list 5 [],.list 8 (Ya.map aj.fv),.list 1 [],.list 4 [],.int .i64 2,.int .i64 0,.int .i64 0,.list 1 [[.int .i64 0],[.int .i64 1]],.list 3 []]
theorem vz:xH.x mF=lL:=rfl
theorem um (i:Nat) (hi:i<2):zX Tryz.prog 117 ([.int .i64 i]++[(.aK 15 [[.int .i64 2,.int .i64 0,.int .i64 0,.int .i64 0,.int .i64 0,.int .i64 0,.list 5 [],.list 8 (Ya.map aj.fv),.list 1 [],.list 4 [],.int .i64 2,.int .i64 0,.int .i64 0,.list 1 [[.int .i64 0],[.int .i64 1]],.list 3 []]] 0 0)]) .fr (.bool true):=by
 have bM:=Yn xH mF rfl Ya rfl i hi;have hd:(nth Ya i).done=true:=by
  obtain rfl|rfl:i=0∨i=1:=by omega
  ·rfl
  ·rfl
 generalize nth Ya i=o at bM hd;rw [vz] at bM;unfold lL at bM;refine zt 8 Tryz.func117 Tryz.ntmps117 rfl ?_;change FW _ _ _ ⟨[(0,_),(1,_)],[]⟩;refine zb ?_;refine zB bM (by repeat (first|exact zi.nil|refine zi.cons zj ?_)) rfl rfl ?_;refine DK rfl rfl rfl rfl rfl rfl rfl rfl ?_;refine zb ?_;exact FW.ret ⟨.inl rfl,zm rfl rfl (congrArg FV.bool hd) rfl⟩
theorem AM:zX Tryz.prog 102 [lL,(.fn 117 [(.aK 15 [[.int .i64 2,.int .i64 0,.int .i64 0,.int .i64 0,.int .i64 0,.int .i64 0,.list 5 [],.list 8 (Ya.map aj.fv),.list 1 [],.list 4 [],.int .i64 2,.int .i64 0,.int .i64 0,.list 1 [[.int .i64 0],[.int .i64 1]],.list 3 []]] 0 0)]),(.fn 118 [(.aK 15 [[.int .i64 2,.int .i64 0,.int .i64 0,.int .i64 0,.int .i64 0,.int .i64 0,.list 5 [],.list 8 (Ya.map aj.fv),.list 1 [],.list 4 [],.int .i64 2,.int .i64 0,.int .i64 0,.list 1 [[.int .i64 0],[.int .i64 1]],.list 3 []]] 0 0)])] .fr (.bool true):=by
 have s0:=um 0 zc;have s1:=um 1 zc;unfold lL;refine zt 68 Tryz.func102 Tryz.ntmps102 rfl ?_;change FW _ _ _ ⟨[(0,_),(1,_),(2,_)],[]⟩;refine zb ?_;refine zx.cC (DV (n:=2) rfl rfl rfl rfl rfl rfl rfl rfl zc zc rfl) rfl rfl ?_;refine zb ?_;refine FW.loop (fun p:Nat×List (List FV)=>⟨[(1,(.fn 117 [(.aK 15 [[.int .i64 2,.int .i64 0,.int .i64 0,.int .i64 0,.int .i64 0,.int .i64 0,.list 5 [],.list 8 (Ya.map aj.fv),.list 1 [],.list 4 [],.int .i64 2,.int .i64 0,.int .i64 0,.list 1 [[.int .i64 0],[.int .i64 1]],.list 3 []]] 0 0)])),(2,(.fn 118 [(.aK 15 [[.int .i64 2,.int .i64 0,.int .i64 0,.int .i64 0,.int .i64 0,.int .i64 0,.list 5 [],.list 8 (Ya.map aj.fv),.list 1 [],.list 4 [],.int .i64 2,.int .i64 0,.int .i64 0,.list 1 [[.int .i64 0],[.int .i64 1]],.list 3 []]] 0 0)])),(7,.own 100 0 0 2),(20,.list 1 [[.int .i64 0],[.int .i64 1]]),(21,.int .i64 2),(22,.int .i64 (p.1:Nat))],[(100,⟨0,.own,3,1,p.2⟩)]⟩) (fun p=>p=(0,[[.int .i64 0],[.int .i64 0]])∨p=(1,[[.int .i64 1],[.int .i64 0]])∨p=(2,[[.int .i64 1],[.int .i64 1]])) (fun p=>2 - p.1) (0,[[.int .i64 0],[.int .i64 0]]) (.inl rfl) ?_ ?_
 ·exact (aL.cv [⟨100,some 16,1,⟨0,.own,3,1,[[.int .i64 0],[.int .i64 0]]⟩⟩] zw zu)
 rintro _ (rfl|rfl|rfl)
 ·refine zb ?_;refine ⟨(1,[[.int .i64 1],[.int .i64 0]]),.inr (.inl rfl),(by show 2 - 1<2 - 0;decide),?_⟩;exact (aL.cv [⟨100,some 100,0,⟨0,.own,3,1,[[.int .i64 1],[.int .i64 0]]⟩⟩] zw zu)
 ·refine zb ?_;refine ⟨(2,[[.int .i64 1],[.int .i64 1]]),.inr (.inr rfl),(by show 2 - 2<2 - 1;decide),?_⟩;exact (aL.cv [⟨100,some 100,0,⟨0,.own,3,1,[[.int .i64 1],[.int .i64 1]]⟩⟩] zw zu)
 ·refine zb ?_;refine FW.loop (fun i:Nat=>⟨[(1,(.fn 117 [(.aK 15 [[.int .i64 2,.int .i64 0,.int .i64 0,.int .i64 0,.int .i64 0,.int .i64 0,.list 5 [],.list 8 (Ya.map aj.fv),.list 1 [],.list 4 [],.int .i64 2,.int .i64 0,.int .i64 0,.list 1 [[.int .i64 0],[.int .i64 1]],.list 3 []]] 0 0)])),(2,(.fn 118 [(.aK 15 [[.int .i64 2,.int .i64 0,.int .i64 0,.int .i64 0,.int .i64 0,.int .i64 0,.list 5 [],.list 8 (Ya.map aj.fv),.list 1 [],.list 4 [],.int .i64 2,.int .i64 0,.int .i64 0,.list 1 [[.int .i64 0],[.int .i64 1]],.list 3 []]] 0 0)])),(33,.own 100 0 0 2),(34,.int .i64 2),(35,.int .i64 (i:Nat))],[(100,⟨0,.own,3,1,[[.int .i64 1],[.int .i64 1]]⟩)]⟩) (fun i=>i≤2) (fun i=>2 - i) 0 zc ?_ ?_
  ·exact (aL.cv [⟨100,some 100,0,⟨0,.own,3,1,[[.int .i64 1],[.int .i64 1]]⟩⟩] zw zu)
  intro i hi;obtain rfl|rfl|rfl:i=0∨i=1∨i=2:=by omega
  ·refine zb ?_;refine XJ rfl s0 (by repeat (first|exact zi.nil|refine zi.cons zj ?_)) rfl ⟨_,_,rfl,rfl,rfl⟩ ?_;refine zb ?_;refine ⟨1,by decide,by decide,?_⟩;exact (aL.cv [⟨100,some 100,0,⟨0,.own,3,1,[[.int .i64 1],[.int .i64 1]]⟩⟩] zw zu)
  ·refine zb ?_;refine XJ rfl s1 (by repeat (first|exact zi.nil|refine zi.cons zj ?_)) rfl ⟨_,_,rfl,rfl,rfl⟩ ?_;refine zb ?_;refine ⟨2,by decide,by decide,?_⟩;exact (aL.cv [⟨100,some 100,0,⟨0,.own,3,1,[[.int .i64 1],[.int .i64 1]]⟩⟩] zw zu)
  ·refine zb ?_;exact FW.ret ⟨.inl rfl,zm rfl rfl rfl rfl⟩
theorem DO:zX Tryz.prog 64 ([lL]++[]) .fr (.bool false):=by
 have qG:=AM;have p0:=Yn xH mF rfl Ya rfl 0 zc;have p1:=Yn xH mF rfl Ya rfl 1 zc;have w0:=Xd (nth Ya 0);have o0:=ZS (nth Ya 0);have o1:=ZS (nth Ya 1);have hc:=fun aO=>xA [] 119 aO (fun _=>true) zc (fun o h=>by cases h);rw [vz] at p0 p1;unfold lL at qG p0 p1 ⊢;refine zt 69 Tryz.func64 Tryz.ntmps64 rfl ?_;change FW _ _ _ ⟨[(0,_)],[]⟩
 (repeat (first|refine FW.seq ?_|refine FW.region ?_|refine zx.nil ?_|refine zx.cC (Yd rfl rfl rfl rfl rfl) rfl rfl ?_|refine zx.aq (Za rfl) rfl rfl ?_))
 refine zx.le ?_ (aL.bE 1 rfl rfl);refine zb ?_;refine zB qG (by repeat (first|exact zi.nil|refine zi.cons zj ?_)) rfl ⟨_,_,rfl,rfl,rfl⟩ ?_;refine zb ?_;refine FW.loop (fun p:Nat×List (List FV)=>⟨[(1,(.aK 15 [[.int .i64 2,.int .i64 0,.int .i64 0,.int .i64 0,.int .i64 0,.int .i64 0,.list 5 [],.list 8 (Ya.map aj.fv),.list 1 [],.list 4 [],.int .i64 2,.int .i64 0,.int .i64 0,.list 1 [[.int .i64 0],[.int .i64 1]],.list 3 []]] 0 0)),(5,.omap 100 0),(26,.list 1 [[.int .i64 0],[.int .i64 1]]),(27,.int .i64 2),(28,.int .i64 (p.1:Nat))],[(100,⟨0,.bc,137,0,p.2⟩)]⟩) (fun p=>p=(0,[])∨p=(1,[[.int .i64 0,.int .i64 1]])) (fun p=>2 - p.1) (0,[]) (.inl rfl) ?_ ?_
 ·exact (aL.cv [⟨100,some 22,1,⟨0,.bc,137,0,[]⟩⟩] zw zu)
 rintro _ (rfl|rfl)
 ·refine zb ?_;refine zB p0 (by repeat (first|exact zi.nil|refine zi.cons zj ?_)) rfl rfl ?_;refine zb ?_;refine zB o0 (by repeat (first|exact zi.nil|refine zi.cons zj ?_)) rfl rfl ?_;refine zb ?_;refine zB w0 (by repeat (first|exact zi.nil|refine zi.cons zj ?_)) rfl rfl ?_;refine zb ?_;refine xi vw (es:=[]) (fun row h=>by cases h) (sj (a:=0) zc) (.inr ⟨(fun row h=>by cases h),rfl⟩) rfl rfl rfl rfl rfl rfl rfl ?_
  (repeat (first|refine FW.seq ?_|refine FW.region ?_|refine zx.nil ?_|refine zx.aq (Zx rfl rfl rfl rfl rfl) rfl rfl ?_|refine zx.aq (ZN rfl rfl rfl (by first|omega|(simp;done)) rfl rfl rfl) rfl rfl ?_|refine zx.aq (pF rfl rfl) rfl rfl ?_|refine zx.aq (ZO rfl) rfl rfl ?_|refine zx.aq (ZN rfl rfl rfl (by first|omega|(simp;done)) rfl rfl rfl) rfl ⟨_,_,rfl,rfl,rfl⟩ ?_|refine zx.aq (ZO rfl) rfl ⟨_,_,rfl,rfl,rfl⟩ ?_|refine zx.aq (Zx rfl rfl rfl rfl rfl) rfl ⟨_,_,rfl,rfl,rfl⟩ ?_|refine zx.aq (CC rfl rfl rfl rfl (by exact lQ.none) (by exact lO.some rfl) (by first|omega|(simp;done)) (by first|omega|(simp;done))) rfl ⟨_,_,rfl,rfl,rfl⟩ ?_))
  refine zx.le ?_ (aL.bE 7 rfl rfl);refine zb ?_;refine zB (hc [(.aK 15 [[.int .i64 2,.int .i64 0,.int .i64 0,.int .i64 0,.int .i64 0,.int .i64 0,.list 5 [],.list 8 (Ya.map aj.fv),.list 1 [],.list 4 [],.int .i64 2,.int .i64 0,.int .i64 0,.list 1 [[.int .i64 0],[.int .i64 1]],.list 3 []]] 0 0),.aK 1 [[.int .i64 0]] 0 0]) (by repeat (first|exact zi.nil|refine zi.cons zj ?_)) rfl ⟨_,_,rfl,rfl,rfl⟩ ?_;refine zb ?_;refine ⟨(1,[[.int .i64 0,.int .i64 1]]),.inr rfl,(by show 2 - 1<2 - 0;decide),?_⟩;exact (aL.cv [⟨100,some 100,0,⟨0,.bc,137,0,[[.int .i64 0,.int .i64 1]]⟩⟩] zw zu)
 ·refine zb ?_;refine zB p1 (by repeat (first|exact zi.nil|refine zi.cons zj ?_)) rfl rfl ?_;refine zb ?_;refine zB o1 (by repeat (first|exact zi.nil|refine zi.cons zj ?_)) rfl rfl ?_;refine zb ?_;refine uE (e:=3) (es:=[[.int .i64 0,.int .i64 1]]) (vf:=.int .i64 1) (found:=true) vw (fun row h kf e=>by simp at h;subst h;injection e with e;subst e;exact sj zc) (sj (a:=0) zc) (.inl ⟨rfl,.head _⟩) rfl rfl zc rfl rfl rfl rfl rfl ⟨_,_,rfl,rfl,rfl⟩ ?_;refine zb ?_;exact FW.ret ⟨.inl rfl,zm rfl rfl rfl rfl⟩
theorem Ba:zX Tryz.prog 47 ([lL]++[]) .fr (.bool true):=by
 unfold lL;refine zt 21 Tryz.func47 Tryz.ntmps47 rfl ?_;change FW _ _ _ ⟨[(0,_)],[]⟩;refine zb ?_;exact FW.ret ⟨.inl rfl,zm rfl rfl rfl rfl⟩
theorem BB:zX Tryz.prog 43 ([xS.x .nil]++[]) .fr (.bool true):=by
 have h1:=Ch xS .nil 0 (.inl ⟨rfl,rfl⟩) 0 1;simp only [ch.x,xS] at h1 ⊢;refine zt 11 Tryz.func43 Tryz.ntmps43 rfl ?_;change FW _ _ _ ⟨[(0,_)],[]⟩;refine xb ?_;refine zF (zS 0 1) (by repeat (first|exact zi.nil|refine zi.cons zj ?_)) rfl rfl ?_;refine zq ?_;refine Db rfl h1 (by repeat (first|exact zi.nil|refine zi.cons zj ?_)) rfl rfl ?_;refine zq ?_;refine ⟨by kernel_rfl,?_⟩;skip;exact FW.ret ⟨.inl rfl,zm rfl rfl rfl rfl⟩
theorem D0:∀ o∈Ya,gy o:=by
 intro o h;simp only [Ya,zZ,List.not_mem_nil,or_false] at h;rcases h with rfl|rfl <;> (unfold gy aT;decide)
theorem vr:zX Tryz.prog 20 [.int .i64 2,.list 8 (Ya.map aj.fv)] .fr (.bool true):=by
 have h:=XE 2 zc zc Ya zc D0;rwa [show VJ (WZ 2) Ya=true by decide] at h
theorem Ee:zX Tryz.prog 8 [xS.c,xS.e,xS.v .nil] .fr (.int .i64 0):=
 ZD xS .nil rfl zc zc true (.inr ⟨rfl,by decide,vr⟩)
  true (fun h=>by cases h) _ _ [] [] (fun _=>ya (i:=3) rfl) true true true (fun _=>BB) (fun _ _=>Wd xS [] [(0,1,5)] rfl zc zc zc zc zc) (fun _ _ _=>Cj) 0 (fun h=>by cases h) (fun _=>rfl)
theorem Ed:zX Tryz.prog 8 [xH.c,xH.e,xH.v mF] .fr (.int .i64 31):=
 ZD xH mF rfl zc zc true (.inr ⟨rfl,by decide,vr⟩)
  true (fun h=>by cases h) _ _ [] [] (fun _=>ya (i:=19) rfl) true true false (fun _=>Ba) (fun _ _=>Wd xH [0,1] [] rfl zc zc zc zc zc) (fun _ _ _=>DO) 31 (fun h=>by cases h) (fun _=>rfl)
theorem We:zX Tryz.prog 10 [] .fr (.bool true):=by
 have hS:=Ee;have hH:=Ed;have hz:=DP 2 4 0 [] [[.int .i64 0,.int .i64 1,.int .i64 5]] zc zc;simp only [ch.c,ch.e,ch.v,xS,xH,mF] at hS hH;refine zt 36 Tryz.func10 Tryz.ntmps10 rfl ?_;change FW _ _ _ ⟨[],[]⟩;refine zb ?_;refine zD (es:=Ya.map aj.fv) rfl rfl rfl (by refine yb.agg rfl rfl rfl ?_;refine yb.agg rfl rfl rfl ?_;exact yb.nil) rfl rfl rfl rfl rfl ?_
 (repeat (first|refine FW.seq ?_|refine FW.region ?_|refine zx.nil ?_|refine zx.aq (Za rfl) rfl rfl ?_|refine VA rfl rfl rfl rfl ?_|refine zx.cC (Xu rfl rfl rfl rfl rfl) rfl rfl ?_|refine zx.fR (YC rfl rfl rfl rfl rfl rfl rfl rfl) rfl ?_|refine zx.aq (ZO rfl) rfl rfl ?_|refine ZC.nil ?_|refine ZC.one rfl rfl rfl rfl rfl ?_))
 refine zD (es:=[[.int .i64 0,.int .i64 1,.int .i64 5]]) rfl rfl rfl (by refine yb.agg rfl rfl rfl ?_;exact yb.nil) rfl rfl rfl rfl rfl ?_;refine zb ?_;refine zD (es:=[[.int .i64 0],[.int .i64 1]]) rfl rfl rfl (by refine yb.int rfl rfl ?_;refine yb.int rfl rfl ?_;exact yb.nil) rfl rfl rfl rfl rfl ?_;refine zb ?_;refine zB hS Xq rfl rfl ?_;refine zb ?_;refine zB hH (by repeat (first|exact zi.nil|refine zi.cons (by exact fH.sub rfl rfl (by repeat (first|exact FV.le.refl _|exact FV.le.nil _|refine FV.le.agg ?_|refine FV.le.bN ?_|exact fL.nil|refine fL.cons ?_ ?_|exact FV.le.undef _))) ?_)) rfl ⟨_,_,rfl,rfl,rfl⟩ ?_;refine zb ?_;refine zB hz (by repeat (first|exact zi.nil|refine zi.cons (by exact fH.sub rfl rfl (by repeat (first|exact FV.le.refl _|exact FV.le.nil _|refine FV.le.agg ?_|refine FV.le.bN ?_|exact fL.nil|refine fL.cons ?_ ?_|exact FV.le.undef _))) ?_)) rfl ⟨_,_,rfl,rfl,rfl⟩ ?_;refine zb ?_;exact FW.ret ⟨.inl rfl,zm rfl rfl rfl rfl⟩
end
section
open Go.RowKit
attribute [local go_sem ↓] Go.wp_at_zero Go.wp_at_succ
def np (l:List aj) (o:aj) (i j:Nat):Bool:=decide (j<i) && (nth l j).done && (o.call == (nth l j).ret || o.done && o.ret == (nth l j).ret)
def nr (l:List aj) (o:aj) (j:Nat):Bool:=o.done && o.ret == (nth l j).call
def UW (l:List aj) (o:aj) (i k:Nat):Bool:=(List.range k).any fun j=>np l o i j || nr l o j
def nn (l:List aj) (o:aj) (j:Nat):Bool:=(nth l j).p == o.p && (!(nth l j).done || decide (o.call<(nth l j).ret))
def Xr (l:List aj) (o:aj) (k:Nat):Bool:=(List.range k).any fun j=>nn l o j
def VK (l:List aj) (k:Nat):Int:=
 if dH (nth l k)=false then 1
 else if 0<k∧(nth l k).call≤(nth l (k - 1)).call then 5
 else if UW l (nth l k) k l.length=true then 4
 else if Xr l (nth l k) k=true then 5
 else 0
theorem BW (l:List aj) (o:aj) (i k:Nat):UW l o i (k+1)=(UW l o i k || (np l o i k || nr l o k)):=by
 unfold UW;rw [List.range_succ,Wt];simp
theorem Br (l:List aj) (o:aj) (k:Nat):Xr l o (k+1)=(Xr l o k || nn l o k):=by
 unfold Xr;rw [List.range_succ,Wt];simp
theorem Uk (hk:k<l.length) (h:(np l o i k || nr l o k)=true):UW l o i l.length=true:=
 yY.2 ⟨k,by simpa using hk,h⟩
theorem Bq (hk:k<i) (h:nn l o k=true):Xr l o i=true:=
 yY.2 ⟨k,by simpa using hk,h⟩
set_option maxRecDepth 100000 in
theorem Df (A:Option Addr) (c:Nat) (l:List aj) (i:Nat) (w:World) (h1:Sl aj.ah w w.heap.size A l) (hi:i<l.length) (hlen:l.length≤1000000000) :
  Calls Tryz.prog 83 #[.slice A l.length c,.int .i64 i] w fun e w'=>e=.returned (.int .i64 (VK l i))∧Below w.heap.size w w':=by
 obtain ⟨o,ho⟩:∃ o,nth l i=o:=⟨_,rfl⟩
 obtain ⟨X,hX⟩:∃ X,VK l i=X:=⟨_,rfl⟩
 rw [hX];have HX:=zg hX;obtain ⟨b1,o1,rfl,nI,p0,p1,p2,p3,p4,p5,p6,p7⟩:=h1.op hi;rw [ho] at p0 p1 p2 p3 p4 p5 p6 p7;have Ho:=zg ho;clear ho hX;have nH:b1<w.heap.size:=by omega
 go_enter Tryz.func83,Tryz.ntmps83
 go_upto_region 2 with fail
 have B1:aQ (w.alloc (.cells #[.int .i64 o.p,.int .i64 o.k,.int .i64 o.key,.int .i64 o.arg,.int .i64 o.res,.int .i64 o.call,.int .i64 o.ret,.bool o.done] 77)) w.heap.size 77 o.ah:=aQ.new w 77 o.ah;have iD:Below w.heap.size w (w.alloc (.cells #[.int .i64 o.p,.int .i64 o.k,.int .i64 o.key,.int .i64 o.arg,.int .i64 o.res,.int .i64 o.call,.int .i64 o.ret,.bool o.done] 77)):=ZX _;have w6:w.heap.size<(w.alloc (.cells #[.int .i64 o.p,.int .i64 o.k,.int .i64 o.key,.int .i64 o.arg,.int .i64 o.res,.int .i64 o.call,.int .i64 o.ret,.bool o.done] 77)).heap.size:=by simp
 obtain ⟨W,hW⟩:∃ W,W=(w.alloc (.cells #[.int .i64 o.p,.int .i64 o.k,.int .i64 o.key,.int .i64 o.arg,.int .i64 o.res,.int .i64 o.call,.int .i64 o.ret,.bool o.done] 77)):=⟨_,rfl⟩
 rw [← hW] at B1 iD w6 ⊢;clear hW p0 p1 p2 p3 p4 p5 p6 p7;have h2:=h1.below iD;have qe:=iD.size;obtain ⟨x0,x1,x2,x3,x4,x5,x6,x7⟩:=B1.op
 go_cut [46] (fun s wx=>s=.bool (!dH o)∧W=wx)
 case first=>
  by_cases g1:0≤o.p
  ·by_cases g2:0≤o.k
   ·by_cases g3:o.k≤4
    ·by_cases g4:0≤o.call
     ·by_cases g5:o.call<o.ret
      ·cases g6:o.done with
       | true =>
        rw [g6] at x7
        go_wp2_with fail
        go_meet
        case rel=>exact ⟨by simp [dH,g1,g2,g3,g4,g5,g6],rfl⟩
       | false=>
        rw [g6] at x7;by_cases g7:o.res=0
        ·have vY : (o.res != 0)=false:=by simpa using g7
         go_wp2_with fail
         go_meet
         case rel=>exact ⟨by simp [dH,g1,g2,g3,g4,g5,g6,g7],rfl⟩
        ·have vY : (o.res != 0)=true:=by simpa using g7
         go_wp2_with fail
         go_meet
         case rel=>exact ⟨by simp [dH,g1,g2,g3,g4,g5,g6,g7],rfl⟩
      ·go_wp2_with fail
       go_meet
       case rel=>exact ⟨by simp [dH,g5],rfl⟩
     ·go_wp2_with fail
      go_meet
      case rel=>exact ⟨by simp [dH,g4],rfl⟩
    ·go_wp2_with fail
     go_meet
     case rel=>exact ⟨by simp [dH,g3],rfl⟩
   ·go_wp2_with fail
    go_meet
    case rel=>exact ⟨by simp [dH,g2],rfl⟩
  ·go_wp2_with fail
   go_meet
   case rel=>exact ⟨by simp [dH,g1],rfl⟩
 case rest =>
  obtain ⟨rfl,rfl⟩:=hcut;cases jZ:dH o with
  | false =>
   have e:VK l i=1:=by rw [VK,if_pos (by rw [Ho.out];exact jZ)]
   rw [HX.out] at e;subst e
   go_wp2_with fail
   go_ret
   exact ⟨rfl,iD⟩
  | true =>
   have kW:=zg (show ¬ (dH (nth l i)=false) by rw [Ho.out,jZ];simp);clear jZ;by_cases dP:0<i∧o.call≤(nth l (i - 1)).call
   ·have e:VK l i=5:=by rw [VK,if_neg kW.out,if_pos (by rw [Ho.out];exact dP)]
    rw [HX.out] at e;subst e;obtain ⟨EP,dP⟩:=dP;have wC:i - 1<l.length:=by omega
    obtain ⟨_,_,_,_,_,q5,_,_⟩:=h2.j9 wC;have jE:(0:Int)<(i:Int):=by omega
    go_wp2_with fail
    go_quiet (fail)
    go_wp2_with fail
    go_ret
    exact ⟨rfl,Zv iD _⟩
   ·have fK:=zg (show ¬ (0<i∧(nth l i).call≤(nth l (i - 1)).call) by rw [Ho.out];exact dP);clear dP
    go_upto_region 4 with fail
    go_cut [59] (fun s wx=>s=.bool false∧∃ n,wx=W.drewN n)
    case first=>
     by_cases qB:0<i
     ·have df:i - 1<l.length:=by omega
      obtain ⟨_,_,_,_,_,q5,_,_⟩:=h2.j9 df;have ew:(0:Int)<(i:Int):=by omega
      have hle:(nth l (i - 1)).call<o.call:=by have:=fK.out;rw [Ho.out] at this;omega
      go_wp2_with fail
      go_quiet (fail)
      go_wp2_with fail
      go_meet
      case rel=>exact ⟨by simp;omega,_,rfl⟩
     ·have ew:decide ((0:Int)<(i:Int))=false:=by simp;omega
      go_wp2_with fail
      go_quiet (fail)
      go_wp2_with fail
      go_meet
      case rel=>exact ⟨by simp,_,rfl⟩
    case rest=>
     obtain ⟨rfl,n,rfl⟩:=hcut;have kD:=Zv iD n;have B2:=B1.drewN n;clear x0 x1 x2 x3 x4 x5 x6 x7 B1;obtain ⟨V,hV⟩:∃ V,V=W.drewN n:=⟨_,rfl⟩
     rw [← hV] at kD B2 ⊢;have EK:W.heap.size=V.heap.size:=by rw [hV];rfl
     clear hV iD h2
     go_wp2_with fail
     go_loopw [6] (fun v wr=>∃ k:Nat,k≤l.length∧v=.int .i64 k∧aQ wr w.heap.size 77 o.ah∧Below w.heap.size w wr∧UW l o i k=false) (fun v _=>l.length - (intOf v).toNat)
     case atStart=>exact ⟨0,by omega,rfl,B2,kD,rfl⟩
     case round=>
      obtain ⟨k,hk,rfl,B3,hb,cx⟩:=hrel;have eX:=zg cx;clear cx;by_cases aD:k<l.length
      ·obtain ⟨q0,q1,q2,q3,q4,q5,q6,q7⟩:=(h1.below hb).j9 aD;obtain ⟨x0,x1,x2,x3,x4,x5,x6,x7⟩:=B3.op;obtain ⟨d1,iE⟩:∃ d1,np l o i k=d1:=⟨_,rfl⟩
       have lN:=zg iE;clear iE
       go_upto_region 9 with fail
       go_cut [99] (fun s wx=>s=.bool d1∧∃ n,wx=wr.drewN n)
       case first=>
        have hd:=lN.out;unfold np at hd;by_cases c1:k<i
        ·have iU : (k:Int)<(i:Int):=by omega
         cases c2:(nth l k).done with
         | false =>
          rw [c2] at q7
          go_wp2_with fail
          go_quiet (fail)
          go_wp2_with fail
          go_meet
          case rel=>exact ⟨by simp [← hd,c1,c2],_,rfl⟩
         | true=>
          rw [c2] at q7;cases c3:(o.call == (nth l k).ret) with
          | true =>
           go_wp2_with fail
           go_quiet (fail)
           go_wp2_with fail
           go_meet
           case rel=>exact ⟨by simp [← hd,c1,c2,c3],_,rfl⟩
          | false=>
           cases c4:o.done with
           | false =>
            rw [c4] at x7
            go_wp2_with fail
            go_quiet (fail)
            go_wp2_with fail
            go_meet
            case rel=>exact ⟨by simp [← hd,c1,c2,c3,c4],_,rfl⟩
           | true=>
            rw [c4] at x7;cases c5:(o.ret == (nth l k).ret) with
            | true =>
             go_wp2_with fail
             go_quiet (fail)
             go_wp2_with fail
             go_meet
             case rel=>exact ⟨by simp [← hd,c1,c2,c3,c4,c5],_,rfl⟩
            | false =>
             go_wp2_with fail
             go_quiet (fail)
             go_wp2_with fail
             go_meet
             case rel=>exact ⟨by simp [← hd,c1,c2,c3,c4,c5],_,rfl⟩
        ·have iU : decide ((k:Int)<(i:Int))=false:=by simp;omega
         go_wp2_with fail
         go_quiet (fail)
         go_wp2_with fail
         go_meet
         case rel=>exact ⟨by simp [← hd,c1],_,rfl⟩
       case rest=>
        obtain ⟨rfl,n,rfl⟩:=hcut;cases d1 with
        | true =>
         have e:VK l i=4:=by rw [VK,if_neg kW.out,if_neg fK.out,if_pos (by rw [Ho.out];exact Uk aD (by rw [lN.out];rfl))]
         rw [HX.out] at e;subst e
         go_wp2_with fail
         go_ret
         exact ⟨rfl,Zv hb _⟩
        | false=>
         obtain ⟨d2,jw⟩:∃ d2,nr l o k=d2:=⟨_,rfl⟩
         have pR:=zg jw;clear jw;have ot:(wr.drewN n).heap.size=wr.heap.size:=rfl
         go_upto_region 11 with fail
         go_cut [111] (fun s wx=>s=.bool d2∧∃ m,wx=(wr.drewN n).drewN m)
         case first=>
          have hd:=pR.out;unfold nr at hd;cases c4:o.done with
          | false =>
           rw [c4] at x7
           go_wp2_with fail
           go_quiet (fail)
           go_wp2_with fail
           go_meet
           case rel=>exact ⟨by simp [← hd,c4],_,rfl⟩
          | true =>
           rw [c4] at x7
           go_wp2_with fail
           go_quiet (fail)
           go_wp2_with fail
           go_meet
           case rel=>exact ⟨by simp [← hd,c4],_,rfl⟩
         case rest=>
          obtain ⟨rfl,m,rfl⟩:=hcut;cases d2 with
          | true =>
           have e:VK l i=4:=by rw [VK,if_neg kW.out,if_neg fK.out,if_pos (by rw [Ho.out];exact Uk aD (by rw [pR.out];simp))]
           rw [HX.out] at e;subst e
           go_wp2_with fail
           go_ret
           exact ⟨rfl,Zv (Zv hb _) _⟩
          | false =>
           go_wp2_with fail
           go_roundw
           case rel=>exact ⟨k+1,by omega,by go_num,B3.drewN _,Zv hb _,by rw [BW,eX.out,lN.out,pR.out];rfl⟩
           case measure=>simp [intOf];omega
      ·obtain rfl:k=l.length:=by omega
       have nu:=zg (show ¬ (UW l (nth l i) i l.length=true) by rw [Ho.out,eX.out];simp);have B4:=B3;have iB:=hb;obtain ⟨V2,rfl⟩:∃ V2:World,V2=wr:=⟨_,rfl⟩
       go_wp2_with fail
       go_loopw [7] (fun v wr=>∃ k:Nat,k≤i∧v=.int .i64 k∧aQ wr w.heap.size 77 o.ah∧Below w.heap.size w wr∧Xr l o k=false) (fun v _=>i - (intOf v).toNat)
       case atStart=>exact ⟨0,by omega,rfl,B4,iB,rfl⟩
       case round=>
        obtain ⟨k,hk,rfl,B3,hb,cx⟩:=hrel;have sJ:=zg cx;clear cx B4 iB;by_cases aD:k<i
        ·have wE:k<l.length:=by omega
         have hint:(k:Int)<(i:Int):=by omega
         obtain ⟨q0,q1,q2,q3,q4,q5,q6,q7⟩:=(h1.below hb).j9 wE;obtain ⟨x0,x1,x2,x3,x4,x5,x6,x7⟩:=B3.op;obtain ⟨d1,iE⟩:∃ d1,nn l o k=d1:=⟨_,rfl⟩
         have lN:=zg iE;clear iE
         go_upto_region 16 with fail
         go_cut [142] (fun s wx=>s=.bool d1∧∃ n,wx=wr.drewN n)
         case first=>
          have hd:=lN.out;unfold nn at hd;cases c1:((nth l k).p == o.p) with
          | false =>
           go_wp2_with fail
           go_quiet (fail)
           go_wp2_with fail
           go_meet
           case rel=>exact ⟨by simp [← hd,c1],_,rfl⟩
          | true=>
           cases c2:(nth l k).done with
           | false =>
            rw [c2] at q7
            go_wp2_with fail
            go_quiet (fail)
            go_wp2_with fail
            go_meet
            case rel=>exact ⟨by simp [← hd,c1,c2],_,rfl⟩
           | true =>
            rw [c2] at q7
            go_wp2_with fail
            go_quiet (fail)
            go_wp2_with fail
            go_meet
            case rel=>exact ⟨by simp [← hd,c1,c2],_,rfl⟩
         case rest=>
          obtain ⟨rfl,n,rfl⟩:=hcut;cases d1 with
          | true =>
           have e:VK l i=5:=by rw [VK,if_neg kW.out,if_neg fK.out,if_neg nu.out,if_pos (by rw [Ho.out];exact Bq aD lN.out)]
           rw [HX.out] at e;subst e
           go_wp2_with fail
           go_ret
           exact ⟨rfl,Zv hb _⟩
          | false =>
           go_wp2_with fail
           go_roundw
           case rel=>exact ⟨k+1,by omega,by go_num,B3.drewN _,Zv hb _,by rw [Br,sJ.out,lN.out];rfl⟩
           case measure=>simp [intOf];omega
        ·obtain rfl:k=i:=by omega
         have e:VK l k=0:=by rw [VK,if_neg kW.out,if_neg fK.out,if_neg nu.out,if_neg (by rw [Ho.out,sJ.out];simp)]
         rw [HX.out] at e;subst e
         go_wp2_with fail
         go_ret
         exact ⟨rfl,hb⟩
def zV (l:List aj) (k:Nat):Nat→Int
 | 0 => 0
 | n+1 => if VK l k=0 then zV l (k+1) n else VK l k
def Vx (l:List aj):Int:=if 300<l.length then 2 else zV l 0 l.length
theorem Bd {n:Nat} (h:VK l k=0):zV l k (n+1)=zV l (k+1) n:=by simp [zV,h]
theorem Uc {n:Nat} (h:VK l k≠0):zV l k (n+1)=VK l k:=by simp [zV,h]
set_option maxRecDepth 100000 in
theorem CN (A:Option Addr) (c:Nat) (l:List aj) (w:World) (h1:Sl aj.ah w w.heap.size A l) (hlen:l.length≤1000000000) :
  Calls Tryz.prog 32 #[.slice A l.length c] w fun e w'=>e=.returned (.int .i64 (Vx l))∧Below w.heap.size w w':=by
 by_cases ju:300<l.length
 ·go_enter Tryz.func32,Tryz.ntmps32
  go_wp2_with fail
  go_ret
  exact ⟨by simp [Vx,ju],zQ _ _⟩
 ·have hc:Vx l=zV l 0 l.length:=by simp [Vx,ju]
  rw [hc]
  go_enter Tryz.func32,Tryz.ntmps32
  go_wp2_with fail
  go_loopw [3,4] (fun v _ wr=>∃ k:Nat,k≤l.length∧v=.int .i64 k∧Below w.heap.size w wr∧zV l k (l.length - k)=zV l 0 l.length) (fun v _ _=>l.length - (intOf v).toNat)
  case atStart=>exact ⟨0,by omega,rfl,zQ _ _,by simp⟩
  case round=>
   obtain ⟨k,hk,rfl,hb,cx⟩:=hrel;obtain ⟨X,hX⟩:∃ X,zV l 0 l.length=X:=⟨_,rfl⟩
   rw [hX] at cx ⊢;have HX:=zg hX;have eX:=zg cx;clear cx hX;by_cases aD:k<l.length
   ·obtain ⟨E,hE⟩:∃ E,VK l k=E:=⟨_,rfl⟩
    have HE:=zg hE;clear hE;have mq:=(h1.ext hb)
    go_wp2_with (go_at_call 83;refine (Df _ _ l k _ mq aD hlen).mono ?_;rintro e w2 ⟨rfl,c7⟩;rw [HE.out])
    ·have aZ:¬ E=0:=by simpa using ‹(E != 0)=true›
     have hh:=eX.out;rw [show l.length - k=(l.length - (k+1))+1 by omega,Uc (by rw [HE.out];exact aZ),HE.out] at hh;subst hh
     go_ret
     exact ⟨by first|(rw [HX.out];done)|(rw [HX.out];rfl),pM hb c7⟩
    ·have hz:E=0:=by simpa using ‹(E != 0)=false›
     have hh:=eX.out;rw [show l.length - k=(l.length - (k+1))+1 by omega,Bd (by rw [HE.out];exact hz)] at hh
     go_roundw
     case rel=>exact ⟨k+1,by omega,by go_num,pM hb c7,by rw [hh]⟩
     case measure=>simp [intOf];omega
   ·obtain rfl:k=l.length:=by omega
    have hh:=eX.out;simp [zV] at hh;have h0:X=0:=by omega
    subst h0
    go_wp2_with fail
    go_ret
    exact ⟨by first|(rw [HX.out];done)|(rw [HX.out];rfl),hb⟩
end
section
open Go.RowKit
attribute [local go_sem ↓] Go.wp_at_zero Go.wp_at_succ
end
section
open Go.RowKit
attribute [local go_sem ↓] Go.wp_at_zero Go.wp_at_succ
end
section
open Go.RowKit
attribute [local go_sem ↓] Go.wp_at_zero Go.wp_at_succ
theorem zn {e:TypeId} {n:Nat} (h:w.ownsRow base e sz v n xs) {p:Addr} (hp:some p.block≠v.ownBlock) (u:Value):(w.setCell p u).ownsRow base e sz v n xs:=by
 refine ⟨h.1,?_⟩;rcases h.2 with hn|⟨g,cap,cur,rfl,bP,dx,rest⟩
 ·exact .inl hn
 ·exact .inr ⟨g,cap,cur,rfl,bP,(Below.heap_setCell w p u g (fun e=>hp (by simp [Value.ownBlock,e]))).trans dx,rest⟩
end
/-! ### the observations made from numbers are of sequential processes -/
/-! ### replies and invocations of observations made from numbers -/
/-! ### what an operation looks like -/
/-! ### how many are done -/
theorem Dm (hk:k<l.length):(Ue l k (nth l k).call || (nth l k).done && (Ue l k (nth l k).ret || YI l l.length (nth l k).ret))=UW l (nth l k) k l.length:=by
 rw [UH];generalize nth l k=o;have e1:∀ x,Ue l k x=true↔∃ j,j<k∧(nth l j).done=true∧(nth l j).ret=x:=fun x=>by
  unfold Ue;rw [uM za];simp
 have e2:∀ x,YI l l.length x=true↔∃ j,j<l.length∧(nth l j).call=x:=fun x=>by
  unfold YI;rw [ZK,Ef];simp
 unfold UW;rw [ux];simp only [ZG,zA,e1,e2,np,nr,decide_eq_true_eq,beq_iff_eq];constructor
 ·rintro (⟨j,h1,h2,h3⟩|⟨hd,⟨j,h1,h2,h3⟩|⟨j,h1,h2⟩⟩)
  ·exact ⟨j,by omega,.inl ⟨⟨h1,h2⟩,.inl h3.symm⟩⟩
  ·exact ⟨j,by omega,.inl ⟨⟨h1,h2⟩,.inr ⟨hd,h3.symm⟩⟩⟩
  ·exact ⟨j,h1,.inr ⟨hd,h2.symm⟩⟩
 ·rintro ⟨j,hj,⟨⟨h1,h2⟩,h3|⟨hd,h3⟩⟩|⟨hd,h2⟩⟩
  ·exact .inl ⟨j,h1,h2,h3.symm⟩
  ·exact .inr ⟨hd,.inl ⟨j,h1,h2,h3.symm⟩⟩
  ·exact .inr ⟨hd,.inr ⟨j,hj,h2.symm⟩⟩
def oL (l:List aj) (k:Nat):Prop:=∀ j,j<k→∃ o,yx l k (nth l j).p=some o∧o.p=(nth l j).p∧(o=nth l j∨((nth l j).done=true∧(nth l j).ret≤o.call))∧o.call<o.ret
theorem Bi (h:oL l k) (he:UY l k=0):oL l (k+1):=by
 unfold UY at he;split at he
 ·omega
 ·rename_i jZ;split at he
  ·omega
  ·split at he
   ·omega
   ·split at he
    ·omega
    ·rename_i ik;have rj:(nth l k).call<(nth l k).ret:=by
      have hw:dH (nth l k)=true:=by simpa using jZ
      simp only [dH,zA,decide_eq_true_eq] at hw;omega
     intro j hj;rw [yx];by_cases hp:(nth l j).p=(nth l k).p
     ·rw [if_pos hp];refine ⟨_,rfl,hp.symm,?_,rj⟩;by_cases tx:j=k
      ·subst tx;exact .inl rfl
      ·right;obtain ⟨o,ho,bM,hrel,q8⟩:=h j za;rw [hp] at ho;rw [ho] at ik;simp only [WX,xF,true_and] at ik;have hd:o.done=true:=by
        cases hd:o.done with
        | true => rfl
        | false => exact absurd (.inl hd) ik
       have hr:o.ret≤(nth l k).call:=by
        rcases Int.lt_or_le (nth l k).call o.ret with h2|h2
        ·exact absurd (.inr h2) ik
        ·exact h2
       rcases hrel with e|⟨e1,e2⟩
       ·rw [← e];exact ⟨hd,hr⟩
       ·exact ⟨e1,by omega⟩
     ·rw [if_neg hp];have tx:j≠k:=fun e=>hp (by rw [e]);exact h j za
theorem Cu (h:oL l k):((yx l k (nth l k).p).isSome=true∧(((yx l k (nth l k).p).getD default).done=false∨(nth l k).call<((yx l k (nth l k).p).getD default).ret))↔Xr l (nth l k) k=true:=by
 generalize nth l k=o;unfold Xr;rw [ux];simp only [nn,zA,ZG,beq_iff_eq,decide_eq_true_eq,Wr];constructor
 ·rintro ⟨h1,h2⟩;obtain ⟨q,hq⟩:=Option.isSome_iff_exists.1 h1;rw [hq] at h2;simp only [xF] at h2;obtain ⟨m,hm,wM,qP⟩:=YX hq;subst wM;exact ⟨m,hm,qP,h2⟩
 ·rintro ⟨j,hj,hp,h2⟩;obtain ⟨q,hq,E5,hrel,q8⟩:=h j hj;rw [hp] at hq;rw [hq];simp only [WX,xF,true_and];rcases hrel with e|⟨e1,e2⟩
  ·subst e;exact h2
  ·rcases h2 with h2|h2
   ·rw [e1] at h2;cases h2
   ·exact .inr za
theorem Dq (hk:k<l.length) (h:oL l k):UY l k=VK l k:=by
 unfold UY VK;rw [Dm hk];have hb:=Cu h;by_cases kE:Xr l (nth l k) k=true
 ·rw [if_pos (hb.2 kE),if_pos kE]
 ·rw [if_neg (fun e=>kE (hb.1 e)),if_neg kE]
theorem uk {l:List aj}:∀ (n k:Nat),k+n≤l.length→oL l k→zR l k n=zV l k n
 | 0, _, _, _ => rfl
 | n+1,k,hk,h=>by
  have e:=Dq (show k<l.length by omega) h;rw [zR,zV,← e];by_cases h0:UY l k=0
  ·rw [if_pos h0,if_pos h0];exact uk n (k+1) za (Bi h h0)
  ·rw [if_neg h0,if_neg h0]
theorem BV (l:List aj):xm l=Vx l:=by
 unfold xm Vx;split
 ·rfl
 ·exact uk _ _ za (fun j hj=>by omega)
section
open Go.RowKit
attribute [local go_sem ↓] Go.wp_at_zero Go.wp_at_succ
structure bq where
 p:Int
 inv:Bool
 n:Int
 deriving DecidableEq,Inhabited
def bq.ah (o:bq):List Value:=[.int .i64 o.p,.bool o.inv,.int .i64 o.n]
theorem bq.wide:lM 3 bq.ah:=fun _=>rfl
theorem vI:Uf Tryz.prog 110 114 3 24:=⟨Tryz.underlying110,by
 obtain ⟨i,h0,h1,h2,h3⟩:=info_parts (P:=Tryz.prog) (e:=114) (z:=.agg #[.int .i64 0,.bool false,.int .i64 0]) (size:=3) (bytes:=24) zp;exact ⟨i,_,h0,h1,h2,h3,rfl⟩,by omega⟩
section
variable {w:World} {B:Nat} {A:Option Addr}
theorem Sl.ev {l:List bq} (h:Sl bq.ah w B A l) (hi:i<l.length):∃ b off,A=some ⟨b,off,none⟩∧b<B∧
  w.cell? ⟨b,off+i * 3,none⟩=some (.int .i64 (nth l i).p)∧w.cell? ⟨b,off+i * 3+1,none⟩=some (.bool (nth l i).inv)∧w.cell? ⟨b,off+i * 3+2,none⟩=some (.int .i64 (nth l i).n):=by
 obtain ⟨b,off,rfl,hb,hc⟩:=h.get bq.wide hi;rw [← yq hi] at hc;exact ⟨b,off,rfl,hb,hc 0 _ za rfl,hc 1 _ za rfl,hc 2 _ za rfl⟩
end
structure iR where
 out:List bq
 aI:List Int
 calls:Nat
def pG:iR:=⟨[],[0,0,0,0],0⟩
def XT (ae n:Int) (p:Nat) (s:iR):iR:=
 if nth s.aI p=0∧(s.calls:Int)<ae then ⟨s.out++[⟨p,true,n / 4⟩],s.aI.set p 1,s.calls+1⟩
 else if nth s.aI p=1∧n / 4 % 11=10 then { s with aI:=s.aI.set p 2 }
 else if nth s.aI p=1 then { s with aI:=s.aI.set p 0,out:=s.out++[⟨p,false,n / 4⟩] }
 else s
def Wb (l:List Int) (ae:Int) (i:Nat) (s:iR):iR:=XT ae (yp (nth l i) 1000000) (yp (nth l i) 1000000 % 4).toNat s
def VT (l:List Int) (ae:Int) (k:Nat):iR:=YM (Wb l ae) pG k
def xe (l:List Int) (ae:Int):List bq:=(VT l ae (min l.length 40)).out
structure Ek (k:Nat) (s:iR):Prop where
 lo:s.out.length≤k
 lp:s.aI.length=4
 lc:s.calls≤k
theorem u7 (l:List Int) (ae:Int) (k:Nat):Ek k (VT l ae k):=by
 induction k with
 | zero => exact ⟨by simp [VT, YM, pG], rfl, by simp [VT, YM, pG]⟩
 | succ k ih=>
  have hs:VT l ae (k+1)=Wb l ae k (VT l ae k):=rfl;rw [hs];generalize VT l ae k=s at ih;obtain ⟨h1,h2,h3⟩:=ih;unfold Wb XT;split
  ·exact ⟨by simp;omega,by simp;omega,by simp;omega⟩
  ·split
   ·exact ⟨by simp;omega,by simp;omega,by simp;omega⟩
   ·split
    ·exact ⟨by simp;omega,by simp;omega,by simp;omega⟩
    ·exact ⟨by omega,h2,by omega⟩
theorem Un {n:Int} {p:Nat} {s:iR} (h:nth s.aI p=0) (h2:(s.calls:Int)<ae):XT ae n p s=⟨s.out++[⟨p,true,n / 4⟩],s.aI.set p 1,s.calls+1⟩:=by simp [XT,h,h2]
theorem Uq {n:Int} {p:Nat} {s:iR} (h:nth s.aI p=1) (h2:n / 4 % 11=10):XT ae n p s={ s with aI:=s.aI.set p 2 }:=by simp [XT,h,h2]
theorem uf {n:Int} {p:Nat} {s:iR} (h:nth s.aI p=1) (h2:¬ n / 4 % 11=10):XT ae n p s={ s with aI:=s.aI.set p 0,out:=s.out++[⟨p,false,n / 4⟩] }:=by simp [XT,h,h2]
theorem Uo {n:Int} {p:Nat} {s:iR} (h:nth s.aI p=0) (h2:¬ (s.calls:Int)<ae):XT ae n p s=s:=by simp [XT,h,h2]
theorem Up {n:Int} {p:Nat} {s:iR} (h:¬ nth s.aI p=0) (h2:¬ nth s.aI p=1):XT ae n p s=s:=by simp [XT,h,h2]
theorem Zo {e:TypeId} {n c:Nat} (h:w.ownsRow base e sz (.slice A n c) n xs) {p:Addr} (hp:p.block<base) (u:Value):(w.setCell p u).ownsRow base e sz (.slice A n c) n xs:=by
 refine zn h ?_ u;rcases h.2 with ⟨hv,_⟩|⟨g,cap,cur,hv,hb,_⟩
 ·rw [hv];simp [Value.ownBlock]
 ·rw [hv];simp [Value.ownBlock];omega
set_option maxRecDepth 100000 in
theorem XU (A:Option Addr) (c:Nat) (l:List Int) (ae:Int) (w:World) (h1:Sl YK w w.heap.size A l) (hl:∀ x∈l,aT x) (hlen:l.length≤9223372036854775807) (eS:aT ae) :
  Calls Tryz.prog 79 #[.slice A l.length c,.int .i64 ae] w fun e w'=>∃ A1 c1,e=.returned (.slice A1 (xe l ae).length c1)∧
   w'.ownsRow w.heap.size 114 3 (.slice A1 (xe l ae).length c1) (xe l ae).length (flat bq.ah (xe l ae))∧Below w.heap.size w w':=by
 have tD:∀ w,(Instr.makeSlice 22 (.int .i64 4) (.int .i64 4)).run Tryz.prog w=.ok (.slice (some ⟨w.heap.size,0,none⟩) 4 4) (w.alloc (.cells #[.int .i64 0,.int .i64 0,.int .i64 0,.int .i64 0] 3)):=fun _=>by kernel_rfl
 go_enter Tryz.func79,Tryz.ntmps79
 go_wp2_with fail
 go_loopw [5,7,8] (fun v5 v7 i wr=>∃ (k:Nat) (A1:Option Addr) (c1:Nat),k≤l.length∧k≤40∧i=.int .i64 k∧v5=.slice A1 (VT l ae k).out.length c1∧v7=.int .i64 (VT l ae k).calls∧
   wr.ownsRow (w.heap.size+1) 114 3 (.slice A1 (VT l ae k).out.length c1) (VT l ae k).out.length (flat bq.ah (VT l ae k).out)∧
   aQ wr w.heap.size 3 (flat YK (VT l ae k).aI)∧Below w.heap.size w wr∧w.heap.size+1≤wr.heap.size) (fun _ _ i _=>40 - (intOf i).toNat)
 case atStart=>
  exact ⟨0,none,0,by omega,by omega,rfl,rfl,rfl,yv _ _ _ _,aQ.new w 3 [.int .i64 0,.int .i64 0,.int .i64 0,.int .i64 0],(zQ _ _).alloc (zf _) _,by simp⟩
 case round=>
  obtain ⟨k,A1,c1,df,ew,rfl,rfl,rfl,fZ,jt,hb,az⟩:=hrel;by_cases aD:k<l.length∧k<40
  ·obtain ⟨gQ,nZ⟩:=aD;obtain ⟨s,hs⟩:∃ s,s=VT l ae k:=⟨_,rfl⟩
   have ok:=u7 l ae k;have Hs:=zg (show VT l ae (k+1)=Wb l ae k (VT l ae k) from rfl);rw [← hs] at fZ jt ok Hs;rw [← hs];have hI:=hl _ (yj gQ);obtain ⟨n,hn⟩:∃ n,yp (nth l k) 1000000=n:=⟨_,rfl⟩
   have jL:0≤n:=hn▸xX za;have pd:n<1000000:=hn▸Zr za;obtain ⟨p,hp⟩:∃ p:Nat,n % 4=p:=⟨(n % 4).toNat,by omega⟩
   have EW:p<4:=by omega
   have EX:(0:Int)≤(p:Int):=by omega
   have mm:(p:Int)<4:=by omega
   have aM:Wb l ae k s=XT ae n p s:=by unfold Wb;rw [hn,hp];rfl
   rw [aM] at Hs;clear aM hs;obtain ⟨b,o,rfl,kC,q0⟩:=(h1.below hb).int gQ;have dp:=ok.lo;have qE:=ok.lc;have wS:p<s.aI.length:=by have:=ok.lp;omega
   have x1:=jt.int (i:=p) wS;have z1:=jt.frozen p;clear ok;by_cases iU : nth s.aI p=0
   ·rw [iU] at x1;by_cases c2:(s.calls:Int)<ae
    ·have dY:=zg (Hs.out.trans (Un iU c2));clear iU Hs;have lZ:=jt.setInt p 1;have bV:=Zo fZ (p:=⟨w.heap.size,p,none⟩) zd (.int .i64 1);have c7:=hb.setCell (p:=⟨w.heap.size,p,none⟩) zd (.int .i64 1);have eN:(wr.setCell ⟨w.heap.size,p,none⟩ (.int .i64 1)).heap.size=wr.heap.size:=by simp
     go_wp2_with (first|(go_at_call 6;refine (yB _ _ _ hI za za).mono ?_;rintro e w' ⟨rfl,rfl⟩;rw [hn])|(at_builtin;go_loud (refine ym vI bV rfl (.tmp 44) (.tmp 49) rfl rfl (by rw [eN];rfl) rfl YS za za za ?_;intro A3 c3 w2 oc dv kG mY)))
     go_roundw
     case rel=>
      refine ⟨k+1,A3,c3,by omega,by omega,by go_num,by rw [dY.out];simp,by rw [dY.out];simp,?_,?_,?_,?_⟩
      ·rw [dY.out,yA,Zk];simpa [bq.ah] using oc
      ·rw [dY.out];exact lZ.below dv zd
      ·exact c7.trans (dv.mono za)
      ·have:=dv.size;omega
     case measure=>simp [intOf];omega
    ·have dY:=zg (Hs.out.trans (Uo iU c2));clear iU Hs
     go_wp2_with (go_at_call 6;refine (yB _ _ _ hI za za).mono ?_;rintro e w' ⟨rfl,rfl⟩;rw [hn])
     go_roundw
     case rel=>exact ⟨k+1,A1,c1,by omega,by omega,by go_num,by rw [dY.out],by rw [dY.out],by rw [dY.out];exact fZ,by rw [dY.out];exact jt,hb,az⟩
     case measure=>simp [intOf];omega
   ·by_cases c3:nth s.aI p=1
    ·rw [c3] at x1;by_cases c4:n / 4 % 11=10
     ·have dY:=zg (Hs.out.trans (Uq c3 c4));have vS : (n / 4 % 11 == 10)=true:=by simpa using c4
      clear iU c3 c4 Hs
      go_wp2_with (go_at_call 6;refine (yB _ _ _ hI za za).mono ?_;rintro e w' ⟨rfl,rfl⟩;rw [hn])
      go_roundw
      case rel=>exact ⟨k+1,A1,c1,by omega,by omega,by go_num,by rw [dY.out],by rw [dY.out],by rw [dY.out];exact Zo fZ zd _,by rw [dY.out];exact jt.setInt p _,hb.setCell zd _,by simpa using az⟩
      case measure=>simp [intOf];omega
     ·have dY:=zg (Hs.out.trans (uf c3 c4));have vS : (n / 4 % 11 == 10)=false:=by simpa using c4
      clear iU c3 c4 Hs;have lZ:=jt.setInt p 0;have bV:=Zo fZ (p:=⟨w.heap.size,p,none⟩) zd (.int .i64 0);have c7:=hb.setCell (p:=⟨w.heap.size,p,none⟩) zd (.int .i64 0);have eN:(wr.setCell ⟨w.heap.size,p,none⟩ (.int .i64 0)).heap.size=wr.heap.size:=by simp
      go_wp2_with (first|(go_at_call 6;refine (yB _ _ _ hI za za).mono ?_;rintro e w' ⟨rfl,rfl⟩;rw [hn])|(at_builtin;go_loud (refine ym vI bV rfl (.tmp 73) (.tmp 78) rfl rfl (by rw [eN];rfl) rfl YS za za za ?_;intro A3 c3 w2 oc dv kG mY)))
      go_roundw
      case rel=>
       refine ⟨k+1,A3,c3,by omega,by omega,by go_num,by rw [dY.out];simp,by rw [dY.out],?_,?_,?_,?_⟩
       ·rw [dY.out,yA,Zk];simpa [bq.ah] using oc
       ·rw [dY.out];exact lZ.below dv zd
       ·exact c7.trans (dv.mono za)
       ·have:=dv.size;omega
      case measure=>simp [intOf];omega
    ·have dY:=zg (Hs.out.trans (Up iU c3));have vR : (nth s.aI p == 0)=false:=by simpa using iU
     have EA : (nth s.aI p == 1)=false:=by simpa using c3
     clear iU c3 Hs
     go_wp2_with (go_at_call 6;refine (yB _ _ _ hI za za).mono ?_;rintro e w' ⟨rfl,rfl⟩;rw [hn])
     go_roundw
     case rel=>exact ⟨k+1,A1,c1,by omega,by omega,by go_num,by rw [dY.out],by rw [dY.out],by rw [dY.out];exact fZ,by rw [dY.out];exact jt,hb,az⟩
     case measure=>simp [intOf];omega
  ·have e:k=min l.length 40:=by omega
   by_cases gQ:k<l.length
   ·have ES:¬ k<40:=fun h=>aD ⟨gQ,h⟩
    go_wp2_with fail
    go_ret
    subst e;exact ⟨A1,c1,rfl,ZT fZ za,hb⟩
   ·go_wp2_with fail
    go_ret
    subst e;exact ⟨A1,c1,rfl,ZT fZ za,hb⟩
end
def aI (ev:List bq):Nat→Int→Bool
 | 0, _ => false
 | k+1, p => if (nth ev k).p=p then (nth ev k).inv else aI ev k p
def XF (ev:List bq):Nat→Nat
 | 0 => 0
 | k+1 => XF ev k+if (nth ev k).inv then 1 else 0
def ZW (ev:List bq):Prop:=∀ k,k<ev.length→(0≤(nth ev k).p∧(nth ev k).p<4)∧(0≤(nth ev k).n∧(nth ev k).n≤250000)∧(nth ev k).inv=!aI ev k (nth ev k).p
theorem WO (ev:List bq) (a:bq):∀ k p,k≤ev.length→aI (ev++[a]) k p=aI ev k p
 | 0, _, _ => rfl
 | k+1, p, h => by
  unfold aI;rw [xh za,WO ev a k p za]
theorem tV (ev:List bq) (a:bq):∀ k,k≤ev.length→XF (ev++[a]) k=XF ev k
 | 0, _ => rfl
 | k+1, h => by
  unfold XF;rw [xh za,tV ev a k za]
theorem uX (ev:List bq) (a:bq) (p:Int):aI (ev++[a]) (ev++[a]).length p=if a.p=p then a.inv else aI ev ev.length p:=by
 rw [zH,UP,aI,xC,WO ev a _ _ (zf _)]
theorem tW (ev:List bq) (a:bq):XF (ev++[a]) (ev++[a]).length=XF ev ev.length+if a.inv then 1 else 0:=by
 rw [zH,UP,XF,xC,tV ev a _ (zf _)]
theorem ZW.app {ev:List bq} (h:ZW ev) {a:bq} (h1:0≤a.p∧a.p<4) (h2:0≤a.n∧a.n≤250000) (h3:a.inv=!aI ev ev.length a.p):ZW (ev++[a]):=by
 intro k hk;rw [zH,UP] at hk;by_cases e:k<ev.length
 ·rw [xh e,WO ev a k _ za];exact h k e
 ·have:k=ev.length:=by omega
  subst this;rw [xC,WO ev a _ _ (zf _)];exact ⟨h1,h2,h3⟩
structure Ev (ae:Int) (s:iR):Prop where
 gK:ZW s.out
 lp:s.aI.length=4
 pe:∀ p:Nat,p<4→(nth s.aI p=0∧aI s.out s.out.length p=false∨(nth s.aI p=1∨nth s.aI p=2)∧aI s.out s.out.length p=true)
 cnt:XF s.out s.out.length=s.calls
 le:s.calls=0∨(s.calls:Int)≤ae
theorem UZ (l:List Int) (ae:Int) (k:Nat):Ev ae (VT l ae k):=by
 induction k with
 | zero =>
  refine ⟨fun k hk=>by simp [VT,YM,pG] at hk,rfl,fun p hp=>.inl ⟨?_,rfl⟩,rfl,.inl rfl⟩
  match p,hp with
  | 0, _ => rfl
  | 1, _ => rfl
  | 2, _ => rfl
  | 3, _ => rfl
 | succ k ih=>
  have hs:VT l ae (k+1)=Wb l ae k (VT l ae k):=rfl;rw [hs];generalize VT l ae k=s at ih;unfold Wb;have jL:=xX (n:=nth l k) (ae:=1000000) za;have pd:=Zr (n:=nth l k) (ae:=1000000) za;generalize yp (nth l k) 1000000=n at jL pd;obtain ⟨p,hp⟩:∃ p:Nat,(n % 4).toNat=p:=⟨_,rfl⟩
  rw [hp];have mm:p<4:=by omega
  obtain ⟨h1,h2,h3,h4,h5⟩:=ih;have hq:∀ (x:Int) (q:Nat),q<4→nth (s.aI.set p x) q=if q=p then x else nth s.aI q:=by
   intro x q kK;by_cases e:q=p
   ·subst e;rw [if_pos rfl,zY za]
   ·rw [if_neg e,ZR (fun h=>e h.symm)]
  by_cases c1:nth s.aI p=0
  ·have gD:aI s.out s.out.length p=false:=by rcases h3 p mm with ⟨_,h⟩|⟨h,_⟩;exact h;omega
   by_cases c2:(s.calls:Int)<ae
   ·rw [Un c1 c2];refine ⟨h1.app ⟨by dsimp only;omega,by dsimp only;omega⟩ ⟨by dsimp only;omega,by dsimp only;omega⟩ (by dsimp only;rw [gD];rfl),by simpa using h2,fun q kK=>?_,?_,.inr (by dsimp only;omega)⟩
    ·dsimp only;rw [hq _ _ kK,uX];by_cases e:q=p
     ·subst e;right;simp
     ·have e2:¬ ((p:Int)=(q:Int)):=by omega
      simp only [if_neg e,if_neg e2];exact h3 q kK
    ·dsimp only;rw [tW,h4];rfl
   ·rw [Uo c1 c2];exact ⟨h1,h2,h3,h4,h5⟩
  ·by_cases c3:nth s.aI p=1
   ·have gD:aI s.out s.out.length p=true:=by rcases h3 p mm with ⟨h,_⟩|⟨_,h⟩;omega;exact h
    by_cases c4:n / 4 % 11=10
    ·rw [Uq c3 c4];refine ⟨h1,by simpa using h2,fun q kK=>?_,h4,h5⟩;dsimp only;rw [hq _ _ kK];by_cases e:q=p
     ·subst e;right;simp [gD]
     ·simp only [if_neg e];exact h3 q kK
    ·rw [uf c3 c4];refine ⟨h1.app ⟨by dsimp only;omega,by dsimp only;omega⟩ ⟨by dsimp only;omega,by dsimp only;omega⟩ (by dsimp only;rw [gD];rfl),by simpa using h2,fun q kK=>?_,?_,h5⟩
     ·dsimp only;rw [hq _ _ kK,uX];by_cases e:q=p
      ·subst e;left;simp
      ·have e2:¬ ((p:Int)=(q:Int)):=by omega
       simp only [if_neg e,if_neg e2];exact h3 q kK
     ·dsimp only;rw [tW,h4];rfl
   ·rw [Up c1 c3];exact ⟨h1,h2,h3,h4,h5⟩
theorem xn (l:List Int) (ae:Int):ZW (xe l ae):=(UZ l ae _).gK
theorem xU (l:List Int) (ae:Int):(xe l ae).length≤40:=by have:=(u7 l ae (min l.length 40)).lo;unfold xe;omega
theorem YV (l:List Int) (h:0≤ae):(XF (xe l ae) (xe l ae).length:Int)≤ae:=by
 have h1:=(UZ l ae (min l.length 40)).cnt;have h2:=(UZ l ae (min l.length 40)).le;unfold xe;omega
structure ZZ (ev:List bq) (k:Nat) (out:List aj) (aF:List Int):Prop where
 na:aF.length=4
 len:out.length=XF ev k
 call:∀ j,j<out.length→∃ c:Nat,(nth out j).call=c∧c<k∧(nth ev c).inv=true∧(nth out j).p=(nth ev c).p
 mono:∀ i j,i<j→j<out.length→(nth out i).call<(nth out j).call
 ret:∀ j,j<out.length→(nth out j).done=true→∃ r:Nat,(nth out j).ret=r∧r<k∧(nth ev r).inv=false∧(nth out j).call<r
 stay:∀ j,j<out.length→(nth out j).done=false→(nth out j).ret=ev.length∧(nth out j).res=0∧aI ev k (nth out j).p=true
 one:∀ i j,i<j→j<out.length→(nth out i).done=true→(nth out j).done=true→(nth out i).ret≠(nth out j).ret
 seq:∀ i j,i<j→j<out.length→(nth out i).p=(nth out j).p→(nth out i).done=true∧(nth out i).ret<(nth out j).call
 aF:∀ p:Nat,p<4→aI ev k p=true→∃ j:Nat,nth aF p=j∧j<out.length∧(nth out j).p=p∧(nth out j).done=false
theorem ZZ.zero (ev:List bq):ZZ ev 0 [] [0,0,0,0]:=
 ⟨rfl,rfl,fun _ h=>by simp at h,fun _ _ _ h=>by simp at h,fun _ h=>by simp at h,fun _ h=>by simp at h,fun _ _ _ h=>by simp at h,fun _ _ _ h=>by simp at h,fun _ _ h=>by simp [aI] at h⟩
theorem ZZ.add {ev:List bq} {out:List aj} {aF:List Int} (h:ZZ ev k out aF) (hg:ZW ev) (hk:k<ev.length) (hi:(nth ev k).inv=true) (h1:o.p=(nth ev k).p) (h2:o.call=k) (h3:o.ret=ev.length) (h4:o.done=false) (h5:o.res=0) {p:Nat} (hp:(nth ev k).p=p) :
  ZZ ev (k+1) (out++[o]) (aF.set p out.length):=by
 obtain ⟨⟨g1,g2⟩,_,g3⟩:=hg k hk;have oi:aI ev k (nth ev k).p=false:=by rw [hi] at g3;simpa using g3
 have mm:p<4:=by omega
 have ir:∀ i,i<out.length→nth (out++[o]) i=nth out i:=fun i hi=>xh hi;have new:nth (out++[o]) out.length=o:=xC;have hlen:(out++[o]).length=out.length+1:=by simp
 have free:∀ j,j<out.length→(nth out j).p=(nth ev k).p→(nth out j).done=true:=by
  intro j hj he;cases hd:(nth out j).done with
  | true => rfl
  | false => have := (h.stay j hj hd).2.2; rw [he, oi] at this; cases this
 refine ⟨by simpa using h.na,?_,fun j hj=>?_,fun i j fh hj=>?_,fun j hj hd=>?_,fun j hj hd=>?_,fun i j fh hj s8 o5=>?_,fun i j fh hj he=>?_,fun q hq kJ=>?_⟩
 ·rw [hlen,h.len,XF,hi];rfl
 ·by_cases e:j<out.length
  ·rw [ir j e];obtain ⟨c,a1,a2,a3,a4⟩:=h.call j e;exact ⟨c,a1,by omega,a3,a4⟩
  ·obtain rfl:j=out.length:=by omega
   rw [new];exact ⟨k,h2,by omega,hi,h1⟩
 ·rw [ir i za];by_cases e:j<out.length
  ·rw [ir j e];exact h.mono i j fh e
  ·obtain rfl:j=out.length:=by omega
   rw [new,h2];obtain ⟨c,a1,a2,_⟩:=h.call i fh;omega
 ·by_cases e:j<out.length
  ·rw [ir j e] at hd ⊢;obtain ⟨r,a1,a2,a3,a4⟩:=h.ret j e hd;exact ⟨r,a1,by omega,a3,a4⟩
  ·obtain rfl:j=out.length:=by omega
   rw [new,h4] at hd;cases hd
 ·by_cases e:j<out.length
  ·rw [ir j e] at hd ⊢;obtain ⟨a1,a2,a3⟩:=h.stay j e hd;refine ⟨a1,a2,?_⟩;rw [aI];split
   ·exact hi
   ·exact a3
  ·obtain rfl:j=out.length:=by omega
   rw [new];exact ⟨h3,h5,by rw [aI,h1,if_pos rfl,hi]⟩
 ·rw [ir i za] at s8 ⊢;by_cases e:j<out.length
  ·rw [ir j e] at o5 ⊢;exact h.one i j fh e s8 o5
  ·obtain rfl:j=out.length:=by omega
   rw [new,h4] at o5;cases o5
 ·rw [ir i za] at he ⊢;by_cases e:j<out.length
  ·rw [ir j e] at he ⊢;exact h.seq i j fh e he
  ·obtain rfl:j=out.length:=by omega
   rw [new] at he ⊢;have hd:=free i fh (he.trans h1);obtain ⟨r,a1,a2,_⟩:=h.ret i fh hd;exact ⟨hd,by omega⟩
 ·rw [aI] at kJ;by_cases e:q=p
  ·subst e;exact ⟨out.length,zY (by rw [h.na];exact hq),by omega,by rw [new,h1,hp],by rw [new,h4]⟩
  ·rw [if_neg za] at kJ;obtain ⟨j,a1,a2,a3,a4⟩:=h.aF q hq kJ;exact ⟨j,by rw [ZR (fun e2=>e e2.symm)];exact a1,by omega,by rw [ir j a2];exact a3,by rw [ir j a2];exact a4⟩
theorem ZZ.at_ {ev:List bq} {out:List aj} {aF:List Int} (h:ZZ ev k out aF) (hg:ZW ev) (hk:k<ev.length) (hi:(nth ev k).inv=false) {p:Nat} (hp:(nth ev k).p=p) :
  ∃ j:Nat,nth aF p=j∧j<out.length∧(nth out j).p=p∧(nth out j).done=false:=by
 obtain ⟨⟨g1,g2⟩,_,g3⟩:=hg k hk;refine h.aF p za ?_;rw [hi,hp] at g3;simpa using g3
theorem ZZ.put {ev:List bq} {out:List aj} {aF:List Int} (h:ZZ ev k out aF) (hk:k<ev.length) (hi:(nth ev k).inv=false) {j:Nat} (hj:j<out.length) (tz:(nth out j).p=(nth ev k).p) (tu:(nth out j).done=false)
(h1 : o.p=(nth out j).p) (h2:o.call=(nth out j).call) (h3:o.ret=k) (h4:o.done=true):ZZ ev (k+1) (out.set j o) aF:=by
 have other:∀ i,i≠j→nth (out.set j o) i=nth out i:=fun i hi=>ZR (fun e=>hi e.symm);have here:nth (out.set j o) j=o:=zY hj;have hlen:(out.set j o).length=out.length:=by simp
 have pc:∀ i,(nth (out.set j o) i).p=(nth out i).p∧(nth (out.set j o) i).call=(nth out i).call:=by
  intro i;by_cases e:i=j
  ·subst e;rw [here];exact ⟨h1,h2⟩
  ·rw [other i e];exact ⟨rfl,rfl⟩
 have uniq:∀ i,i<out.length→i≠j→(nth out i).p=(nth out j).p→(nth out i).done=true:=by
  intro i hi he gD;rcases yd i j with e|e
  ·exact (h.seq i j e hj gD).1
  ·have:=(h.seq j i za hi gD.symm).1;rw [tu] at this;cases this
 have lH:∀ i,i<out.length→(nth out i).done=true→(nth out i).ret<k:=by
  intro i hi hd;obtain ⟨r,a1,a2,_⟩:=h.ret i hi hd;omega
 refine ⟨h.na,?_,fun i jE=>?_,fun a b lU hb=>?_,fun i jE hd=>?_,fun i jE hd=>?_,fun a b lU hb qq o4=>?_,fun a b lU hb he=>?_,fun q hq kJ=>?_⟩
 ·rw [hlen,h.len,XF,hi];rfl
 ·rw [hlen] at jE;obtain ⟨c,a1,a2,a3,a4⟩:=h.call i jE;exact ⟨c,by rw [(pc i).2];exact a1,by omega,a3,by rw [(pc i).1];exact a4⟩
 ·rw [hlen] at hb;rw [(pc a).2,(pc b).2];exact h.mono a b lU hb
 ·rw [hlen] at jE;by_cases e:i=j
  ·subst e;rw [here];obtain ⟨c,a1,a2,_⟩:=h.call i jE;exact ⟨k,h3,by omega,hi,by omega⟩
  ·rw [other i e] at hd ⊢;obtain ⟨r,a1,a2,a3,a4⟩:=h.ret i jE hd;exact ⟨r,a1,by omega,a3,a4⟩
 ·rw [hlen] at jE;by_cases e:i=j
  ·subst e;rw [here,h4] at hd;cases hd
  ·rw [other i e] at hd ⊢;obtain ⟨a1,a2,a3⟩:=h.stay i jE hd;refine ⟨a1,a2,?_⟩;rw [aI,if_neg]
   ·exact a3
   ·intro e2;have:=uniq i jE e (e2.symm.trans tz.symm);rw [hd] at this;cases this
 ·rw [hlen] at hb;by_cases ea:a=j
  ·subst ea;rw [other b za] at o4 ⊢;rw [here,h3];have:=lH b hb o4;omega
  ·rw [other a ea] at qq ⊢;by_cases eb:b=j
   ·subst eb;rw [here,h3];have:=lH a za qq;omega
   ·rw [other b eb] at o4 ⊢;exact h.one a b lU hb qq o4
 ·rw [hlen] at hb;rw [(pc a).1,(pc b).1] at he;rw [(pc b).2];obtain ⟨s1,s2⟩:=h.seq a b lU hb he;by_cases ea:a=j
  ·subst ea;rw [tu] at s1;cases s1
  ·rw [other a ea];exact ⟨s1,s2⟩
 ·rw [aI] at kJ;split at kJ
  ·rw [hi] at kJ;cases kJ
  ·rename_i aZ;obtain ⟨i,a1,a2,a3,a4⟩:=h.aF q hq kJ;have fh:i≠j:=by
    intro e;subst e;exact aZ (by rw [← tz,a3])
   exact ⟨i,a1,by rw [hlen];exact a2,by rw [other i fh];exact a3,by rw [other i fh];exact a4⟩
theorem ZZ.kH {ev:List bq} {out:List aj} {aF:List Int} (h:ZZ ev k out aF) (hg:ZW ev) (hk:k≤ev.length) (hlen:out.length≤300) (nW:∀ o∈out,0≤o.k∧o.k≤4):xm out=0:=by
 rw [xm,if_neg za];refine Yi _ _ fun j _ hj=>?_;have hj:j<out.length:=by omega
 obtain ⟨c,c1,c2,c3,c4⟩:=h.call j hj;have ET:=nW _ (yj hj);have EO:=(hg c za).1;have jZ:dH (nth out j)=true:=by
  simp only [dH,zA,decide_eq_true_eq,ZG];cases hd:(nth out j).done with
  | true =>
   obtain ⟨r,a1,a2,a3,a4⟩:=h.ret j hj hd;exact ⟨⟨⟨⟨⟨by omega,by omega⟩,by omega⟩,by omega⟩,by omega⟩,.inl rfl⟩
  | false =>
   obtain ⟨a1,a2,a3⟩:=h.stay j hj hd;exact ⟨⟨⟨⟨⟨by omega,by omega⟩,by omega⟩,by omega⟩,by omega⟩,.inr a2⟩
 unfold UY;rw [if_neg (by rw [jZ];simp),if_neg,if_neg,if_neg]
 ·rintro ⟨oy,lX⟩;obtain ⟨o,ho⟩:=Option.isSome_iff_exists.1 oy;rw [ho] at lX;simp only [xF] at lX;obtain ⟨m,hm,wL,qP⟩:=YX ho;subst wL;obtain ⟨s1,s2⟩:=h.seq m j hm hj qP;rcases lX with e|e
  ·rw [s1] at e;cases e
  ·omega
 ·intro nL;simp only [ZG,zA] at nL;rcases nL with e|⟨hd,e|e⟩
  ·obtain ⟨m,h1,h2,h3⟩:=Wq e;simp only [zA,beq_iff_eq] at h3;obtain ⟨r,a1,a2,a3,a4⟩:=h.ret m h2 h3.1;have:r=c:=by omega
   subst this;rw [a3] at c3;cases c3
  ·obtain ⟨m,h1,h2,h3⟩:=Wq e;simp only [zA,beq_iff_eq] at h3;exact h.one m j h1 hj h3.1 hd h3.2
  ·obtain ⟨m,h1,h2,h3⟩:=Wq e;simp only [beq_iff_eq] at h3;obtain ⟨r,a1,a2,a3,a4⟩:=h.ret j hj hd;obtain ⟨c',b1,b2,b3,b4⟩:=h.call m h2;have:r=c':=by omega
   subst this;rw [a3] at b3;cases b3
 ·rintro ⟨h0,hle⟩;have:=h.mono (j - 1) j za hj;omega
section
open Go.RowKit
end
section
open Go.RowKit
attribute [local go_sem ↓] Go.wp_at_zero Go.wp_at_succ
theorem A8 {l:List Int} (h:k<l.length) {n:Int}:n∈l.take (k+1)↔n∈l.take k∨nth l k=n:=by
 rw [ZL h,zO,yq h];simp [eq_comm]
set_option maxRecDepth 100000 in
theorem DZ (A:Option Addr) (c:Nat) (l:List Int) (n:Int) (w:World) (h1:Sl YK w w.heap.size A l) (hlen:l.length≤1000000000) :
  Calls Tryz.prog 33 #[.slice A l.length c,.int .i64 n] w fun e w'=>e=.returned (.bool (decide (n∈l)))∧w=w':=by
 go_enter Tryz.func33,Tryz.ntmps33
 go_wp2_with fail
 go_loop [5] (fun v=>∃ k:Nat,k≤l.length∧v=.int .i64 k∧¬ n∈l.take k) (fun v=>l.length - (intOf v).toNat)
 case atStart=>exact ⟨0,by omega,rfl,by simp⟩
 case round=>
  obtain ⟨k,hk,rfl,cx⟩:=hrel;have eX:=zg cx;clear cx;by_cases aD:k<l.length
  ·obtain ⟨b,o,rfl,kC,q0⟩:=h1.int aD;cases hc:(nth l k == n) with
   | true =>
    have hm:n∈l:=by have:=yj aD;rw [show nth l k=n by simpa using hc] at this;exact this
    have Hm:=zg hm;clear hm
    go_wp2_with fail
    go_ret
    exact ⟨by simp [Hm.out],rfl⟩
   | false =>
    go_wp2_with fail
    go_round
    case rel=>exact ⟨k+1,by omega,by go_num,by rw [A8 aD];rintro (h|h);exact eX.out h;simp [h] at hc⟩
    case measure=>simp [intOf];omega
  ·obtain rfl:k=l.length:=by omega
   go_wp2_with fail
   go_ret
   have:=eX.out;rw [ZK] at this;exact ⟨by simp [this],rfl⟩
def Vw (l:List Int) (ae:Int):Int:=if l.length=0 then 0 else yp (nth l 0) ae
theorem uY (l:List Int) (h:0<ae):0≤Vw l ae∧Vw l ae<ae:=by
 unfold Vw;split
 ·omega
 ·exact ⟨xX h,Zr h⟩
set_option maxRecDepth 100000 in
theorem uw (A:Option Addr) (c:Nat) (l:List Int) (ae:Int) (w:World) (h1:Sl YK w w.heap.size A l) (hl:∀ x∈l,aT x) (hlen:l.length≤9223372036854775807) (h2:1≤ae) (h3:ae≤4611686018427387904) :
  Calls Tryz.prog 80 #[.slice A l.length c,.int .i64 0,.int .i64 ae] w fun e w'=>e=.returned (.int .i64 (Vw l ae))∧w=w':=by
 by_cases h:0<l.length
 ·obtain ⟨b,o,rfl,kC,q0⟩:=h1.int h;simp only [xQ] at q0;have hI:=hl _ (yj h);have e:Vw l ae=yp (nth l 0) ae:=by rw [Vw,if_neg za]
  rw [e];have aD:(0:Int)<(l.length:Int):=by omega
  have aZ:decide (l=[])=false:=by cases l with|nil=>simp at h|cons a t=>simp
  go_enter Tryz.func80,Tryz.ntmps80
  go_wp2_with (go_at_call 6;refine (yB _ _ _ hI za za).mono ?_;rintro e w' ⟨rfl,rfl⟩)
  go_ret
  exact ⟨rfl,rfl⟩
 ·have e:Vw l ae=0:=by rw [Vw,if_pos za]
  rw [e];obtain rfl:l=[]:=by cases l with|nil=>rfl|cons a t=>simp at h
  go_enter Tryz.func80,Tryz.ntmps80
  go_wp2_with fail
  go_ret
  exact ⟨rfl,rfl⟩
/-! ### chosen -/
def xt (ws:List Int) (key:Int):Nat→List Int
 | 0 => [0]
 | k+1 => if nth ws k=key then xt ws key k ++ [(k:Int)+1] else xt ws key k
theorem Vu (ws:List Int) (key:Int):∀ k,0<(xt ws key k).length∧(xt ws key k).length≤k+1
 | 0 => by simp [xt]
 | k+1 => by
  have:=Vu ws key k;unfold xt;split
  ·simp;omega
  ·omega
theorem rO (ws:List Int) (key:Int):∀ k,∀ x∈xt ws key k,0≤x∧x≤k
 | 0, x, h => by simp [xt] at h; omega
 | k+1,x,h=>by
  unfold xt at h;split at h
  ·rcases zO.1 h with h|h
   ·have:=rO ws key k x h;omega
   ·simp at h;omega
  ·have:=rO ws key k x h;omega
def yz (ws:List Int) (key n bD:Int) (fresh:Bool):Int:=
 if fresh=true∧0<n % 7 then bD
 else if n % 13=12 then 1+n / 13 % 12
 else nth (xt ws key ws.length) (n / 2 % (xt ws key ws.length).length).toNat
theorem Uh (ws:List Int) (key n bD:Int) (fresh:Bool) (h:0≤bD):0≤yz ws key n bD fresh∧(yz ws key n bD fresh≤bD∨yz ws key n bD fresh≤12∨yz ws key n bD fresh≤ws.length):=by
 unfold yz;split
 ·omega
 ·split
  ·omega
  ·have h1:=Vu ws key ws.length;have h2:(n / 2 % ((xt ws key ws.length).length:Int)).toNat<(xt ws key ws.length).length:=by
    have:=UJ (n / 2) (show (0:Int)<((xt ws key ws.length).length:Int) by omega);have:=UK (n / 2) (show ((xt ws key ws.length).length:Int)≠0 by omega);omega
   have:=rO ws key ws.length _ (yj h2);omega
set_option maxRecDepth 100000 in
theorem Ui (A:Option Addr) (c:Nat) (ws:List Int) (key n bD:Int) (fresh:Bool) (w:World) (h1:Sl YK w w.heap.size A ws) (hlen:ws.length≤1000000) (jL:0≤n) (pd:n≤1000000) :
  Calls Tryz.prog 81 #[.slice A ws.length c,.int .i64 key,.int .i64 n,.int .i64 bD,.bool fresh] w fun e w'=>e=.returned (.int .i64 (yz ws key n bD fresh))∧Below w.heap.size w w':=by
 by_cases hf:fresh=true∧0<n % 7
 ·have e:yz ws key n bD fresh=bD:=by rw [yz,if_pos hf]
  rw [e];obtain ⟨rfl,nN⟩:=hf
  go_enter Tryz.func81,Tryz.ntmps81
  go_wp2_with fail
  go_ret
  exact ⟨rfl,zQ _ _⟩
 ·obtain ⟨V,hV⟩:∃ V,yz ws key n bD fresh=V:=⟨_,rfl⟩
  have gA:=hV;rw [yz,if_neg hf] at gA;rw [hV];clear hV
  go_enter Tryz.func81,Tryz.ntmps81
  go_upto_region 1 with fail
  go_cut [18] (fun s wx=>s=.bool false∧w=wx)
  case first=>
   cases fresh with
   | false =>
    go_wp2_with fail
    go_meet
    case rel=>exact ⟨rfl,rfl⟩
   | true =>
    have nN:¬ 0<n % 7:=fun h=>hf ⟨rfl,h⟩
    go_wp2_with fail
    go_meet
    case rel=>exact ⟨by simp,rfl⟩
  case rest=>
   obtain ⟨rfl,rfl⟩:=hcut;clear hf;by_cases hc:n % 13=12
   ·rw [if_pos hc] at gA;have eR : (n % 13 == 12)=true:=by simpa using hc
    clear hc;subst gA
    go_wp2_with fail
    go_ret
    exact ⟨rfl,zQ _ _⟩
   ·rw [if_neg hc] at gA;have eR : (n % 13 == 12)=false:=by simpa using hc
    clear hc;have HV:=zg gA;clear gA
    go_wp2_with fail
    go_loopw [11,12] (fun v i wr=>∃ (k:Nat) (A1:Option Addr) (c1:Nat),k≤ws.length∧i=.int .i64 k∧v=.slice A1 (xt ws key k).length c1∧
     wr.ownsRow w.heap.size 3 1 (.slice A1 (xt ws key k).length c1) (xt ws key k).length (flat YK (xt ws key k))∧Below w.heap.size w wr) (fun _ i _=>ws.length - (intOf i).toNat)
    case atStart=>
     refine ⟨0,some ⟨w.heap.size,0,none⟩,1,by omega,rfl,rfl,?_,(zQ _ _).alloc (zf _) _⟩;refine ⟨by rfl,.inr ⟨w.heap.size,1,#[.int .i64 0],rfl,zf _,heap_alloc_new w _,?_⟩⟩;simp [xt,flat,YK,maxLen]
    case round=>
     obtain ⟨k,A1,c1,hk,rfl,rfl,ho,hb⟩:=hrel;have az:=hb.size;obtain ⟨o9,bC⟩:=Vu ws key k;by_cases aD:k<ws.length
     ·obtain ⟨b,o,rfl,kC,q0⟩:=(h1.below hb).int aD;cases hc:(nth ws k == key) with
      | true=>
       have Hs:=zg (show xt ws key (k+1)=xt ws key k++[(k:Int)+1] by rw [xt,if_pos (by simpa using hc)])
       go_wp2_with (at_builtin;go_loud (refine ym oS ho rfl (.tmp 40) (.tmp 43) rfl rfl rfl rfl YS za za za ?_;intro A3 c3 w2 oc dv kG mY))
       go_roundw
       case rel=>
        refine ⟨k+1,A3,c3,by omega,by go_num,by rw [Hs.out];simp,?_,hb.trans dv⟩;rw [Hs.out,yA,Zk];simpa [YK] using oc
       case measure=>simp [intOf];omega
      | false =>
       have Hs:=zg (show xt ws key (k+1)=xt ws key k by rw [xt,if_neg (by simpa using hc)])
       go_wp2_with fail
       go_roundw
       case rel=>exact ⟨k+1,A1,c1,by omega,by go_num,by rw [Hs.out],by rw [Hs.out];exact ho,hb⟩
       case measure=>simp [intOf];omega
     ·obtain rfl:k=ws.length:=by omega
      obtain ⟨m,hm⟩:∃ m:Nat,m=(xt ws key ws.length).length:=⟨_,rfl⟩
      obtain ⟨q,hq⟩:∃ q:Nat,n / 2 % (m:Int)=q:=⟨(n / 2 % (m:Int)).toNat,by have:=UK (n / 2) (show (m:Int)≠0 by omega);omega⟩
      have EZ:q<m:=by have:=UJ (n / 2) (show (0:Int)<(m:Int) by omega);omega
      obtain ⟨b2,o2,rfl,wu,q2⟩:=(Sl.bK ho rfl).int (i:=q) za;have m6:=HV.out;rw [← hm,hq] at m6;simp only [Ys] at m6;rw [m6] at q2;rw [← hm] at o9 bC ⊢;have Hq:=zg hq;have wI:(0:Int)<(m:Int):=by omega
      have pa:(m:Int)≤1000001:=by omega
      have EY:(0:Int)≤(q:Int):=by omega
      have wW : (q:Int)<(m:Int):=by omega
      clear hm m6 ho
      go_wp2_with fail
      go_ret
      exact ⟨rfl,hb⟩
/-! ### popped -/
def ZU (aE taken:List Int) (key:Int) (k:Nat):Nat→Int
 | 0 => 0
 | m+1 => if nth aE k=key ∧ ¬ ((k:Int)+1) ∈ taken then (k:Int)+1 else ZU aE taken key (k+1) m
def yH (aE taken:List Int) (key n:Int):Int:=
 if n % 9=8 then n / 9 % 9 else if 0<n % 5 then ZU aE taken key 0 aE.length else 0
theorem Uv (aE taken:List Int) (key:Int):∀ m k,0≤ZU aE taken key k m∧ZU aE taken key k m≤(k:Int)+m
 | 0, k => by unfold ZU; omega
 | m+1, k => by
  have:=Uv aE taken key m (k+1);unfold ZU;split
  ·omega
  ·omega
theorem CK (aE taken:List Int) (key n:Int):0≤yH aE taken key n∧(yH aE taken key n≤8∨yH aE taken key n≤aE.length):=by
 unfold yH;have:=Uv aE taken key aE.length 0;split
 ·omega
 ·split
  ·omega
  ·omega
set_option maxRecDepth 100000 in
theorem CL (A1 A2:Option Addr) (c1 c2:Nat) (aE taken:List Int) (key n:Int) (w:World) (h1:Sl YK w w.heap.size A1 aE) (h2:Sl YK w w.heap.size A2 taken) (o9:aE.length≤1000000) (bC:taken.length≤1000000) (jL:0≤n) (pd:n≤1000000) :
  Calls Tryz.prog 82 #[.slice A1 aE.length c1,.slice A2 taken.length c2,.int .i64 key,.int .i64 n] w fun e w'=>e=.returned (.int .i64 (yH aE taken key n))∧Below w.heap.size w w':=by
 obtain ⟨V,hV⟩:∃ V,yH aE taken key n=V:=⟨_,rfl⟩
 have gA:=hV;rw [yH] at gA;rw [hV];clear hV;by_cases hc:n % 9=8
 ·rw [if_pos hc] at gA;have eR : (n % 9 == 8)=true:=by simpa using hc
  clear hc;subst gA
  go_enter Tryz.func82,Tryz.ntmps82
  go_wp2_with fail
  go_ret
  exact ⟨rfl,zQ _ _⟩
 ·rw [if_neg hc] at gA;have eR : (n % 9 == 8)=false:=by simpa using hc
  clear hc;by_cases h5:0<n % 5
  ·rw [if_pos h5] at gA;have HV:=zg gA;clear gA
   go_enter Tryz.func82,Tryz.ntmps82
   go_wp2_with fail
   go_loopw [9] (fun i wr=>∃ k:Nat,k≤aE.length∧i=.int .i64 k∧Below w.heap.size w wr∧ZU aE taken key k (aE.length - k)=V) (fun i _=>aE.length - (intOf i).toNat)
   case atStart=>exact ⟨0,by omega,rfl,zQ _ _,by simpa using HV.out⟩
   case round=>
    obtain ⟨k,hk,rfl,hb,cx⟩:=hrel;have eX:=zg cx;clear cx;have az:=hb.size;by_cases aD:k<aE.length
    ·obtain ⟨b,o,rfl,kC,q0⟩:=(h1.below hb).int aD;have aM:=eX.out;rw [show aE.length - k=(aE.length - (k+1))+1 by omega,ZU] at aM;have kV:=zg aM;clear aM
     go_upto_region 6 with fail
     obtain ⟨d,hd⟩:∃ d,decide (nth aE k=key∧¬ ((k:Int)+1)∈taken)=d:=⟨_,rfl⟩
     have Hd:=zg hd;clear hd
     go_cut [39] (fun s wx=>s=.bool d∧Below w.heap.size w wx)
     case first=>
      cases hc:(nth aE k == key) with
      | false =>
       go_wp2_with fail
       go_meet
       case rel=>exact ⟨by rw [← Hd.out];simp at hc;simp [hc],hb⟩
      | true =>
       go_wp2_with (go_at_call 33;refine (DZ _ _ _ _ _ ((h2.ext hb)) za).mono ?_;rintro e w' ⟨rfl,rfl⟩)
       go_meet
       case rel=>exact ⟨by rw [← Hd.out];simp at hc;simp [hc],hb⟩
     case rest=>
      obtain ⟨rfl,c7⟩:=hcut;cases d with
      | true =>
       have hh:=kV.out;rw [if_pos (by simpa using Hd.out)] at hh;subst hh
       go_wp2_with fail
       go_ret
       exact ⟨rfl,c7⟩
      | false =>
       have hh:=kV.out;rw [if_neg (by simpa using Hd.out)] at hh;have Hh:=zg hh;clear hh
       go_wp2_with fail
       go_roundw
       case rel=>exact ⟨k+1,by omega,by go_num,c7,Hh.out⟩
       case measure=>simp [intOf];omega
    ·obtain rfl:k=aE.length:=by omega
     have hh:=eX.out;simp [ZU] at hh;subst hh
     go_wp2_with fail
     go_ret
     exact ⟨rfl,hb⟩
  ·rw [if_neg h5] at gA;subst gA;have EI : ¬ 0<n % 5:=h5
   go_enter Tryz.func82,Tryz.ntmps82
   go_wp2_with fail
   go_loop [9] (fun i=>i=.int .i64 0) (fun _=>0)
   case atStart=>rfl
   case round=>
    subst hrel
    go_wp2_with fail
    all_goals go_ret
    all_goals exact ⟨rfl,zQ _ _⟩
end
section
open Go.RowKit
theorem BD {T E:Nat} (hT:Uf P T E sz cK) {n:Nat} (dQ:w.ownsRow base E sz v n xs) (ty:TypeId) (c:Nat) :
  (Builtin.append_ #[T,T] ty #[v,.slice none 0 c]).run P w=.ok v w:=by
 obtain ⟨i,z,hi,hz,az,kE,kP⟩:=hT.i;have ht:=hT.u;rcases dQ.2 with ⟨rfl,rfl⟩|⟨g,cap,cur,rfl,EM,hg,wN,qo,bj,tO⟩
 ·simp [Builtin.append_,run_underlying ht,sizeOf,typeInfo,hi,Builtin.lenOf,Builtin.firstCells,loadCells,loadCellsFrom]
 ·simp [Builtin.append_,run_underlying ht,sizeOf,typeInfo,hi,Builtin.lenOf,Builtin.firstCells,loadCells,loadCellsFrom,wN,storeCells]
theorem Ci {T E:Nat} (hT:Uf P T E sz cK) {W:World} {ops:Array Oper} {rest:List Oper} {o:Oper} {a:Act} {Q:Exit→Act→World→Prop}
{n : Nat} (dQ:W.ownsRow base E sz v n xs) {α:Type} {ah:α→List Value} (hw:lM sz ah) (h1:∀ a,∀ u∈ah a,u.oneCell'=true) {B:Nat} {l:List α} (mq:Sl ah W B A l)
   (o6:o.guard=none) (s x:Operand) (ho:o.op=.call { callee:=.builtin .append,args:=#[s,x],argTypes:=#[T,T] })
   {m c:Nat} (hs:a.eval s=v) (hx:a.eval x=.slice A m c) (hm:m=l.length)
   (hn:n+l.length≤1000000000) (qj:cK≤100000) (ib:base≤W.heap.size)
   (h:∀ A' c' w',w'.ownsRow base E sz (.slice A' (n+l.length) c') (n+l.length) (xs++flat ah l)→Below base W w'→W.grownBy w' v.ownBlock→wpList P ops Q rest (a.put o.dst (.slice A' (n+l.length) c')) w') :
   wpList P ops Q (o::rest) a W:=by
 obtain ⟨i,z,hi,hz,az,kE,kP⟩:=hT.i;subst hm;cases hA:A with
 | none=>
  subst hA;have mX:l=[]:=by
   cases l with
   | nil => rfl
   | cons b t => obtain ⟨_, _, e, _⟩ := mq zd; cases e
  subst mX;have hr:=BD hT dQ o.type c;refine wpList_plain o6 fun K hK=>?_;unfold Oper.wp execOp;simp only [ho,resolve,invoke,builtin,yV,yW,xZ,List.map_toArray,yn,List.map_nil,hs,hx,Ww,hr];obtain ⟨A',c',rfl⟩:=rP dQ;refine hK _ _ (h A' c' W (by simpa [flat] using dQ) (zQ _ _) ⟨rfl,rfl,rfl,zf _,fun _ _ _=>rfl⟩)
 | some ad=>
  subst hA;have jM:∀ j u,(flat ah l)[j]? = some u→W.cell? (ad.add j)=some u:=by
   intro j u hu;have aZ:l≠[]:=by intro e;subst e;simp [flat] at hu
   obtain ⟨b,off,e,_,hc⟩:=mq aZ;injection e with e
   subst e;have e2:(⟨b,off,none⟩:Addr).add j=⟨b,off+j,none⟩:=by unfold Addr.add;split <;> simp_all
   rw [e2];exact hc j u hu
  refine wpList_append_own_at (P:=P) _ o6 s x T ho base E i z sz cK hT.u hi hz az kE kP hT.pos v n xs hs dQ ad l.length c (flat ah l) hx (Dr hw l) jM ?_ ?_ ?_ ib ?_
  ·intro u hu;obtain ⟨b,_,hb⟩:=List.mem_flatMap.1 hu;exact h1 b u hb
  ·unfold maxLen;omega
  ·have:(n+l.length) * cK≤1000000000 * 100000:=Nat.mul_le_mul hn qj;omega
  ·intro v' w' bX hg _ _;obtain ⟨A',c',rfl⟩:=rP bX;exact h A' c' w' bX (vh dQ ib hg) hg
end
end Go.Proofs.YtedkppfghdipdaaGreatDoor
