/-
  Lemmas, in parts.
-/
import Derived.Test.YtedkppfghdipdaaGreatDoorZC
import Derived.Test.YtedkppfghdipdaaGreatDoorZFmMapH
import Derived.Deep.RegionHeld3
import Derived.Deep.DrawnRows
import Derived.Deep.DeepCutAuto
namespace Go.Proofs.YtedkppfghdipdaaGreatDoor
set_option linter.unusedVariables false
set_option maxHeartbeats 16000000
variable {l:List aG}
section
open Go.RowKit
def kS (l:List aG) (i k:Nat):Bool:=(nth l i).done && decide ((nth l i).ret<(nth l k).call)
theorem Us (l:List aG) (i k:Nat) (hi:i<l.length) (hk:k<l.length):zQ Tryz.prog 140 [.list 8 (l.map aG.fv),.int .i64 i,.int .i64 k] .fr (.bool (kS l i k)):=by
 refine zj 37 Tryz.func140 Tryz.ntmps140 rfl ?_;change FW _ _ _ ⟨[(0,.list 8 (l.map aG.fv)),(1,.int .i64 i),(2,.int .i64 k)],[]⟩;refine za ?_;refine yd (fun h=>?_) (fun h=>?_)
 ·exfalso;simp at h;omega
 ·refine za ?_;refine FW.cond rfl (fun h=>?_) (fun h=>?_)
  ·exfalso;simp at h;omega
  refine yp ?_;refine nW (fun h=>?_) (fun h=>?_)
  ·refine zp ?_;refine ⟨by kernel_rfl,?_⟩;skip;refine FW.ret ⟨.inl rfl,zg rfl rfl ?_ rfl⟩;simp [kS,h];rfl
  ·refine zp ?_;refine ⟨by kernel_rfl,?_⟩;skip;refine FW.ret ⟨.inl rfl,zg rfl rfl ?_ rfl⟩;simp [kS,h];rfl
def iC (l:List aG) (i k:Int):Bool:=if 0≤i∧0≤k∧i<l.length∧k<l.length then kS l i.toNat k.toNat else false
theorem uu {i k:Int} (h:¬ (0≤i∧0≤k∧i<l.length∧k<l.length)):iC l i k=false:=by unfold iC;rw [if_neg h]
theorem uV {i k:Nat} (hi:i<l.length) (hk:k<l.length):iC l i k=kS l i k:=by
 unfold iC;rw [if_pos zc];rfl
theorem Vy (l:List aG) (i k:Int) (hl:l.length≤1000000000):zQ Tryz.prog 140 [.list 8 (l.map aG.fv),.int .i64 i,.int .i64 k] .fr (.bool (iC l i k)):=by
 by_cases ck:0≤i∧0≤k∧i<l.length∧k<l.length
 ·obtain ⟨a,ha⟩:∃ a:Nat,i=a:=⟨i.toNat,by omega⟩
  obtain ⟨b,hb⟩:∃ b:Nat,k=b:=⟨k.toNat,by omega⟩
  subst ha;subst hb;rw [uV zc zc];exact Us l a b zc zc
 ·rw [uu ck];refine zj 37 Tryz.func140 Tryz.ntmps140 rfl ?_;change FW _ _ _ ⟨[(0,.list 8 (l.map aG.fv)),(1,.int .i64 i),(2,.int .i64 k)],[]⟩;refine za ?_;refine yd (fun h=>?_) (fun h=>?_)
  ·refine za ?_;exact FW.ret ⟨.inl rfl,zg rfl rfl rfl rfl⟩
  ·refine za ?_;refine FW.cond rfl (fun h2=>?_) (fun h2=>?_)
   ·refine za ?_;exact FW.ret ⟨.inl rfl,zg rfl rfl rfl rfl⟩
   ·exfalso;simp at h h2;exact ck zc
theorem ue {c:Ctx} {fn:Func} {t:List (Nat×FV)} {ob:List (Nat×yb)} {d T id aa E sz c6:Nat} {kk:TK} {z cs:List FV} (hr:fn.results.toList=[.cell d T]) (h:look .undef t d=.ptr id aa 0 0) (hT:c.ty T=⟨kk,sz,c6,z⟩) (hk:kk.aQ = some true) (hp:0<sz) (hb:look {} ob id=⟨aa,.own,E,sz,[cs]⟩) (hl:cs.length=sz) (hf:(FV.agg cs).flat=true):gz c fn ⟨t,ob⟩ .fr (.agg cs):=by
 have bD : (⟨t,ob⟩:ab).ob id=⟨aa,.own,E,sz,[cs]⟩:=hb;have hc:=km.cell (c:=c) (s:=⟨t,ob⟩) d T (bb:=true) (by rw [hT];exact hk) (id:=id) (aa:=aa) (j:=0) (o:=0) h ⟨(fun e=>by (rw [bD] at e;cases e)),by rw [bD]⟩ (by rw [bD];rfl) (by rw [bD];exact Nat.one_pos) (by rw [bD,hT];simp) (by rw [bD];exact hp);have e:xB (c.ty T) ((((⟨t,ob⟩:ab).ob id).es.getD 0 []).drop 0)=.agg cs:=by
  rw [bD,hT];unfold xB;rw [hk];show FV.agg (cs.take sz)=_;rw [ya zc]
 rw [e] at hc;exact .flat (fs:=[.agg cs]) (by rw [hr];exact .cons hc .nil) rfl hf
theorem ZF (x:br) (od:FV) (cn:kj od) (l:List aG) (dJ:x.ops=l.map aG.fv) (i:Nat) (hi:i<l.length):zQ Tryz.prog 91 [x.x od,.int .i64 i] .fr (.agg (nth l i).fv):=by
 have hA:=x.one cn;rw [dJ] at hA;unfold br.x;rw [dJ];refine zj 11 Tryz.func91 Tryz.ntmps91 rfl ?_;change FW _ _ _ ⟨[(0,_),(1,_)],[]⟩;refine yG ?_;refine zu.bn (yh rfl rfl hA rfl rfl) rfl rfl ?_;refine za ?_;exact FW.ret ⟨.inl rfl,ue rfl rfl rfl rfl zb rfl rfl rfl⟩
theorem su (x:br) (od:FV) (cn:kj od) (l:List aG) (dJ:x.ops=l.map aG.fv) (hl:l.length≤1000000) (i k:Int):zQ Tryz.prog 88 [x.x od,.int .i64 i,.int .i64 k] .fr (.bool (iC l i k)):=by
 have hb:=Vy l i k zc;generalize iC l i k=B at hb ⊢;have hA:=x.one cn;rw [dJ] at hA;unfold br.x;rw [dJ];refine zj 13 Tryz.func88 Tryz.ntmps88 rfl ?_;change FW _ _ _ ⟨[(0,_),(1,_),(2,_)],[]⟩;refine yG ?_;refine zu.bn (yh rfl rfl hA rfl rfl) rfl rfl ?_;refine za ?_;refine zy hb (by repeat (first|exact zh.nil|refine zh.cons zi ?_)) rfl rfl ?_;refine za ?_;exact FW.ret ⟨.inl rfl,zg rfl rfl rfl rfl⟩
theorem WU (x:br) (od:FV) (cn:kj od) (l:List aG) (dJ:x.ops=l.map aG.fv) (i:Nat) (hi:i<l.length):zQ Tryz.prog 89 [x.x od,.int .i64 i] .fr (.bool (decide (x.ar=(nth l i).key))):=by
 have bK:=ZF x od cn l dJ i hi;generalize nth l i=o at bK ⊢;have hA:=x.one cn;unfold br.x at bK ⊢;refine zj 13 Tryz.func89 Tryz.ntmps89 rfl ?_;change FW _ _ _ ⟨[(0,_),(1,_)],[]⟩;refine yG ?_;refine zu.bn (yh rfl rfl hA rfl rfl) rfl rfl ?_;refine yp ?_;refine xT bK (by repeat (first|exact zh.nil|refine zh.cons zi ?_)) rfl rfl ?_;skip;refine uN rfl rfl rfl rfl rfl rfl rfl rfl ?_;refine zp ?_;refine ⟨by kernel_rfl,?_⟩;skip;exact FW.ret ⟨.inl rfl,zg rfl rfl rfl rfl⟩
theorem Wi (x:br) (od:FV) (cn:kj od) (l:List aG) (dJ:x.ops=l.map aG.fv) (hl:l.length≤1000000) (i k:Nat) (hi:i<l.length) (hk:k<l.length):zQ Tryz.prog 90 [x.x od,.agg [.int .i64 i,.int .i64 k,.int .i64 5]] .fr (.bool (iC l i k)):=by
 have h1:=ZF x od cn l dJ i hi;have h2:=ZF x od cn l dJ k hk;have hb:=su x od cn l dJ hl i k;generalize nth l i=o1 at h1;generalize nth l k=o2 at h2;generalize iC l i k=B at hb ⊢;have hA:=x.one cn;unfold br.x at h1 h2 hb ⊢;refine zj 81 Tryz.func90 Tryz.ntmps90 rfl ?_;change FW _ _ _ ⟨[(0,_),(1,_)],[]⟩;refine yG ?_;refine zu.bn (yh rfl rfl hA rfl rfl) rfl rfl ?_;refine yp ?_;refine xT h1 (by repeat (first|exact zh.nil|refine zh.cons zi ?_)) rfl rfl ?_;refine zp ?_;refine xT h2 (by repeat (first|exact zh.nil|refine zh.cons zi ?_)) rfl rfl ?_;refine zp ?_;refine ⟨by kernel_rfl,?_⟩;refine za ?_;refine zy hb (by repeat (first|exact zh.nil|refine zh.cons zi ?_)) rfl rfl ?_;refine za ?_;exact FW.ret ⟨.inl rfl,zg rfl rfl rfl rfl⟩
def Zs:List aG:=[⟨0,1,0,1,0,0,1,true⟩,⟨1,0,0,0,0,2,3,true⟩]
def xS:br:={ k:=2,ops:=Zs.map aG.fv,cl:=4,ed:=[[.int .i64 0,.int .i64 1,.int .i64 5]] }
def xH:br:={ k:=2,ops:=Zs.map aG.fv,cl:=0 }
def j8:FV:=.list 1 [[.int .i64 0],[.int .i64 1]]
theorem ss:zQ Tryz.prog 44 ([xS.x .nil]++[]) .fr (.bool true):=by
 have h0:=ZF xS .nil rfl Zs rfl 0 zb;have h1:=ZF xS .nil rfl Zs rfl 1 zb;have hj:=Wi xS .nil rfl Zs rfl zb 0 1 zb zb;rw [show iC Zs ((0:Nat):Int) ((1:Nat):Int)=true by decide] at hj;have k0:=WU xS .nil rfl Zs rfl 0 zb;have k1:=WU xS .nil rfl Zs rfl 1 zb;have w0:=Ys (nth Zs 0);have o1:=Zo (nth Zs 1);simp only [br.x,xS] at h0 h1 hj k0 k1 ⊢;refine zj 85 Tryz.func44 Tryz.ntmps44 rfl ?_;change FW _ _ _ ⟨[(0,_)],[]⟩;refine za ?_;refine FW.loop (fun i:Nat=>⟨[(1,.ptr 101 0 0 0),(3,.ptr 103 0 0 0),(12,.list 3 [[.int .i64 0,.int .i64 1,.int .i64 5]]),(13,.int .i64 1),(14,.int .i64 (i:Nat))],[(101,⟨0,.own,64,15,[[.int .i64 2,.int .i64 0,.int .i64 0,.int .i64 0,.int .i64 0,.int .i64 0,.list 5 [],.list 8 (Zs.map aG.fv),.list 1 [],.list 4 [],.int .i64 2,.int .i64 4,.int .i64 0,.nil,.list 3 [[.int .i64 0,.int .i64 1,.int .i64 5]]]]⟩),(103,⟨0,.own,38,1,[[.list 3 [[.int .i64 0,.int .i64 1,.int .i64 5]]]]⟩)]⟩) (fun i=>i≤1) (fun i=>1 - i) 0 zb ?_ ?_
 ·exact (aC.cv [⟨101,some 1,1,⟨0,.own,64,15,[[.int .i64 2,.int .i64 0,.int .i64 0,.int .i64 0,.int .i64 0,.int .i64 0,.list 5 [],.list 8 (Zs.map aG.fv),.list 1 [],.list 4 [],.int .i64 2,.int .i64 4,.int .i64 0,.nil,.list 3 [[.int .i64 0,.int .i64 1,.int .i64 5]]]]⟩⟩,⟨103,some 3,1,⟨0,.own,38,1,[[.list 3 [[.int .i64 0,.int .i64 1,.int .i64 5]]]]⟩⟩] zn zt)
 intro i hi;obtain rfl|rfl:i=0∨i=1:=by omega
 ·refine za ?_;refine zy hj (by repeat (first|exact zh.nil|refine zh.cons zi ?_)) rfl ⟨_,_,rfl,rfl,rfl⟩ ?_;refine za ?_;refine zy k0 (by repeat (first|exact zh.nil|refine zh.cons zi ?_)) rfl ⟨_,_,rfl,rfl,rfl⟩ ?_;refine za ?_;refine zy k1 (by repeat (first|exact zh.nil|refine zh.cons zi ?_)) rfl ⟨_,_,rfl,rfl,rfl⟩ ?_;refine za ?_;refine ⟨1,by decide,by decide,?_⟩;exact (aC.cv [⟨101,some 101,0,⟨0,.own,64,15,[[.int .i64 2,.int .i64 0,.int .i64 0,.int .i64 0,.int .i64 0,.int .i64 0,.list 5 [],.list 8 (Zs.map aG.fv),.list 1 [],.list 4 [],.int .i64 2,.int .i64 4,.int .i64 0,.nil,.list 3 [[.int .i64 0,.int .i64 1,.int .i64 5]]]]⟩⟩,⟨103,some 103,0,⟨0,.own,38,1,[[.list 3 [[.int .i64 0,.int .i64 1,.int .i64 5]]]]⟩⟩] zn zt)
 ·refine yp ?_;refine xT h0 (by repeat (first|exact zh.nil|refine zh.cons zi ?_)) rfl rfl ?_;refine zp ?_;refine xT h1 (by repeat (first|exact zh.nil|refine zh.cons zi ?_)) rfl rfl ?_;refine zp ?_;refine ⟨by kernel_rfl,?_⟩;refine za ?_;refine zy o1 (by repeat (first|exact zh.nil|refine zh.cons zi ?_)) rfl rfl ?_;refine za ?_;refine zy w0 (by repeat (first|exact zh.nil|refine zh.cons zi ?_)) rfl ⟨_,_,rfl,rfl,rfl⟩ ?_;refine za ?_;exact FW.ret ⟨.inl rfl,zg rfl rfl rfl rfl⟩
theorem qk:Maps.Keyed Tryz.prog 3:=Maps.int_keyed (q:=.i64) zq
theorem og {a:Int} (ha:bq a):ZV Tryz.prog 3 (.int .i64 a):=⟨rfl,_,Maps.keyOf_int_mk (q:=.i64) zq (Ux ha)⟩
def jz:FV:=.agg [.int .i64 2,.int .i64 0,.int .i64 0,.int .i64 0,.int .i64 0,.int .i64 0,.list 5 [],.list 8 (Zs.map aG.fv),.list 1 [],.list 4 [],.int .i64 2,.int .i64 0,.int .i64 0,.list 1 [[.int .i64 0],[.int .i64 1]],.list 3 []]
theorem qm:xH.x j8=jz:=rfl
theorem UT (i:Nat) (hi:i<2):zQ Tryz.prog 117 ([.int .i64 i]++[(.aH 15 [[.int .i64 2,.int .i64 0,.int .i64 0,.int .i64 0,.int .i64 0,.int .i64 0,.list 5 [],.list 8 (Zs.map aG.fv),.list 1 [],.list 4 [],.int .i64 2,.int .i64 0,.int .i64 0,.list 1 [[.int .i64 0],[.int .i64 1]],.list 3 []]] 0 0)]) .fr (.bool true):=by
 have bK:=ZF xH j8 rfl Zs rfl i hi;have hd:(nth Zs i).done=true:=by
  obtain rfl|rfl:i=0∨i=1:=by omega
  ·rfl
  ·rfl
 generalize nth Zs i=o at bK hd;rw [qm] at bK;unfold jz at bK;refine zj 8 Tryz.func117 Tryz.ntmps117 rfl ?_;change FW _ _ _ ⟨[(0,_),(1,_)],[]⟩;refine za ?_;refine zy bK (by repeat (first|exact zh.nil|refine zh.cons zi ?_)) rfl rfl ?_;refine uf rfl rfl rfl rfl rfl rfl rfl rfl ?_;refine za ?_;exact FW.ret ⟨.inl rfl,zg rfl rfl (congrArg FV.bool hd) rfl⟩
theorem Uw:zQ Tryz.prog 102 [jz,(.fn 117 [(.aH 15 [[.int .i64 2,.int .i64 0,.int .i64 0,.int .i64 0,.int .i64 0,.int .i64 0,.list 5 [],.list 8 (Zs.map aG.fv),.list 1 [],.list 4 [],.int .i64 2,.int .i64 0,.int .i64 0,.list 1 [[.int .i64 0],[.int .i64 1]],.list 3 []]] 0 0)]),(.fn 118 [(.aH 15 [[.int .i64 2,.int .i64 0,.int .i64 0,.int .i64 0,.int .i64 0,.int .i64 0,.list 5 [],.list 8 (Zs.map aG.fv),.list 1 [],.list 4 [],.int .i64 2,.int .i64 0,.int .i64 0,.list 1 [[.int .i64 0],[.int .i64 1]],.list 3 []]] 0 0)])] .fr (.bool true):=by
 have s0:=UT 0 zb;have s1:=UT 1 zb;unfold jz;refine zj 68 Tryz.func102 Tryz.ntmps102 rfl ?_;change FW _ _ _ ⟨[(0,_),(1,_),(2,_)],[]⟩;refine za ?_;refine zu.bn (uX (n:=2) rfl rfl rfl rfl rfl rfl rfl rfl zb zb rfl) rfl rfl ?_;refine za ?_;refine FW.loop (fun p:Nat×List (List FV)=>⟨[(1,(.fn 117 [(.aH 15 [[.int .i64 2,.int .i64 0,.int .i64 0,.int .i64 0,.int .i64 0,.int .i64 0,.list 5 [],.list 8 (Zs.map aG.fv),.list 1 [],.list 4 [],.int .i64 2,.int .i64 0,.int .i64 0,.list 1 [[.int .i64 0],[.int .i64 1]],.list 3 []]] 0 0)])),(2,(.fn 118 [(.aH 15 [[.int .i64 2,.int .i64 0,.int .i64 0,.int .i64 0,.int .i64 0,.int .i64 0,.list 5 [],.list 8 (Zs.map aG.fv),.list 1 [],.list 4 [],.int .i64 2,.int .i64 0,.int .i64 0,.list 1 [[.int .i64 0],[.int .i64 1]],.list 3 []]] 0 0)])),(7,.own 100 0 0 2),(20,.list 1 [[.int .i64 0],[.int .i64 1]]),(21,.int .i64 2),(22,.int .i64 (p.1:Nat))],[(100,⟨0,.own,3,1,p.2⟩)]⟩) (fun p=>p=(0,[[.int .i64 0],[.int .i64 0]])∨p=(1,[[.int .i64 1],[.int .i64 0]])∨p=(2,[[.int .i64 1],[.int .i64 1]])) (fun p=>2 - p.1) (0,[[.int .i64 0],[.int .i64 0]]) (.inl rfl) ?_ ?_
 ·exact (aC.cv [⟨100,some 16,1,⟨0,.own,3,1,[[.int .i64 0],[.int .i64 0]]⟩⟩] zn zt)
 rintro _ (rfl|rfl|rfl)
 ·refine za ?_;refine ⟨(1,[[.int .i64 1],[.int .i64 0]]),.inr (.inl rfl),(by show 2 - 1<2 - 0;decide),?_⟩;exact (aC.cv [⟨100,some 100,0,⟨0,.own,3,1,[[.int .i64 1],[.int .i64 0]]⟩⟩] zn zt)
 ·refine za ?_;refine ⟨(2,[[.int .i64 1],[.int .i64 1]]),.inr (.inr rfl),(by show 2 - 2<2 - 1;decide),?_⟩;exact (aC.cv [⟨100,some 100,0,⟨0,.own,3,1,[[.int .i64 1],[.int .i64 1]]⟩⟩] zn zt)
 ·refine za ?_;refine FW.loop (fun i:Nat=>⟨[(1,(.fn 117 [(.aH 15 [[.int .i64 2,.int .i64 0,.int .i64 0,.int .i64 0,.int .i64 0,.int .i64 0,.list 5 [],.list 8 (Zs.map aG.fv),.list 1 [],.list 4 [],.int .i64 2,.int .i64 0,.int .i64 0,.list 1 [[.int .i64 0],[.int .i64 1]],.list 3 []]] 0 0)])),(2,(.fn 118 [(.aH 15 [[.int .i64 2,.int .i64 0,.int .i64 0,.int .i64 0,.int .i64 0,.int .i64 0,.list 5 [],.list 8 (Zs.map aG.fv),.list 1 [],.list 4 [],.int .i64 2,.int .i64 0,.int .i64 0,.list 1 [[.int .i64 0],[.int .i64 1]],.list 3 []]] 0 0)])),(33,.own 100 0 0 2),(34,.int .i64 2),(35,.int .i64 (i:Nat))],[(100,⟨0,.own,3,1,[[.int .i64 1],[.int .i64 1]]⟩)]⟩) (fun i=>i≤2) (fun i=>2 - i) 0 zb ?_ ?_
  ·exact (aC.cv [⟨100,some 100,0,⟨0,.own,3,1,[[.int .i64 1],[.int .i64 1]]⟩⟩] zn zt)
  intro i hi;obtain rfl|rfl|rfl:i=0∨i=1∨i=2:=by omega
  ·refine za ?_;refine YL rfl s0 (by repeat (first|exact zh.nil|refine zh.cons zi ?_)) rfl ⟨_,_,rfl,rfl,rfl⟩ ?_;refine za ?_;refine ⟨1,by decide,by decide,?_⟩;exact (aC.cv [⟨100,some 100,0,⟨0,.own,3,1,[[.int .i64 1],[.int .i64 1]]⟩⟩] zn zt)
  ·refine za ?_;refine YL rfl s1 (by repeat (first|exact zh.nil|refine zh.cons zi ?_)) rfl ⟨_,_,rfl,rfl,rfl⟩ ?_;refine za ?_;refine ⟨2,by decide,by decide,?_⟩;exact (aC.cv [⟨100,some 100,0,⟨0,.own,3,1,[[.int .i64 1],[.int .i64 1]]⟩⟩] zn zt)
  ·refine za ?_;exact FW.ret ⟨.inl rfl,zg rfl rfl rfl rfl⟩
theorem uj:zQ Tryz.prog 64 ([jz]++[]) .fr (.bool false):=by
 have nc:=Uw;have p0:=ZF xH j8 rfl Zs rfl 0 zb;have p1:=ZF xH j8 rfl Zs rfl 1 zb;have w0:=Ys (nth Zs 0);have o0:=Zo (nth Zs 0);have o1:=Zo (nth Zs 1);have hc:=fun aI=>xb [] 119 aI (fun _=>true) zb (fun o h=>by cases h);rw [qm] at p0 p1;unfold jz at nc p0 p1 ⊢;refine zj 69 Tryz.func64 Tryz.ntmps64 rfl ?_;change FW _ _ _ ⟨[(0,_)],[]⟩
 (repeat (first|refine FW.seq ?_|refine FW.region ?_|refine zu.nil ?_|refine zu.bn (yh rfl rfl rfl rfl rfl) rfl rfl ?_|refine zu.aj (xz rfl) rfl rfl ?_))
 refine zu.le ?_ (aC.bx 1 rfl rfl);refine za ?_;refine zy nc (by repeat (first|exact zh.nil|refine zh.cons zi ?_)) rfl ⟨_,_,rfl,rfl,rfl⟩ ?_;refine za ?_;refine FW.loop (fun p:Nat×List (List FV)=>⟨[(1,(.aH 15 [[.int .i64 2,.int .i64 0,.int .i64 0,.int .i64 0,.int .i64 0,.int .i64 0,.list 5 [],.list 8 (Zs.map aG.fv),.list 1 [],.list 4 [],.int .i64 2,.int .i64 0,.int .i64 0,.list 1 [[.int .i64 0],[.int .i64 1]],.list 3 []]] 0 0)),(5,.omap 100 0),(26,.list 1 [[.int .i64 0],[.int .i64 1]]),(27,.int .i64 2),(28,.int .i64 (p.1:Nat))],[(100,⟨0,.aX,137,0,p.2⟩)]⟩) (fun p=>p=(0,[])∨p=(1,[[.int .i64 0,.int .i64 1]])) (fun p=>2 - p.1) (0,[]) (.inl rfl) ?_ ?_
 ·exact (aC.cv [⟨100,some 22,1,⟨0,.aX,137,0,[]⟩⟩] zn zt)
 rintro _ (rfl|rfl)
 ·refine za ?_;refine zy p0 (by repeat (first|exact zh.nil|refine zh.cons zi ?_)) rfl rfl ?_;refine za ?_;refine zy o0 (by repeat (first|exact zh.nil|refine zh.cons zi ?_)) rfl rfl ?_;refine za ?_;refine zy w0 (by repeat (first|exact zh.nil|refine zh.cons zi ?_)) rfl rfl ?_;refine za ?_;refine yN qk (es:=[]) (fun row h=>by cases h) (og (a:=0) zb) (.inr ⟨(fun row h=>by cases h),rfl⟩) rfl rfl rfl rfl rfl rfl rfl ?_
  (repeat (first|refine FW.seq ?_|refine FW.region ?_|refine zu.nil ?_|refine zu.aj (xX rfl rfl rfl rfl rfl) rfl rfl ?_|refine zu.aj (xP rfl rfl rfl (by first|omega|(simp;done)) rfl rfl rfl) rfl rfl ?_|refine zu.aj (n7 rfl rfl) rfl rfl ?_|refine zu.aj (xj rfl) rfl rfl ?_|refine zu.aj (xP rfl rfl rfl (by first|omega|(simp;done)) rfl rfl rfl) rfl ⟨_,_,rfl,rfl,rfl⟩ ?_|refine zu.aj (xj rfl) rfl ⟨_,_,rfl,rfl,rfl⟩ ?_|refine zu.aj (xX rfl rfl rfl rfl rfl) rfl ⟨_,_,rfl,rfl,rfl⟩ ?_|refine zu.aj (sN rfl rfl rfl rfl (by exact jD.none) (by exact jC.some rfl) (by first|omega|(simp;done)) (by first|omega|(simp;done))) rfl ⟨_,_,rfl,rfl,rfl⟩ ?_))
  refine zu.le ?_ (aC.bx 7 rfl rfl);refine za ?_;refine zy (hc [(.aH 15 [[.int .i64 2,.int .i64 0,.int .i64 0,.int .i64 0,.int .i64 0,.int .i64 0,.list 5 [],.list 8 (Zs.map aG.fv),.list 1 [],.list 4 [],.int .i64 2,.int .i64 0,.int .i64 0,.list 1 [[.int .i64 0],[.int .i64 1]],.list 3 []]] 0 0),.aH 1 [[.int .i64 0]] 0 0]) (by repeat (first|exact zh.nil|refine zh.cons zi ?_)) rfl ⟨_,_,rfl,rfl,rfl⟩ ?_;refine za ?_;refine ⟨(1,[[.int .i64 0,.int .i64 1]]),.inr rfl,(by show 2 - 1<2 - 0;decide),?_⟩;exact (aC.cv [⟨100,some 100,0,⟨0,.aX,137,0,[[.int .i64 0,.int .i64 1]]⟩⟩] zn zt)
 ·refine za ?_;refine zy p1 (by repeat (first|exact zh.nil|refine zh.cons zi ?_)) rfl rfl ?_;refine za ?_;refine zy o1 (by repeat (first|exact zh.nil|refine zh.cons zi ?_)) rfl rfl ?_;refine za ?_;refine UL (e:=3) (es:=[[.int .i64 0,.int .i64 1]]) (vf:=.int .i64 1) (found:=true) qk (fun row h kf e=>by simp at h;subst h;injection e with e;subst e;exact og zb) (og (a:=0) zb) (.inl ⟨rfl,.head _⟩) rfl rfl zb rfl rfl rfl rfl rfl ⟨_,_,rfl,rfl,rfl⟩ ?_;refine za ?_;exact FW.ret ⟨.inl rfl,zg rfl rfl rfl rfl⟩
theorem VH:zQ Tryz.prog 47 ([jz]++[]) .fr (.bool true):=by
 unfold jz;refine zj 21 Tryz.func47 Tryz.ntmps47 rfl ?_;change FW _ _ _ ⟨[(0,_)],[]⟩;refine za ?_;exact FW.ret ⟨.inl rfl,zg rfl rfl rfl rfl⟩
theorem UO:zQ Tryz.prog 43 ([xS.x .nil]++[]) .fr (.bool true):=by
 have h1:=Yq xS .nil 0 (.inl ⟨rfl,rfl⟩) 0 1;simp only [br.x,xS] at h1 ⊢;refine zj 11 Tryz.func43 Tryz.ntmps43 rfl ?_;change FW _ _ _ ⟨[(0,_)],[]⟩;refine yp ?_;refine zF (zJ 0 1) (by repeat (first|exact zh.nil|refine zh.cons zi ?_)) rfl rfl ?_;refine zp ?_;refine tZ rfl h1 (by repeat (first|exact zh.nil|refine zh.cons zi ?_)) rfl rfl ?_;refine zp ?_;refine ⟨by kernel_rfl,?_⟩;skip;exact FW.ret ⟨.inl rfl,zg rfl rfl rfl rfl⟩
theorem uZ:∀ o∈Zs,kl o:=by
 intro o h;simp only [Zs,zU,List.not_mem_nil,or_false] at h;rcases h with rfl|rfl <;> (unfold kl bq;decide)
theorem qg:zQ Tryz.prog 20 [.int .i64 2,.list 8 (Zs.map aG.fv)] .fr (.bool true):=by
 have h:=VA 2 zb zb Zs zb uZ;rwa [show jB (gj 2) Zs=true by decide] at h
theorem uT:zQ Tryz.prog 8 [xS.c,xS.e,xS.v .nil] .fr (.int .i64 0):=
 xx xS .nil rfl zb zb true (.inr ⟨rfl,by decide,qg⟩)
  true (fun h=>by cases h) _ _ [] [] (fun _=>zH (i:=3) rfl) true true true (fun _=>UO) (fun _ _=>ZA xS [] [(0,1,5)] rfl zb zb zb zb zb) (fun _ _ _=>ss) 0 (fun h=>by cases h) (fun _=>rfl)
theorem uS:zQ Tryz.prog 8 [xH.c,xH.e,xH.v j8] .fr (.int .i64 31):=
 xx xH j8 rfl zb zb true (.inr ⟨rfl,by decide,qg⟩)
  true (fun h=>by cases h) _ _ [] [] (fun _=>zH (i:=19) rfl) true true false (fun _=>VH) (fun _ _=>ZA xH [0,1] [] rfl zb zb zb zb zb) (fun _ _ _=>uj) 31 (fun h=>by cases h) (fun _=>rfl)
theorem Xb:zQ Tryz.prog 10 [] .fr (.bool true):=by
 have hS:=uT;have hH:=uS;have hz:=uk 2 4 0 [] [[.int .i64 0,.int .i64 1,.int .i64 5]] zb zb;simp only [br.c,br.e,br.v,xS,xH,j8] at hS hH;refine zj 36 Tryz.func10 Tryz.ntmps10 rfl ?_;change FW _ _ _ ⟨[],[]⟩;refine za ?_;refine zw (es:=Zs.map aG.fv) rfl rfl rfl (by refine zY.agg rfl rfl rfl ?_;refine zY.agg rfl rfl rfl ?_;exact zY.nil) rfl rfl rfl rfl rfl ?_
 (repeat (first|refine FW.seq ?_|refine FW.region ?_|refine zu.nil ?_|refine zu.aj (xz rfl) rfl rfl ?_|refine YK rfl rfl rfl rfl ?_|refine zu.bn (Zl rfl rfl rfl rfl rfl) rfl rfl ?_|refine zu.dU (xu rfl rfl rfl rfl rfl rfl rfl rfl) rfl ?_|refine zu.aj (xj rfl) rfl rfl ?_|refine xn.nil ?_|refine xn.one rfl rfl rfl rfl rfl ?_))
 refine zw (es:=[[.int .i64 0,.int .i64 1,.int .i64 5]]) rfl rfl rfl (by refine zY.agg rfl rfl rfl ?_;exact zY.nil) rfl rfl rfl rfl rfl ?_;refine za ?_;refine zw (es:=[[.int .i64 0],[.int .i64 1]]) rfl rfl rfl (by refine zY.int rfl rfl ?_;refine zY.int rfl rfl ?_;exact zY.nil) rfl rfl rfl rfl rfl ?_;refine za ?_;refine zy hS XD rfl rfl ?_;refine za ?_;refine zy hH (by repeat (first|exact zh.nil|refine zh.cons (by exact Ve.sub rfl rfl (by repeat (first|exact FV.le.refl _|exact FV.le.nil _|refine FV.le.agg ?_|refine FV.le.bG ?_|exact ea.nil|refine ea.cons ?_ ?_|exact FV.le.undef _))) ?_)) rfl ⟨_,_,rfl,rfl,rfl⟩ ?_;refine za ?_;refine zy hz (by repeat (first|exact zh.nil|refine zh.cons (by exact Ve.sub rfl rfl (by repeat (first|exact FV.le.refl _|exact FV.le.nil _|refine FV.le.agg ?_|refine FV.le.bG ?_|exact ea.nil|refine ea.cons ?_ ?_|exact FV.le.undef _))) ?_)) rfl ⟨_,_,rfl,rfl,rfl⟩ ?_;refine za ?_;exact FW.ret ⟨.inl rfl,zg rfl rfl rfl rfl⟩
end
section
open Go.RowKit
attribute [local go_sem ↓] Go.wp_at_zero Go.wp_at_succ
end
section
open Go.RowKit
attribute [local go_sem ↓] Go.wp_at_zero Go.wp_at_succ
end
section
open Go.RowKit
attribute [local go_sem ↓] Go.wp_at_zero Go.wp_at_succ
end
section
open Go.RowKit
attribute [local go_sem ↓] Go.wp_at_zero Go.wp_at_succ
end
/-! ### the observations made from numbers are of sequential processes -/
/-! ### replies and invocations of observations made from numbers -/
/-! ### what an operation looks like -/
/-! ### how many are done -/
section
open Go.RowKit
attribute [local go_sem ↓] Go.wp_at_zero Go.wp_at_succ
structure eK where
 p:Int
 inv:Bool
 n:Int
 deriving DecidableEq,Inhabited
section
variable {w:World} {B:Nat} {A:Option Addr}
end
structure kI where
 out:List eK
 dW:List Int
 calls:Nat
def vI:kI:=⟨[],[0,0,0,0],0⟩
def vr (aL n:Int) (p:Nat) (s:kI):kI:=
 if nth s.dW p=0∧(s.calls:Int)<aL then ⟨s.out++[⟨p,true,n / 4⟩],s.dW.set p 1,s.calls+1⟩
 else if nth s.dW p=1∧n / 4 % 11=10 then { s with dW:=s.dW.set p 2 }
 else if nth s.dW p=1 then { s with dW:=s.dW.set p 0,out:=s.out++[⟨p,false,n / 4⟩] }
 else s
def vJ (l:List Int) (aL:Int) (i:Nat) (s:kI):kI:=vr aL (yo (nth l i) 1000000) (yo (nth l i) 1000000 % 4).toNat s
def vB (l:List Int) (aL:Int) (k:Nat):kI:=lT (vJ l aL) vI k
def WR (l:List Int) (aL:Int):List eK:=(vB l aL (min l.length 40)).out
end
def dW (ev:List eK):Nat→Int→Bool
 | 0, _ => false
 | k+1, p => if (nth ev k).p=p then (nth ev k).inv else dW ev k p
section
open Go.RowKit
end
section
open Go.RowKit
attribute [local go_sem ↓] Go.wp_at_zero Go.wp_at_succ
def vu (l:List Int) (aL:Int):Int:=if l.length=0 then 0 else yo (nth l 0) aL
/-! ### chosen -/
def mq (ws:List Int) (key:Int):Nat→List Int
 | 0 => [0]
 | k+1 => if nth ws k=key then mq ws key k ++ [(k:Int)+1] else mq ws key k
def pV (ws:List Int) (key n j4:Int) (fresh:Bool):Int:=
 if fresh=true∧0<n % 7 then j4
 else if n % 13=12 then 1+n / 13 % 12
 else nth (mq ws key ws.length) (n / 2 % (mq ws key ws.length).length).toNat
/-! ### popped -/
def pZ (dO taken:List Int) (key:Int) (k:Nat):Nat→Int
 | 0 => 0
 | m+1 => if nth dO k=key ∧ ¬ ((k:Int)+1) ∈ taken then (k:Int)+1 else pZ dO taken key (k+1) m
def p8 (dO taken:List Int) (key n:Int):Int:=
 if n % 9=8 then n / 9 % 9 else if 0<n % 5 then pZ dO taken key 0 dO.length else 0
end
section
open Go.RowKit
end
end Go.Proofs.YtedkppfghdipdaaGreatDoor
