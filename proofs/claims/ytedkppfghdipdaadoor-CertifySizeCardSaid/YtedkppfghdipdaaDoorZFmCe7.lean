/-
  Lemmas, in parts.
-/
import Derived.Test.YtedkppfghdipdaaDoorZFmKm
import Derived.Test.YtedkppfghdipdaaDoorZC
namespace Go.Proofs.YtedkppfghdipdaaDoor
set_option linter.unusedVariables false
set_option maxHeartbeats 16000000
open Go.RowKit
theorem oz:Maps.Keyed Tryd.prog 3:=Maps.int_keyed (q:=.i64) zm
theorem mZ {a:Int} (ha:bx a):Zs Tryd.prog 3 (.int .i64 a):=⟨rfl,_,Maps.keyOf_int_mk (q:=.i64) zm (VL ha)⟩
def iI:FV:=.agg [.int .i64 2,.int .i64 0,.int .i64 0,.int .i64 0,.int .i64 0,.int .i64 0,.list 5 [],.list 8 (xR.map aF.fv),.list 1 [],.list 4 [],.int .i64 2,.int .i64 0,.int .i64 0,.list 1 [[.int .i64 0],[.int .i64 1]],.list 3 []]
theorem oB:xH.x ju=iI:=rfl
theorem Ui (i:Nat) (hi:i<2):zV Tryd.prog 77 ([.int .i64 i]++[(.aC 15 [[.int .i64 2,.int .i64 0,.int .i64 0,.int .i64 0,.int .i64 0,.int .i64 0,.list 5 [],.list 8 (xR.map aF.fv),.list 1 [],.list 4 [],.int .i64 2,.int .i64 0,.int .i64 0,.list 1 [[.int .i64 0],[.int .i64 1]],.list 3 []]] 0 0)]) .fr (.bool true):=by
 have bu:=Zb xH ju rfl xR rfl i hi;have hd:(nth xR i).done=true:=by
  obtain rfl|rfl:i=0∨i=1:=by omega
  ·rfl
  ·rfl
 generalize nth xR i=o at bu hd;rw [oB] at bu;unfold iI at bu;refine zs 8 Tryd.func77 Tryd.ntmps77 rfl ?_;change FW _ _ _ ⟨[(0,_),(1,_)],[]⟩;refine zb ?_;refine zx bu (by repeat (first|exact zf.nil|refine zf.cons zh ?_)) rfl rfl ?_;refine ry rfl rfl rfl rfl rfl rfl rfl rfl ?_;refine zb ?_;exact FW.ret ⟨.inl rfl,zj rfl rfl (congrArg FV.bool hd) rfl⟩
theorem VK:zV Tryd.prog 62 [iI,(.fn 77 [(.aC 15 [[.int .i64 2,.int .i64 0,.int .i64 0,.int .i64 0,.int .i64 0,.int .i64 0,.list 5 [],.list 8 (xR.map aF.fv),.list 1 [],.list 4 [],.int .i64 2,.int .i64 0,.int .i64 0,.list 1 [[.int .i64 0],[.int .i64 1]],.list 3 []]] 0 0)]),(.fn 78 [(.aC 15 [[.int .i64 2,.int .i64 0,.int .i64 0,.int .i64 0,.int .i64 0,.int .i64 0,.list 5 [],.list 8 (xR.map aF.fv),.list 1 [],.list 4 [],.int .i64 2,.int .i64 0,.int .i64 0,.list 1 [[.int .i64 0],[.int .i64 1]],.list 3 []]] 0 0)])] .fr (.bool true):=by
 have s0:=Ui 0 za;have s1:=Ui 1 za;unfold iI;refine zs 68 Tryd.func62 Tryd.ntmps62 rfl ?_;change FW _ _ _ ⟨[(0,_),(1,_),(2,_)],[]⟩;refine zb ?_;refine zq.bW (sk (n:=2) rfl rfl rfl rfl rfl rfl rfl rfl za za rfl) rfl rfl ?_;refine zb ?_;refine FW.loop (fun p:Nat×List (List FV)=>⟨[(1,(.fn 77 [(.aC 15 [[.int .i64 2,.int .i64 0,.int .i64 0,.int .i64 0,.int .i64 0,.int .i64 0,.list 5 [],.list 8 (xR.map aF.fv),.list 1 [],.list 4 [],.int .i64 2,.int .i64 0,.int .i64 0,.list 1 [[.int .i64 0],[.int .i64 1]],.list 3 []]] 0 0)])),(2,(.fn 78 [(.aC 15 [[.int .i64 2,.int .i64 0,.int .i64 0,.int .i64 0,.int .i64 0,.int .i64 0,.list 5 [],.list 8 (xR.map aF.fv),.list 1 [],.list 4 [],.int .i64 2,.int .i64 0,.int .i64 0,.list 1 [[.int .i64 0],[.int .i64 1]],.list 3 []]] 0 0)])),(7,.own 100 0 0 2),(20,.list 1 [[.int .i64 0],[.int .i64 1]]),(21,.int .i64 2),(22,.int .i64 (p.1:Nat))],[(100,⟨0,.own,3,1,p.2⟩)]⟩) (fun p=>p=(0,[[.int .i64 0],[.int .i64 0]])∨p=(1,[[.int .i64 1],[.int .i64 0]])∨p=(2,[[.int .i64 1],[.int .i64 1]])) (fun p=>2 - p.1) (0,[[.int .i64 0],[.int .i64 0]]) (.inl rfl) ?_ ?_
 ·exact (aI.cv [⟨100,some 16,1,⟨0,.own,3,1,[[.int .i64 0],[.int .i64 0]]⟩⟩] zt zu)
 rintro _ (rfl|rfl|rfl)
 ·refine zb ?_;refine ⟨(1,[[.int .i64 1],[.int .i64 0]]),.inr (.inl rfl),(by show 2 - 1<2 - 0;decide),?_⟩;exact (aI.cv [⟨100,some 100,0,⟨0,.own,3,1,[[.int .i64 1],[.int .i64 0]]⟩⟩] zt zu)
 ·refine zb ?_;refine ⟨(2,[[.int .i64 1],[.int .i64 1]]),.inr (.inr rfl),(by show 2 - 2<2 - 1;decide),?_⟩;exact (aI.cv [⟨100,some 100,0,⟨0,.own,3,1,[[.int .i64 1],[.int .i64 1]]⟩⟩] zt zu)
 ·refine zb ?_;refine FW.loop (fun i:Nat=>⟨[(1,(.fn 77 [(.aC 15 [[.int .i64 2,.int .i64 0,.int .i64 0,.int .i64 0,.int .i64 0,.int .i64 0,.list 5 [],.list 8 (xR.map aF.fv),.list 1 [],.list 4 [],.int .i64 2,.int .i64 0,.int .i64 0,.list 1 [[.int .i64 0],[.int .i64 1]],.list 3 []]] 0 0)])),(2,(.fn 78 [(.aC 15 [[.int .i64 2,.int .i64 0,.int .i64 0,.int .i64 0,.int .i64 0,.int .i64 0,.list 5 [],.list 8 (xR.map aF.fv),.list 1 [],.list 4 [],.int .i64 2,.int .i64 0,.int .i64 0,.list 1 [[.int .i64 0],[.int .i64 1]],.list 3 []]] 0 0)])),(33,.own 100 0 0 2),(34,.int .i64 2),(35,.int .i64 (i:Nat))],[(100,⟨0,.own,3,1,[[.int .i64 1],[.int .i64 1]]⟩)]⟩) (fun i=>i≤2) (fun i=>2 - i) 0 za ?_ ?_
  ·exact (aI.cv [⟨100,some 100,0,⟨0,.own,3,1,[[.int .i64 1],[.int .i64 1]]⟩⟩] zt zu)
  intro i hi;obtain rfl|rfl|rfl:i=0∨i=1∨i=2:=by omega
  ·refine zb ?_;refine Yo rfl s0 (by repeat (first|exact zf.nil|refine zf.cons zh ?_)) rfl ⟨_,_,rfl,rfl,rfl⟩ ?_;refine zb ?_;refine ⟨1,by decide,by decide,?_⟩;exact (aI.cv [⟨100,some 100,0,⟨0,.own,3,1,[[.int .i64 1],[.int .i64 1]]⟩⟩] zt zu)
  ·refine zb ?_;refine Yo rfl s1 (by repeat (first|exact zf.nil|refine zf.cons zh ?_)) rfl ⟨_,_,rfl,rfl,rfl⟩ ?_;refine zb ?_;refine ⟨2,by decide,by decide,?_⟩;exact (aI.cv [⟨100,some 100,0,⟨0,.own,3,1,[[.int .i64 1],[.int .i64 1]]⟩⟩] zt zu)
  ·refine zb ?_;exact FW.ret ⟨.inl rfl,zj rfl rfl rfl rfl⟩
theorem rC:zV Tryd.prog 40 ([iI]++[]) .fr (.bool false):=by
 have mf:=VK;have p0:=Zb xH ju rfl xR rfl 0 za;have p1:=Zb xH ju rfl xR rfl 1 za;have w0:=ZK (nth xR 0);have o0:=xM (nth xR 0);have o1:=xM (nth xR 1);have hc:=fun aE=>yM [] 79 aE (fun _=>true) za (fun o h=>by cases h);rw [oB] at p0 p1;unfold iI at mf p0 p1 ⊢;refine zs 69 Tryd.func40 Tryd.ntmps40 rfl ?_;change FW _ _ _ ⟨[(0,_)],[]⟩
 (repeat (first|refine FW.seq ?_|refine FW.region ?_|refine zq.nil ?_|refine zq.bW (xV rfl rfl rfl rfl rfl) rfl rfl ?_|refine zq.ak (xi rfl) rfl rfl ?_))
 refine zq.le ?_ (aI.bk 1 rfl rfl);refine zb ?_;refine zx mf (by repeat (first|exact zf.nil|refine zf.cons zh ?_)) rfl ⟨_,_,rfl,rfl,rfl⟩ ?_;refine zb ?_;refine FW.loop (fun p:Nat×List (List FV)=>⟨[(1,(.aC 15 [[.int .i64 2,.int .i64 0,.int .i64 0,.int .i64 0,.int .i64 0,.int .i64 0,.list 5 [],.list 8 (xR.map aF.fv),.list 1 [],.list 4 [],.int .i64 2,.int .i64 0,.int .i64 0,.list 1 [[.int .i64 0],[.int .i64 1]],.list 3 []]] 0 0)),(5,.omap 100 0),(26,.list 1 [[.int .i64 0],[.int .i64 1]]),(27,.int .i64 2),(28,.int .i64 (p.1:Nat))],[(100,⟨0,.aR,98,0,p.2⟩)]⟩) (fun p=>p=(0,[])∨p=(1,[[.int .i64 0,.int .i64 1]])) (fun p=>2 - p.1) (0,[]) (.inl rfl) ?_ ?_
 ·exact (aI.cv [⟨100,some 22,1,⟨0,.aR,98,0,[]⟩⟩] zt zu)
 rintro _ (rfl|rfl)
 ·refine zb ?_;refine zx p0 (by repeat (first|exact zf.nil|refine zf.cons zh ?_)) rfl rfl ?_;refine zb ?_;refine zx o0 (by repeat (first|exact zf.nil|refine zf.cons zh ?_)) rfl rfl ?_;refine zb ?_;refine zx w0 (by repeat (first|exact zf.nil|refine zf.cons zh ?_)) rfl rfl ?_;refine zb ?_;refine yz oz (es:=[]) (fun row h=>by cases h) (mZ (a:=0) za) (.inr ⟨(fun row h=>by cases h),rfl⟩) rfl rfl rfl rfl rfl rfl rfl ?_
  (repeat (first|refine FW.seq ?_|refine FW.region ?_|refine zq.nil ?_|refine zq.ak (xz rfl rfl rfl rfl rfl) rfl rfl ?_|refine zq.ak (xJ rfl rfl rfl (by first|omega|(simp;done)) rfl rfl rfl) rfl rfl ?_|refine zq.ak (mU rfl rfl) rfl rfl ?_|refine zq.ak (xj rfl) rfl rfl ?_|refine zq.ak (xJ rfl rfl rfl (by first|omega|(simp;done)) rfl rfl rfl) rfl ⟨_,_,rfl,rfl,rfl⟩ ?_|refine zq.ak (xj rfl) rfl ⟨_,_,rfl,rfl,rfl⟩ ?_|refine zq.ak (xz rfl rfl rfl rfl rfl) rfl ⟨_,_,rfl,rfl,rfl⟩ ?_|refine zq.ak (rM rfl rfl rfl rfl (by exact iL.none) (by exact iK.some rfl) (by first|omega|(simp;done)) (by first|omega|(simp;done))) rfl ⟨_,_,rfl,rfl,rfl⟩ ?_))
  refine zq.le ?_ (aI.bk 7 rfl rfl);refine zb ?_;refine zx (hc [(.aC 15 [[.int .i64 2,.int .i64 0,.int .i64 0,.int .i64 0,.int .i64 0,.int .i64 0,.list 5 [],.list 8 (xR.map aF.fv),.list 1 [],.list 4 [],.int .i64 2,.int .i64 0,.int .i64 0,.list 1 [[.int .i64 0],[.int .i64 1]],.list 3 []]] 0 0),.aC 1 [[.int .i64 0]] 0 0]) (by repeat (first|exact zf.nil|refine zf.cons zh ?_)) rfl ⟨_,_,rfl,rfl,rfl⟩ ?_;refine zb ?_;refine ⟨(1,[[.int .i64 0,.int .i64 1]]),.inr rfl,(by show 2 - 1<2 - 0;decide),?_⟩;exact (aI.cv [⟨100,some 100,0,⟨0,.aR,98,0,[[.int .i64 0,.int .i64 1]]⟩⟩] zt zu)
 ·refine zb ?_;refine zx p1 (by repeat (first|exact zf.nil|refine zf.cons zh ?_)) rfl rfl ?_;refine zb ?_;refine zx o1 (by repeat (first|exact zf.nil|refine zf.cons zh ?_)) rfl rfl ?_;refine zb ?_;refine Ua (e:=3) (es:=[[.int .i64 0,.int .i64 1]]) (vf:=.int .i64 1) (found:=true) oz (fun row h kf e=>by simp at h;subst h;injection e with e;subst e;exact mZ za) (mZ (a:=0) za) (.inl ⟨rfl,.head _⟩) rfl rfl za rfl rfl rfl rfl rfl ⟨_,_,rfl,rfl,rfl⟩ ?_;refine zb ?_;exact FW.ret ⟨.inl rfl,zj rfl rfl rfl rfl⟩
theorem Vf:zV Tryd.prog 23 ([iI]++[]) .fr (.bool true):=by
 unfold iI;refine zs 21 Tryd.func23 Tryd.ntmps23 rfl ?_;change FW _ _ _ ⟨[(0,_)],[]⟩;refine zb ?_;exact FW.ret ⟨.inl rfl,zj rfl rfl rfl rfl⟩
theorem Ud:zV Tryd.prog 19 ([xS.x .nil]++[]) .fr (.bool true):=by
 have h1:=UP xS .nil 0 (.inl ⟨rfl,rfl⟩) 0 1;simp only [bN.x,xS] at h1 ⊢;refine zs 11 Tryd.func19 Tryd.ntmps19 rfl ?_;change FW _ _ _ ⟨[(0,_)],[]⟩;refine xh ?_;refine zy (zE 0 1) (by repeat (first|exact zf.nil|refine zf.cons zh ?_)) rfl rfl ?_;refine zn ?_;refine ri rfl h1 (by repeat (first|exact zf.nil|refine zf.cons zh ?_)) rfl rfl ?_;refine zn ?_;refine ⟨by kernel_rfl,?_⟩;skip;exact FW.ret ⟨.inl rfl,zj rfl rfl rfl rfl⟩
theorem sm:∀ o∈xR,jB o:=by
 intro o h;simp only [xR,zM,List.not_mem_nil,or_false] at h;rcases h with rfl|rfl <;> (unfold jB bx;decide)
theorem ou:zV Tryd.prog 9 [.int .i64 2,.list 8 (xR.map aF.fv)] .fr (.bool true):=by
 have h:=WY 2 za za xR za sm;rwa [show iJ (gI 2) xR=true by decide] at h
theorem sH:zV Tryd.prog 7 [xS.c,xS.e,xS.v .nil] .fr (.int .i64 0):=
 Xk xS .nil rfl za za true (.inr ⟨rfl,by decide,ou⟩)
  true (fun h=>by cases h) _ _ [] [] (fun _=>zN (i:=3) rfl) true true true (fun _=>Ud) (fun _ _=>YF xS [] [(0,1,5)] rfl za za za za za) (fun _ _ _=>UQ) 0 (fun h=>by cases h) (fun _=>rfl)
theorem sG:zV Tryd.prog 7 [xH.c,xH.e,xH.v ju] .fr (.int .i64 31):=
 Xk xH ju rfl za za true (.inr ⟨rfl,by decide,ou⟩)
  true (fun h=>by cases h) _ _ [] [] (fun _=>zN (i:=19) rfl) true true false (fun _=>Vf) (fun _ _=>YF xH [0,1] [] rfl za za za za za) (fun _ _ _=>rC) 31 (fun h=>by cases h) (fun _=>rfl)
theorem VM:zV Tryd.prog 6 [] .fr (.bool true):=by
 have hS:=sH;have hH:=sG;have hz:=Uj 2 4 0 [] [[.int .i64 0,.int .i64 1,.int .i64 5]] za za;simp only [bN.c,bN.e,bN.v,xS,xH,ju] at hS hH;refine zs 36 Tryd.func6 Tryd.ntmps6 rfl ?_;change FW _ _ _ ⟨[],[]⟩;refine zb ?_;refine zI (es:=xR.map aF.fv) rfl rfl rfl (by refine yf.agg rfl rfl rfl ?_;refine yf.agg rfl rfl rfl ?_;exact yf.nil) rfl rfl rfl rfl rfl ?_
 (repeat (first|refine FW.seq ?_|refine FW.region ?_|refine zq.nil ?_|refine zq.ak (xi rfl) rfl rfl ?_|refine XO rfl rfl rfl rfl ?_|refine zq.bW (ZZ rfl rfl rfl rfl rfl) rfl rfl ?_|refine zq.er (Zo rfl rfl rfl rfl rfl rfl rfl rfl) rfl ?_|refine zq.ak (xj rfl) rfl rfl ?_|refine xw.nil ?_|refine xw.one rfl rfl rfl rfl rfl ?_))
 refine zI (es:=[[.int .i64 0,.int .i64 1,.int .i64 5]]) rfl rfl rfl (by refine yf.agg rfl rfl rfl ?_;exact yf.nil) rfl rfl rfl rfl rfl ?_;refine zb ?_;refine zI (es:=[[.int .i64 0],[.int .i64 1]]) rfl rfl rfl (by refine yf.int rfl rfl ?_;refine yf.int rfl rfl ?_;exact yf.nil) rfl rfl rfl rfl rfl ?_;refine zb ?_;refine zx hS Xf rfl rfl ?_;refine zb ?_;refine zx hH (by repeat (first|exact zf.nil|refine zf.cons (by exact Uk.sub rfl rfl (by repeat (first|exact FV.le.refl _|exact FV.le.nil _|refine FV.le.agg ?_|refine FV.le.bw ?_|exact e7.nil|refine e7.cons ?_ ?_|exact FV.le.undef _))) ?_)) rfl ⟨_,_,rfl,rfl,rfl⟩ ?_;refine zb ?_;refine zx hz (by repeat (first|exact zf.nil|refine zf.cons (by exact Uk.sub rfl rfl (by repeat (first|exact FV.le.refl _|exact FV.le.nil _|refine FV.le.agg ?_|refine FV.le.bw ?_|exact e7.nil|refine e7.cons ?_ ?_|exact FV.le.undef _))) ?_)) rfl ⟨_,_,rfl,rfl,rfl⟩ ?_;refine zb ?_;exact FW.ret ⟨.inl rfl,zj rfl rfl rfl rfl⟩
section
variable {c:Ctx} {s:ab}
theorem Wd {d T e n:Nat} (hT:(c.ty T).k=.slice e) (he:(c.ty e).k≠.other) (x y:Operand) {k1 k2:IntKind} (ex:s.ev x=.int k1 n) (ey:s.ev y=.int k2 n) (ho:(c.ty e).zero.all FV.one=true) (hb:(c.ty e).bytes * n≤281474976710656) (hn:n≤281474976710656) :
  aq c s d (.makeSlice T x y) (.list (c.ty e).size (List.replicate n (c.ty e).zero)) [(d,⟨(s.ob d).aa+1,.shut,e,(c.ty e).size,List.replicate n (c.ty e).zero⟩)]:=by
 refine .ext rfl (fun h=>by rcases h with ⟨_,_,_,h⟩|⟨_,_,_,_,h⟩ <;> cases h) fun s' h1 h2 w0 J a w β ty pos after g aT hF K Q hK=>?_;have e0:=h2 d (UZ _ _ _);have hG:=Zv (ty:=ty) (pos:=pos) (after:=after) (g:=g) hF d hT he x y ((h1 x zg).trans ex) ((h1 y zg).trans ey) ho hb hn;rw [e0] at hG;refine hG.wp (fun d' h=>by injection h with h;subst h;exact aT) (fun a' w' aJ eK=>?_);have lL:FR c.N w0 J ⟨(d,.own d ((s.ob d).aa+1) 0 n)::s'.t,(d,⟨(s.ob d).aa+1,.own,e,(c.ty e).size,List.replicate n (c.ty e).zero⟩)::s'.o⟩ a' w' aJ:=eK;obtain ⟨jC,iO⟩:=aI.share d (by rw [zp,if_pos rfl]) (by rw [zp,if_pos rfl]) (by rw [yu]) _ _ _ _ _ _ lL;refine hK a' w' jC (iO.ext (fun t=>?_) (fun id=>?_))
 ·show look .undef ((d,_)::s'.t) t=look .undef ((d,_)::(d,_)::s'.t) t;rw [zp,zp,zp];by_cases h:d=t
  ·rw [if_pos h,if_pos h]
  ·rw [if_neg h,if_neg h,if_neg h]
 ·show look {} ((d,_)::s'.o) id=look {} ((d,_)::(d,_)::s'.o) id;rw [zp,zp,zp];by_cases h:d=id
  ·rw [if_pos h,if_pos h]
  ·rw [if_neg h,if_neg h,if_neg h]
variable {ops:Array Oper} {rest:List Oper} {t:List (Nat×FV)} {ob:List (Nat×zS)} {ty:TypeId} {pos:String} {af:Array Edge} {g:Option (Nat×Bool)} {d:Nat} {tr:List Rec} {QD:ab→List Rec→Prop}
theorem n9 {T e n sz c6:Nat} {m1 m2:Int} {k1 k2:IntKind} {kk:TK} {z:List FV} {x y:Operand} {v0 E0 fy:Nat} {lf0:yV} {bU:List (List FV)} (hx:(⟨t,ob⟩:ab).ev x=.int k1 m1) (kq:m1=(n:Int)) (hy:(⟨t,ob⟩:ab).ev y=.int k2 m2) (gZ:m2=(n:Int)) (hT:(c.ty T).k=.slice e) (he:c.ty e=⟨kk,sz,c6,z⟩) (hk:kk.known=true) (hz:z.all FV.one=true) (hb:c6 * n≤281474976710656) (hn:n≤281474976710656) (hv:(⟨t,ob⟩:ab).ob d=⟨v0,lf0,E0,fy,bU⟩) (hd:Nat.blt d c.N=true) (hw:xn ops ⟨t,ob⟩ ⟨some d,.makeSlice T x y,ty,pos,af,g⟩ true)
  (k:zA c ops rest ⟨(d,.list sz (List.replicate n z))::t,(d,⟨v0+1,.shut,e,sz,List.replicate n z⟩)::ob⟩ (tr++[⟨⟨some d,.makeSlice T x y,ty,pos,af,g⟩,.list sz (List.replicate n z),[(d,⟨v0+1,.shut,e,sz,List.replicate n z⟩)],Yf ⟨t,ob⟩ d (.makeSlice T x y)⟩]) QD):zA c ops (⟨some d,.makeSlice T x y,ty,pos,af,g⟩::rest) ⟨t,ob⟩ tr QD:=
 zA.cons (f:=.list sz (List.replicate n z)) (wr:=[(d,⟨v0+1,.shut,e,sz,List.replicate n z⟩)]) (d:=d) (XV hd (by subst kq;subst gZ;have:=Wd (c:=c) (s:=⟨t,ob⟩) (d:=d) (n:=n) hT (by rw [he];exact TK.aD hk) x y hx hy (by rw [he];exact hz) (by rw [he];exact hb) hn;rw [he,Yu hv] at this;exact this)) hw rfl rfl k
end
theorem Wm (n:Int) (m:Nat) (hm:0<m):∃ k:Nat,xP n m=k∧k<m:=⟨(xP n m).toNat,by have:=Vn (n:=n) (bq:=m) zc;omega,by have:=Vn (n:=n) (bq:=m) zc;have:=qd (n:=n) (bq:=m) zc;omega⟩
theorem YL (a b:Int) (ha:bx a) (hb:bx b):zV Tryd.prog 3 [.int .i64 a,.int .i64 b] .fr (.bool true):=by
 have h1:=Xn a 21 ha za za;have h2:=Xn b 21 hb za za;obtain ⟨n,hn,s3⟩:=Wm a 21 za;obtain ⟨m,hm,gZ⟩:=Wm b 21 za;have hn:xP a 21=(n:Int):=hn;have hm:xP b 21=(m:Int):=hm;rw [hn] at h1;rw [hm] at h2;have hs:=Uj 0 0 0 (List.replicate n [.int .i64 0]) (List.replicate m [.int .i64 0,.int .i64 0,.int .i64 0]) (by rw [yu];omega) (by rw [yu];omega);rw [yu,yu] at hs;refine zs 27 Tryd.func3 Tryd.ntmps3 rfl ?_;change FW _ _ _ ⟨[(0,.int .i64 a),(1,.int .i64 b)],[]⟩;refine zb ?_;refine zx h1 (by repeat (first|exact zf.nil|refine zf.cons zh ?_)) rfl rfl ?_;refine zb ?_;refine zx h2 (by repeat (first|exact zf.nil|refine zf.cons zh ?_)) rfl rfl ?_
 (repeat (first|refine FW.seq ?_|refine zq.nil ?_|refine zq.ak (xi rfl) rfl rfl ?_|refine FW.draw ?_|refine zA.ak (xj rfl) rfl rfl ?_))
 refine n9 (n:=n) rfl rfl rfl rfl rfl rfl rfl rfl zc zc rfl rfl rfl ?_
 (repeat (first|refine zA.ak (xj rfl) rfl rfl ?_))
 refine n9 (n:=m) rfl rfl rfl rfl rfl rfl rfl rfl zc zc rfl rfl rfl ?_;refine zn ?_;refine ⟨by kernel_rfl,?_⟩;refine zb ?_;refine zx hs (by repeat (first|exact zf.nil|refine zf.cons zh ?_)) rfl rfl ?_;refine zb ?_;refine yG (fun h=>?_) (fun h=>absurd h zd);skip;refine zx VM (by repeat (first|exact zf.nil)) rfl ⟨_,_,rfl,rfl,rfl⟩ ?_;refine zb ?_;exact FW.ret ⟨.inl rfl,zj rfl rfl rfl rfl⟩
end Go.Proofs.YtedkppfghdipdaaDoor
