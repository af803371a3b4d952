/-
  Some texts as one: FmCsH, FmCs1, ConsPlain, FmCs2, FmCs3, FmCr1, CauRef, CauRef2.
-/
import Derived.Test.YtmnmakhpjgjdaaaZD
import Derived.Test.YtmnmakhpjgjdaaaZF
import Derived.Test.YtmnmakhpjgjdaaaZFmCauE
import Derived.Test.YtmnmakhpjgjdaaaZR
import Derived.Test.YtmnmakhpjgjdaaaZFmW
import Derived.Test.YtmnmakhpjgjdaaaZE
import Derived.Test.YtmnmakhpjgjdaaaZFmCau6
namespace Go.Proofs.Ytmnmakhpjgjdaaa
set_option linter.unusedVariables false
set_option maxHeartbeats 16000000
section
open Go.RowKit
theorem zf6 (l:List Int) (most:Int) (hl:∀ x∈l,I64 x) (hlen:l.length≤9223372036854775807) (hm:I64 most):zX Try.prog 16 [.list 1 (l.map zD),.int .i64 most] (.ow 43 8) (.list 8 ((UY l most).map OpV.fv)) where
 go:=by kernel_rfl
 hand:=rfl
 calls w I vs hI hv:=by
  obtain ⟨_,_,rfl,e1,e2⟩:=hv.inv2;obtain ⟨A,c,rfl,_,hs⟩:=zfc.of e1 hI;rw [e2.int_inv];refine (zl4 A c l most w hs hl hlen hm).mono ?_;rintro e w' ⟨A1,c1,rfl,ho,hb⟩;exact ⟨_,rfl,hb,opT.res ho⟩
theorem zdX (l:List Int) (most:Int) (hl:∀ x∈l,I64 x) (hlen:l.length≤9223372036854775807) (hm:I64 most):zX Try.prog 17 [.list 1 (l.map zD),.int .i64 most] (.ow 43 8) (.list 8 ((Xq l most).map OpV.fv)) where
 go:=by kernel_rfl
 hand:=rfl
 calls w I vs hI hv:=by
  obtain ⟨_,_,rfl,e1,e2⟩:=hv.inv2;obtain ⟨A,c,rfl,_,hs⟩:=zfc.of e1 hI;rw [e2.int_inv];refine (zjk A c l most w hs hl hlen hm).mono ?_;rintro e w' ⟨A1,c1,rfl,ho,hb⟩;exact ⟨_,rfl,hb,opT.res ho⟩
/-! ### what the registers are -/
theorem zf5 (l:List Int) {most:Int} (h0:0≤most) (h1:most≤20):(∀ o∈UY l most,Ve o)∧((UY l most).length:Int)≤most:=by
 have hg:=Xd l most;have hl:=Wd l most;have hi:=zaN l (most:=most) h0;have inv:=zee (zaS l) hg hl _ (Nat.le_refl _);exact ⟨(zhD hg hl inv.ok inv.sm).2,by have:=inv.ok.len;unfold UY;omega⟩
theorem zdW (l:List Int) {most:Int} (h0:0≤most) (h1:most≤20):(∀ o∈Xq l most,Ve o)∧((Xq l most).length:Int)≤most:=by
 have hg:=Xd l most;have hl:=Wd l most;have hi:=zaN l (most:=most) h0;have inv:=zdV hg hl _ (Nat.le_refl _);exact ⟨(zhD hg hl inv.ok inv.sm).2,by have:=inv.ok.len;unfold Xq;omega⟩
structure zma where
 check:Int
 cls:Int
 arg:Int
 ord:List Int
 ed:List EdC
 deriving DecidableEq,Inhabited
def zma.fv (v:zma):List FV:=[.int .i64 v.check,.int .i64 v.cls,.int .i64 v.arg,.list 1 (v.ord.map zD),.list 3 (v.ed.map EdC.fv)]
def zaz (L:List Nat):List Int:=L.map fun i:Nat=>(i:Int)
def zpc (l:List OpV):zma:=match WY l with
 | some i => ⟨5, 2, (nth l i).key, zaz [i], []⟩
 | none=>if Wz l≠[] then ⟨5,6,0,[],ZF l (Wz l) (Wz l).length⟩ else match Ug l with
  | some (w1, w2, i) => ⟨5, 7, (nth l w2).key, zaz [w1, w2, i], Zr l w1 w2 ++ Zr l w2 i⟩
  | none => match Ua l with
   | some (w, i) => ⟨5, 8, (nth l w).key, zaz [w, i], Zr l w i⟩
   | none => ⟨5, 0, 0, zoO l, []⟩
def zmn (l:List OpV):zma:=if Zj l≠0 then ⟨0,0,0,[],[]⟩ else zpc l
def zpd (l:List OpV):zma:=match zjO l with
 | some (r, k, i) => ⟨6, 9+r, (nth l i).key, zaz [k, i], []⟩
 | none => ⟨6, 0, 0, [], []⟩
def zm8 (l:List OpV):zma:=if Zj l≠0 then ⟨0,0,0,[],[]⟩ else zpd l
theorem zk6 (sz:Nat) (es:List (List FV)):FV.le (znS sz es) (.list sz es):=by
 cases es with
 | nil => exact .nil sz
 | cons e es => exact .refl _
theorem zmN (L:List Nat):L.map yp=(zaz L).map zD:=by unfold zaz;rw [List.map_map];rfl
theorem zo9 {c k a:Int} {f g:FV} {o:List Int} {e:List EdC} (h1:FV.le f (.list 1 (o.map zD))) (h2:FV.le g (.list 3 (e.map EdC.fv))):FV.le (.agg [.int .i64 c,.int .i64 k,.int .i64 a,f,g]) (.agg (zma.fv ⟨c,k,a,o,e⟩)):=
 .agg (.cons (.refl _) (.cons (.refl _) (.cons (.refl _) (.cons h1 (.cons h2 .nil)))))
theorem zbR (c k a:Int) (o:List Nat) (e:List EdC):FV.le (.agg (YS c k a o e)) (.agg (zma.fv ⟨c,k,a,zaz o,e⟩)):=by
 unfold YS;refine zo9 ?_ (zk6 3 _);rw [zmN];exact zk6 1 _
theorem zkn (l:List OpV):FV.le (.agg (ZT l)) (.agg (zpc l).fv):=by
 unfold ZT zpc;cases WY l with
 | some i => exact zbR 5 2 _ [i] []
 | none=>
  dsimp only;by_cases h:Wz l≠[]
  ·rw [if_pos h,if_pos h];exact zo9 (.nil 1) (.refl _)
  ·rw [if_neg h,if_neg h];cases Ug l with
   | some x =>
    obtain ⟨w1,w2,i⟩:=x;exact zbR 5 7 _ [w1,w2,i] _
   | none=>
    dsimp only;cases Ua l with
    | some x =>
     obtain ⟨w,i⟩:=x;exact zbR 5 8 _ [w,i] _
    | none => exact zo9 (.refl _) (.nil 3)
theorem zlZ (l:List OpV):FV.le (.agg (VI l)) (.agg (zpd l).fv):=by
 unfold VI zpd;cases zjO l with
 | some x =>
  obtain ⟨r,k,i⟩:=x;exact zbR 6 (9+r) _ [k,i] []
 | none => exact zbR 6 0 0 [] []
theorem zkm (l:List OpV):FV.le (zj3 l) (.tup [.agg (zmn l).fv,.int .i64 (Zj l)]):=by
 unfold zj3 zmn;by_cases h:Zj l≠0
 ·rw [if_pos h,if_pos h];exact .tup (.cons (zo9 (.nil 1) (.nil 3)) (.cons (.refl _) .nil))
 ·rw [if_neg h,if_neg h,show Zj l=0 by simpa using h];exact .tup (.cons (zkn l) (.cons (.refl _) .nil))
theorem zlY (l:List OpV):FV.le (zj7 l) (.tup [.agg (zm8 l).fv,.int .i64 (Zj l)]):=by
 unfold zj7 zm8;by_cases h:Zj l≠0
 ·rw [if_pos h,if_pos h];exact .tup (.cons (zo9 (.nil 1) (.nil 3)) (.cons (.refl _) .nil))
 ·rw [if_neg h,if_neg h,show Zj l=0 by simpa using h];exact .tup (.cons (zlZ l) (.cons (.refl _) .nil))
theorem zmo (l:List OpV) (hl:l.length≤14):(zmn l).ord.length≤1000∧(zmn l).ed.length≤1000:=by
 unfold zmn;split
 ·exact ⟨by simp,by simp⟩
 unfold zpc;split
 ·exact ⟨by simp [zaz],by simp⟩
 ·split
  ·have:=zdw l;exact ⟨by simp,by simp [ZF];omega⟩
  ·rename_i hc;split
   ·rename_i w1 w2 i _;have h1:=@ZI l w1 w2;have h2:=@ZI l w2 i;exact ⟨by simp [zaz],by simp;omega⟩
   ·split
    ·rename_i w i _;have h1:=@ZI l w i;exact ⟨by simp [zaz],by dsimp only;omega⟩
    ·have hc:Wz l=[]:=by simpa using hc
     have h2:=(ZZ (Yr l) hc).2.len;have h3:(zoO l).length≤(yM l.length (edC l)).length:=List.length_filter_le _ _;exact ⟨by dsimp only;omega,by simp⟩
theorem zm9 (l:List OpV):(zm8 l).ord.length≤1000∧(zm8 l).ed.length≤1000:=by
 unfold zm8;split
 ·exact ⟨by simp,by simp⟩
 unfold zpd;split
 ·exact ⟨by simp [zaz],by simp⟩
 ·exact ⟨by simp,by simp⟩
theorem zbf (l:List OpV) (hl:l.length≤14) (hin:∀ o∈l,Ve o):zX Try.prog 18 [.list 8 (l.map OpV.fv)] .sh (.tup [.agg (zmn l).fv,.int .i64 (Zj l)]):=zX.le (zgj l hl hin) (zkm l) rfl
theorem Vz (l:List OpV) (hl:l.length≤1000) (hin:∀ o∈l,Ve o):zX Try.prog 19 [.list 8 (l.map OpV.fv)] .sh (.tup [.agg (zm8 l).fv,.int .i64 (Zj l)]):=zX.le (zdq l hl hin) (zlY l) rfl
theorem zmw (x:EdC):zme Try.prog 46 x.fv x.fv true:=by
 refine ⟨by kernel_rfl,fun w=>?_⟩;obtain ⟨a1,a2,a3⟩:=x;show (Op.equalIn 10000 46 (.agg #[.int .i64 (a1:Int),.int .i64 (a2:Int),.int .i64 (a3:Int)]) (.agg #[.int .i64 (a1:Int),.int .i64 (a2:Int),.int .i64 (a3:Int)])).run Try.prog w=_;have hS:Try.prog.underlying 46=some (.struct (Try.prog.fieldsOf 46)):=by kernel_rfl
 have hp:Try.prog.stoodInHeld 46=false:=by kernel_rfl
 rw [show (10000:Nat)=9999+1 from rfl,run_equalIn_agg w 9999 46 _ _ hS hp];simp only [Program.fieldsOf,Try.underlying46];simp [go_sem]
theorem Xj (V:zma) (h1:V.ord.length≤1000) (h2:V.ed.length≤1000):zX Try.prog 22 [.agg V.fv,.agg V.fv] .fr (.bool true):=by
 have hs1:=zeb V.ord V.ord za za;rw [decide_eq_true rfl] at hs1;obtain ⟨ck,cls,arg,O,E⟩:=V;dsimp only at h1 h2 hs1;obtain ⟨n,hn⟩:∃ n,E.length=n:=⟨_,rfl⟩
 obtain ⟨X,hX⟩:∃ X,O.map zD=X:=⟨_,rfl⟩
 show zX _ _ [.agg [.int .i64 ck,.int .i64 cls,.int .i64 arg,.list 1 (O.map zD),.list 3 (E.map EdC.fv)],.agg [.int .i64 ck,.int .i64 cls,.int .i64 arg,.list 1 (O.map zD),.list 3 (E.map EdC.fv)]] _ _;rw [hX] at hs1 ⊢;refine zX.of_body (c:=(xx Try.prog zE zt 67)) ⟨Try.func22,rfl,Try.ntmps22,by kernel_rfl⟩ zH zw rfl ?_;change FW _ _ _ ⟨[(0,.agg [.int .i64 ck,.int .i64 cls,.int .i64 arg,.list 1 X,.list 3 (E.map EdC.fv)]),(1,.agg [.int .i64 ck,.int .i64 cls,.int .i64 arg,.list 1 X,.list 3 (E.map EdC.fv)])],[]⟩;refine zb ?_;refine zP (fun h=>absurd rfl (of_decide_eq_true h)) (fun h=>?_);refine zb ?_;refine zP (fun h=>absurd rfl (of_decide_eq_true h)) (fun h=>?_);refine zb ?_;refine zP (fun h=>absurd rfl (of_decide_eq_true h)) (fun h=>?_);refine zb ?_;refine zS hs1 (by repeat (first|exact zu.nil|refine zu.cons zm ?_)) rfl ⟨_,_,rfl,rfl,rfl⟩ ?_;refine zb ?_;refine FW.cond rfl (fun h=>absurd rfl (of_decide_eq_true h)) (fun h=>?_);clear h;refine zb ?_;refine FW.loop (fun j:Nat=>⟨[(2,.ptr 102 0 0 0),(3,.ptr 103 0 0 0),(5,.int .i64 j)],[(102,⟨0,.own,36,5,[[.int .i64 ck,.int .i64 cls,.int .i64 arg,.list 1 X,.list 3 (E.map EdC.fv)]]⟩),(103,⟨0,.own,36,5,[[.int .i64 ck,.int .i64 cls,.int .i64 arg,.list 1 X,.list 3 (E.map EdC.fv)]]⟩)]⟩) (fun j=>j≤n) (fun j=>n - j) 0 (Nat.zero_le _) (FLe.cv [⟨102,some 2,0+1,⟨0,.own,36,5,[[.int .i64 ck,.int .i64 cls,.int .i64 arg,.list 1 X,.list 3 (E.map EdC.fv)]]⟩⟩,⟨103,some 3,0+1,⟨0,.own,36,5,[[.int .i64 ck,.int .i64 cls,.int .i64 arg,.list 1 X,.list 3 (E.map EdC.fv)]]⟩⟩] zf zd) ?_;intro j hj;refine zb ?_;refine FW.cond rfl (fun h=>?_) (fun h=>?_)
 ·have hlt:j<E.length:=by simpa using h
  refine zQ ?_;refine zoU rfl rfl rfl rfl (zmw (nth E j)) rfl rfl ?_;refine zp ?_;refine ⟨by kernel_rfl,?_⟩;refine zb ?_;exact ⟨j+1,by omega,by omega,(FLe.cv [⟨102,some 102,0,⟨0,.own,36,5,[[.int .i64 ck,.int .i64 cls,.int .i64 arg,.list 1 X,.list 3 (E.map EdC.fv)]]⟩⟩,⟨103,some 103,0,⟨0,.own,36,5,[[.int .i64 ck,.int .i64 cls,.int .i64 arg,.list 1 X,.list 3 (E.map EdC.fv)]]⟩⟩] zf zd)⟩
 ·refine zb ?_;exact FW.ret ⟨.inl rfl,zF rfl rfl rfl rfl⟩
def znQ:List OpV:=[⟨0,1,3,1,0,0,1,true⟩,⟨0,0,3,0,0,2,3,true⟩]
theorem zpl:zmn znQ=⟨5,8,3,[0,1],[(0,1,1)]⟩:=by decide +kernel
theorem zpk:zm8 znQ=⟨6,9,3,[0,1],[]⟩:=by decide +kernel
theorem zoG:Zj znQ=0:=by decide +kernel
theorem zk3:∀ o∈znQ,Ve o:=fun o ho=>by simp only [znQ,List.mem_cons,List.not_mem_nil,or_false] at ho;rcases ho with rfl|rfl <;> (unfold Ve I64;decide)
theorem zfo:zX Try.prog 15 [] .fr (.bool true):=by
 have hA:=zbf znQ zg zk3;have hB:=Vz znQ zg zk3;rw [zpl,zoG] at hA;rw [zpk,zoG] at hB;change zX _ _ [.list 8 [OpV.fv ⟨0,1,3,1,0,0,1,true⟩,OpV.fv ⟨0,0,3,0,0,2,3,true⟩]] _ (.tup [.agg [.int .i64 5,.int .i64 8,.int .i64 3,.list 1 ([0,1].map zD),.list 3 [[.int .i64 0,.int .i64 1,.int .i64 1]]],.int .i64 0]) at hA;change zX _ _ [.list 8 [OpV.fv ⟨0,1,3,1,0,0,1,true⟩,OpV.fv ⟨0,0,3,0,0,2,3,true⟩]] _ (.tup [.agg [.int .i64 6,.int .i64 9,.int .i64 3,.list 1 ([0,1].map zD),.list 3 []],.int .i64 0]) at hB;have s1:=Xj ⟨5,8,3,[0,1],[(0,1,1)]⟩ zg zg;have s2:=Xj ⟨6,9,3,[0,1],[]⟩ zg zg;change zX _ _ [.agg [.int .i64 5,.int .i64 8,.int .i64 3,.list 1 ([0,1].map zD),.list 3 [[.int .i64 0,.int .i64 1,.int .i64 1]]],.agg [.int .i64 5,.int .i64 8,.int .i64 3,.list 1 ([0,1].map zD),.list 3 [[.int .i64 0,.int .i64 1,.int .i64 1]]]] _ _ at s1;change zX _ _ [.agg [.int .i64 6,.int .i64 9,.int .i64 3,.list 1 ([0,1].map zD),.list 3 []],.agg [.int .i64 6,.int .i64 9,.int .i64 3,.list 1 ([0,1].map zD),.list 3 []]] _ _ at s2;refine zX.of_body (c:=(xx Try.prog zE zt 45)) ⟨Try.func15,rfl,Try.ntmps15,by kernel_rfl⟩ zH zw rfl ?_;change FW _ _ _ ⟨[],[]⟩;refine zb ?_;refine VF (es:=[OpV.fv ⟨0,1,3,1,0,0,1,true⟩,OpV.fv ⟨0,0,3,0,0,2,3,true⟩]) rfl rfl rfl (by refine yT.agg rfl rfl rfl ?_;refine yT.agg rfl rfl rfl ?_;exact yT.nil) rfl rfl rfl rfl rfl rfl ?_;refine zn.le ?_ (FLe.share 10 rfl rfl (by rfl));refine zb ?_;refine yl hA (by repeat (first|exact zu.nil|refine zu.cons zm ?_)) rfl rfl ?_;refine zb ?_;refine yl hB (by repeat (first|exact zu.nil|refine zu.cons zm ?_)) rfl rfl ?_;refine zb ?_;refine VF (es:=[0,1].map zD) rfl rfl rfl (by refine yT.int rfl rfl ?_;refine yT.int rfl rfl ?_;exact yT.nil) rfl rfl rfl rfl rfl rfl ?_;refine zn.le ?_ (FLe.share 21 rfl rfl rfl);refine zfQ rfl rfl rfl rfl ?_;refine Yh.one rfl rfl rfl rfl rfl ?_;refine Yh.one rfl rfl rfl rfl rfl ?_;refine Yh.one rfl rfl rfl rfl rfl ?_;refine Yh.nil ?_;refine VF (es:=[[.int .i64 0,.int .i64 1,.int .i64 1]]) rfl rfl rfl (by refine yT.agg rfl rfl rfl ?_;exact yT.nil) rfl rfl rfl rfl rfl rfl ?_;refine zn.le ?_ (FLe.share 23 rfl rfl rfl);refine zb ?_;refine VF (es:=[0,1].map zD) rfl rfl rfl (by refine yT.int rfl rfl ?_;refine yT.int rfl rfl ?_;exact yT.nil) rfl rfl rfl rfl rfl rfl ?_;refine zn.le ?_ (FLe.share 26 rfl rfl rfl);refine zb ?_;refine zS s1 (by repeat (first|exact zu.nil|refine zu.cons zm ?_)) rfl ⟨_,_,rfl,rfl,rfl⟩ ?_;refine zb ?_;refine zS s2 YZ rfl ⟨_,_,rfl,rfl,rfl⟩ ?_;refine zb ?_;exact FW.ret ⟨.inl rfl,zF rfl rfl rfl rfl⟩
theorem xK (l:List OpV) (i:Nat) (hl:l.length≤1000000) (hi:i<l.length):zX Try.prog 52 [.list 8 (l.map OpV.fv),.int .i64 i] .fr (.bool (zK l i)):=by
 have hR:zK l i=((nth l i).done || (decide ((nth l i).k=1) && l.any (zmc (nth l i).key (nth l i).arg))):=rfl;obtain ⟨o,ho⟩:∃ o,nth l i=o:=⟨_,rfl⟩
 obtain ⟨R,hRe⟩:∃ R,zK l i=R:=⟨_,rfl⟩
 rw [hRe,ho] at hR;rw [hRe];refine zX.of_body (c:=(xx Try.prog zE zt 64)) ⟨Try.func52,rfl,Try.ntmps52,by kernel_rfl⟩ zH zw rfl ?_;change FW _ _ _ ⟨[(0,.list 8 (l.map OpV.fv)),(1,.int .i64 i)],[]⟩;refine zb ?_;rw [ho];refine FW.cond rfl (fun h=>?_) (fun h=>?_)
 ·have h:o.done=true:=h;rw [h,Bool.true_or] at hR;subst hR;refine zb ?_;exact FW.ret ⟨.inl rfl,zF rfl rfl rfl rfl⟩
 have h:o.done=false:=h;rw [h,Bool.false_or] at hR;refine zb ?_;refine FW.loop (fun k:Nat=>⟨[(0,.list 8 (l.map OpV.fv)),(1,.int .i64 i),(5,.int .i64 k)],[]⟩) (fun k=>k≤l.length∧∀ j,j<k→(decide (o.k=1) && zmc o.key o.arg (nth l j))=false) (fun k=>l.length - k) 0 ⟨Nat.zero_le _,fun j hj=>by omega⟩ ?_ ?_
 ·exact (FLe.cv [] zB zd)
 rintro k ⟨hk,hno⟩;refine zb ?_;refine FW.cond rfl (fun h=>?_) (fun h=>?_)
 ·have hlt:k<l.length:=by simpa using h
  obtain ⟨p,hp⟩:∃ p,nth l k=p:=⟨_,rfl⟩
  have hrd:(decide (o.k=1) && zmc o.key o.arg p)=(decide (o.k=1) && (decide (p.k=0) && (p.done && (decide (p.key=o.key) && decide (p.res=o.arg))))):=rfl;have hst:(decide (o.k=1) && zmc o.key o.arg p)=false→∀ j,j<k+1→(decide (o.k=1) && zmc o.key o.arg (nth l j))=false:=fun hx j hj=>by
   by_cases e:j=k
   ·rw [e,hp];exact hx
   ·exact hno j za
  refine zb ?_;refine FW.drawQ zj ?_;refine zp ?_;rw [ho];refine yz (fun h0=>?_) (fun h0=>?_)
  ·rw [h0,Bool.true_and,Bool.true_and] at hrd;rw [h0,Bool.true_and] at hR hst;refine zp ?_;rw [hp];refine yz (fun h1=>?_) (fun h1=>?_)
   ·rw [h1,Bool.true_and] at hrd;refine zp ?_;rw [hp];refine yz (fun h2=>?_) (fun h2=>?_)
    ·rw [h2,Bool.true_and] at hrd;refine zp ?_;rw [hp,ho];refine yz (fun h3=>?_) (fun h3=>?_)
     ·rw [h3,Bool.true_and] at hrd;refine zp ?_;rw [hp,ho];skip;refine ⟨by kernel_rfl,?_⟩;refine FW.cond rfl (fun h4=>?_) (fun h4=>?_)
      ·have hR2:R=true:=by
        rw [hR,zge];exact ⟨k,hlt,by rw [hp,hrd];exact h4⟩
       subst hR2;refine zb ?_;exact FW.ret ⟨.inl rfl,zF rfl rfl rfl rfl⟩
      ·refine zb ?_;exact ⟨k+1,⟨by omega,by rw [h0] at *;exact hst (by rw [hrd];exact h4)⟩,by omega,(FLe.cv [] zB zd)⟩
     ·rw [h3,Bool.false_and] at hrd;refine zp ?_;refine ⟨by kernel_rfl,?_⟩;refine zb ?_;exact ⟨k+1,⟨by omega,by rw [h0] at *;exact hst hrd⟩,by omega,(FLe.cv [] zB zd)⟩
    ·rw [h2,Bool.false_and] at hrd;refine zp ?_;refine ⟨by kernel_rfl,?_⟩;refine zb ?_;exact ⟨k+1,⟨by omega,by rw [h0] at *;exact hst hrd⟩,by omega,(FLe.cv [] zB zd)⟩
   ·rw [h1,Bool.false_and] at hrd;refine zp ?_;refine ⟨by kernel_rfl,?_⟩;refine zb ?_;exact ⟨k+1,⟨by omega,by rw [h0] at *;exact hst hrd⟩,by omega,(FLe.cv [] zB zd)⟩
  ·rw [h0,Bool.false_and] at hrd;refine zp ?_;refine ⟨by kernel_rfl,?_⟩;refine zb ?_;exact ⟨k+1,⟨by omega,hst (by rw [h0,Bool.false_and])⟩,by omega,(FLe.cv [] zB zd)⟩
 ·obtain rfl:k=l.length:=by simp at h;omega
  have hR2:R=false:=by
   rw [hR,Bool.eq_false_iff];intro h;rw [Bool.and_eq_true] at h;obtain ⟨j,hj,h2⟩:=zge.1 h.2;have:=hno j hj;rw [h.1,h2] at this;cases this
  subst hR2;refine zb ?_;exact FW.ret ⟨.inl rfl,zF rfl rfl rfl rfl⟩
def zf8 (l:List OpV) (key v:Int):Int:=match cIx l key v with|some w=>(w:Int)|none=>-1
theorem Zf (l:List OpV) (c v:Int) (hl:l.length≤1000000):zX Try.prog 66 [.list 8 (l.map OpV.fv),.int .i64 c,.int .i64 v] .fr (.int .i64 (zf8 l c v)):=by
 have hsome:∀ k,k<l.length→(wOf c v (nth l k) && zK l k)=true→(∀ j,j<k→(wOf c v (nth l j) && zK l j)=false)→zf8 l c v=k:=fun k hk h1 h2=>by
  unfold zf8 cIx;have hf:(List.range l.length).find? (fun j=>wOf c v (nth l j) && zK l j)=some k:=by
   rw [List.find?_eq_some_iff_append];refine ⟨h1,List.range k,(List.range' (k+1) (l.length - (k+1))),?_,fun a ha=>by rw [h2 a (List.mem_range.1 ha)];rfl⟩;rw [List.range_eq_range',List.range_eq_range',show k::List.range' (k+1) (l.length - (k+1))=List.range' k (l.length - k) by rw [show l.length - k=(l.length - (k+1))+1 by omega,List.range'_succ]];rw [show List.range' 0 l.length=List.range' 0 (k+(l.length - k)) by congr 1;omega,← List.range'_append];simp
  rw [hf]
 have hnone:(∀ j,j<l.length→(wOf c v (nth l j) && zK l j)=false)→zf8 l c v = -1:=fun h2=>by
  unfold zf8;cases h:cIx l c v with
  | none => rfl
  | some w =>
   obtain ⟨w1,w2,w3⟩:=ZE h;have:=h2 w w1;rw [w2,w3] at this;cases this
 obtain ⟨R,hR⟩:∃ R,zf8 l c v=R:=⟨_,rfl⟩
 rw [hR] at hsome hnone ⊢;have hinc:=fun i hi=>xK l i hl hi;refine zX.of_body (c:=(xx Try.prog zE zt 44)) ⟨Try.func66,rfl,Try.ntmps66,by kernel_rfl⟩ zH zw rfl ?_;change FW _ _ _ ⟨[(0,.list 8 (l.map OpV.fv)),(1,.int .i64 c),(2,.int .i64 v)],[]⟩;refine zb ?_;refine FW.loop (fun k:Nat=>⟨[(0,.list 8 (l.map OpV.fv)),(1,.int .i64 c),(2,.int .i64 v),(7,.int .i64 k)],[]⟩) (fun k=>k≤l.length∧∀ j,j<k→(wOf c v (nth l j) && zK l j)=false) (fun k=>l.length - k) 0 ⟨Nat.zero_le _,fun j hj=>by omega⟩ ?_ ?_
 ·exact (FLe.cv [] zB zd)
 rintro k ⟨hk,hno⟩;refine zb ?_;refine FW.cond rfl (fun h=>?_) (fun h=>?_)
 ·have hlt:k<l.length:=by simpa using h
  have hsome:=hsome k hlt;have hinc:=hinc k hlt;have hst:(wOf c v (nth l k) && zK l k)=false→∀ j,j<k+1→(wOf c v (nth l j) && zK l j)=false:=fun hx j hj=>by
   by_cases e:j=k
   ·rw [e];exact hx
   ·exact hno j za
  obtain ⟨p,hp⟩:∃ p,nth l k=p:=⟨_,rfl⟩
  generalize zK l k=ik at hinc hsome hst;rw [hp] at hsome hst;have hrd:wOf c v p=(decide (p.k=1) && (decide (p.key=c) && decide (p.arg=v))):=rfl;refine zb ?_;rw [hp];refine zP (fun h1=>?_) (fun h1=>?_)
  ·rw [h1,Bool.true_and] at hrd;refine zb ?_;rw [hp];refine zP (fun h3=>?_) (fun h3=>?_)
   ·rw [h3,Bool.true_and] at hrd;refine zb ?_;rw [hp];refine zP (fun h4=>?_) (fun h4=>?_)
    ·rw [h4] at hrd;rw [hrd,Bool.true_and] at hsome hst;refine zb ?_;refine zS hinc (by repeat (first|exact zu.nil|refine zu.cons zm ?_)) rfl ⟨_,_,rfl,rfl,rfl⟩ ?_;refine zb ?_;refine FW.cond rfl (fun h5=>?_) (fun h5=>?_)
     ·have hR2:R=k:=hsome h5 hno;subst hR2;refine zb ?_;exact FW.ret ⟨.inl rfl,zF rfl rfl rfl rfl⟩
     ·refine zb ?_;exact ⟨k+1,⟨by omega,hst h5⟩,by omega,(FLe.cv [] zB zd)⟩
    ·rw [h4] at hrd;refine zb ?_;exact ⟨k+1,⟨by omega,hst (by rw [hrd,Bool.false_and])⟩,by omega,(FLe.cv [] zB zd)⟩
   ·rw [h3,Bool.false_and] at hrd;refine zb ?_;exact ⟨k+1,⟨by omega,hst (by rw [hrd,Bool.false_and])⟩,by omega,(FLe.cv [] zB zd)⟩
  ·rw [h1,Bool.false_and] at hrd;refine zb ?_;exact ⟨k+1,⟨by omega,hst (by rw [hrd,Bool.false_and])⟩,by omega,(FLe.cv [] zB zd)⟩
 ·obtain rfl:k=l.length:=by simp at h;omega
  have hR2:R = -1:=hnone hno;subst hR2;refine zb ?_;exact FW.ret ⟨.inl rfl,zF rfl rfl rfl rfl⟩
theorem VB (l:List OpV) (hl:l.length≤1000000):zX Try.prog 43 [.list 8 (l.map OpV.fv)] .fr (.int .i64 (Zj l)):=by
 have hck:=zgY l za;rw [← zit] at hck;have h1:xv l≠0→Zj l=xv l:=fun h=>by unfold Zj;rw [if_pos h]
 have hyes:xv l=0→(∀ i,i<l.length→okW l i)→Zj l=0:=fun h hd=>by unfold Zj;rw [if_neg (by simpa using h),if_pos (show Yi l from hd)]
 have hnot:xv l=0→∀ i,i<l.length→¬ okW l i→Zj l=22:=fun h i hi hd=>by unfold Zj;rw [if_neg (by simpa using h),if_neg (fun h2=>hd (h2 i hi))]
 obtain ⟨R,hR⟩:∃ R,Zj l=R:=⟨_,rfl⟩
 rw [hR] at h1 hyes hnot ⊢;generalize xv l=C at hck h1 hyes hnot;refine zX.of_body (c:=(xx Try.prog zE zt 80)) ⟨Try.func43,rfl,Try.ntmps43,by kernel_rfl⟩ zH zw rfl ?_;change FW _ _ _ ⟨[(0,.list 8 (l.map OpV.fv))],[]⟩;refine zb ?_;refine zS hck (by repeat (first|exact zu.nil|refine zu.cons zm ?_)) rfl rfl ?_;refine zb ?_;refine FW.cond rfl (fun h=>?_) (fun h=>?_)
 ·obtain rfl:=h1 (by simpa using h);refine zb ?_;exact FW.ret ⟨.inl rfl,zF rfl rfl rfl rfl⟩
 have h0:C=0:=by simpa using h
 have hyes:=hyes h0;have hnot:=hnot h0;refine zb ?_;refine FW.loop (fun k:Nat=>⟨[(0,.list 8 (l.map OpV.fv)),(4,.int .i64 k)],[]⟩) (fun k=>k≤l.length∧∀ j,j<k→okW l j) (fun k=>l.length - k) 0 ⟨Nat.zero_le _,fun j hj=>by omega⟩ ?_ ?_
 ·exact (FLe.cv [] zB zd)
 rintro k ⟨hk,hno⟩;refine zb ?_;refine FW.cond rfl (fun h=>?_) (fun h=>?_)
 ·have hlt:k<l.length:=by simpa using h
  have hnot:=hnot k hlt;obtain ⟨p,hp⟩:∃ p,nth l k=p:=⟨_,rfl⟩
  have hok:okW l k=(p.k=0∨(p.k=1∧p.arg≠0∧∀ j,j<k→wOf p.key p.arg (nth l j)=false)):=by unfold okW;rw [hp]
  have hst:okW l k→∀ j,j<k+1→okW l j:=fun hx j hj=>by
   by_cases e:j=k
   ·rw [e];exact hx
   ·exact hno j za
  rw [hok] at hnot hst;refine zb ?_;rw [hp];refine zP (fun h1=>?_) (fun h1=>?_)
  ·have h1:¬ p.k=0:=by simpa using h1
   refine zb ?_;rw [hp];skip;refine FW.cond rfl (fun h2=>?_) (fun h2=>?_)
   ·have h2:¬ p.k=1:=by simpa using h2
    have hR2:R=22:=hnot (by rintro (h|h);exact h1 h;exact h2 h.1);subst hR2;refine zb ?_;exact FW.ret ⟨.inl rfl,zF rfl rfl rfl rfl⟩
   have h2:p.k=1:=by simpa using h2
   refine zb ?_;rw [hp];skip;refine FW.condF (congrArg FV.bool (decide_eq_false h1)) ?_;refine zb ?_;rw [hp];skip;refine FW.cond rfl (fun h3=>?_) (fun h3=>?_)
   ·have h3:p.arg=0:=by simpa using h3
    have hR2:R=22:=hnot (by rintro (h|h);exact h1 h;exact h.2.1 h3);subst hR2;refine zb ?_;exact FW.ret ⟨.inl rfl,zF rfl rfl rfl rfl⟩
   have h3:¬ p.arg=0:=by simpa using h3
   refine zb ?_;refine FW.loop (fun m:Nat=>⟨[(0,.list 8 (l.map OpV.fv)),(4,.int .i64 k),(5,.int .i64 m)],[]⟩) (fun m=>m≤k∧∀ j,j<m→wOf p.key p.arg (nth l j)=false) (fun m=>k - m) 0 ⟨Nat.zero_le _,fun j hj=>by omega⟩ ?_ ?_
   ·exact (FLe.cv [] zB zd)
   rintro m ⟨hm,hmo⟩;refine zb ?_;refine FW.cond rfl (fun h4=>?_) (fun h4=>?_)
   ·have hltm:m<k:=by simpa using h4
    obtain ⟨r,hr⟩:∃ r,nth l m=r:=⟨_,rfl⟩
    have hrd:wOf p.key p.arg r=(decide (r.k=1) && (decide (r.key=p.key) && decide (r.arg=p.arg))):=rfl;have hst2:wOf p.key p.arg r=false→∀ j,j<m+1→wOf p.key p.arg (nth l j)=false:=fun hx j hj=>by
     by_cases e:j=m
     ·rw [e,hr];exact hx
     ·exact hmo j za
    refine zb ?_;refine FW.drawQ zj ?_;refine zp ?_;rw [hr];refine yz (fun h5=>?_) (fun h5=>?_)
    ·rw [h5,Bool.true_and] at hrd;refine zp ?_;rw [hr,hp];refine yz (fun h6=>?_) (fun h6=>?_)
     ·rw [h6,Bool.true_and] at hrd;refine zp ?_;rw [hr,hp];skip;refine ⟨by kernel_rfl,?_⟩;refine FW.cond rfl (fun h7=>?_) (fun h7=>?_)
      ·have hR2:R=22:=hnot (by
        rintro (h|h)
        ·exact h1 h
        ·have:=h.2.2 m hltm;rw [hr,hrd,show decide (r.arg=p.arg)=true from h7] at this;cases this)
       subst hR2;refine zb ?_;exact FW.ret ⟨.inl rfl,zF rfl rfl rfl rfl⟩
      ·refine zb ?_;exact ⟨m+1,⟨by omega,hst2 (by rw [hrd];exact h7)⟩,by omega,(FLe.cv [] zB zd)⟩
     ·rw [h6,Bool.false_and] at hrd;refine zp ?_;refine ⟨by kernel_rfl,?_⟩;refine zb ?_;exact ⟨m+1,⟨by omega,hst2 hrd⟩,by omega,(FLe.cv [] zB zd)⟩
    ·rw [h5,Bool.false_and] at hrd;refine zp ?_;refine ⟨by kernel_rfl,?_⟩;refine zb ?_;exact ⟨m+1,⟨by omega,hst2 hrd⟩,by omega,(FLe.cv [] zB zd)⟩
   ·obtain rfl:m=k:=by simp at h4;omega
    refine zb ?_;exact ⟨m+1,⟨by omega,hst (.inr ⟨h2,h3,hmo⟩)⟩,by omega,(FLe.cv [] zB zd)⟩
  ·have h1:p.k=0:=by simpa using h1
   refine zb ?_;rw [hp];skip;refine FW.condT (congrArg FV.bool (decide_eq_true h1)) ?_;refine zb ?_;exact ⟨k+1,⟨by omega,hst (.inl h1)⟩,by omega,(FLe.cv [] zB zd)⟩
 ·obtain rfl:k=l.length:=by simp at h;omega
  have hR2:R=0:=hyes hno;subst hR2;refine zb ?_;exact FW.ret ⟨.inl rfl,zF rfl rfl rfl rfl⟩
theorem zdp (l:List OpV) (key v:Int):(cIx l key v=none∧zf8 l key v = -1)∨∃ w:Nat,cIx l key v=some w∧zf8 l key v=w∧w<l.length:=by
 unfold zf8;cases h:cIx l key v with
 | none => exact .inl ⟨rfl, rfl⟩
 | some w => exact .inr ⟨w, rfl, rfl, (ZE h).1⟩
theorem zd0 (l:List OpV) (key v u:Int) (hl:l.length≤1000000):zX Try.prog 53 [.list 8 (l.map OpV.fv),.int .i64 key,.int .i64 v,.int .i64 u] .fr (.bool (XG l key v u)):=by
 have hw1:=Zf l key v hl;have hw2:=Zf l key u hl;have hc1:=zdp l key v;have hc2:=zdp l key u;unfold XG;generalize zf8 l key v=A at hw1 hc1;generalize zf8 l key u=B at hw2 hc2;generalize cIx l key v=a at hc1 ⊢;generalize cIx l key u=b at hc2 ⊢;refine zX.of_body (c:=(xx Try.prog zE zt 45)) ⟨Try.func53,rfl,Try.ntmps53,by kernel_rfl⟩ zH zw rfl ?_;change FW _ _ _ ⟨[(0,.list 8 (l.map OpV.fv)),(1,.int .i64 key),(2,.int .i64 v),(3,.int .i64 u)],[]⟩;refine zb ?_;refine FW.cond rfl (fun h=>?_) (fun h=>?_)
 ·rw [if_pos (by simpa using h)];refine zb ?_;exact FW.ret ⟨.inl rfl,zF rfl rfl rfl rfl⟩
 rw [if_neg (by simpa using h)];clear h;refine zb ?_;refine zS hw1 (by repeat (first|exact zu.nil|refine zu.cons zm ?_)) rfl rfl ?_;refine zb ?_;refine zS hw2 (by repeat (first|exact zu.nil|refine zu.cons zm ?_)) rfl rfl ?_;rcases hc1 with ⟨rfl,rfl⟩|⟨a,rfl,rfl,ha⟩
 ·refine zb ?_;exact FW.ret ⟨.inl rfl,zF rfl rfl rfl rfl⟩
 rcases hc2 with ⟨rfl,rfl⟩|⟨b,rfl,rfl,hb⟩
 ·refine zb ?_;exact FW.ret ⟨.inl rfl,zF rfl rfl rfl rfl⟩
 ·dsimp only;refine zQ ?_;refine yz (fun h4=>?_) (fun h4=>?_)
  ·have h4:(nth l a).p=(nth l b).p:=by simpa using h4
   refine zp ?_;refine ⟨by kernel_rfl,?_⟩;skip;refine FW.ret ⟨.inl rfl,zF rfl rfl ?_ rfl⟩;rw [decide_eq_true h4,Bool.true_and];simp;rfl
  ·have h4:¬ (nth l a).p=(nth l b).p:=by simpa using h4
   refine zp ?_;refine ⟨by kernel_rfl,?_⟩;skip;refine FW.ret ⟨.inl rfl,zF rfl rfl ?_ rfl⟩;rw [decide_eq_false h4,Bool.false_and];rfl
def zlU (l:List OpV) (i:Nat):Bool:=decide ((nth l i).k=0) && ((nth l i).done && (decide ((nth l i).res≠0) && decide (zf8 l (nth l i).key (nth l i).res<0)))
def zch (l:List OpV):Int:=match WY l with|some i=>(i:Int)|none=>-1
theorem zob (l:List OpV) (i:Nat):zlU l i=(zK l i && XS l i):=by
 unfold zlU XS;by_cases hk:(nth l i).k=0
 ·have hi:zK l i=(nth l i).done:=by unfold zK;simp [hk]
  rw [hi,decide_eq_true hk,Bool.true_and,Bool.true_and];by_cases hr:(nth l i).res=0
  ·simp [hr]
  ·have hf:(yR l i).isNone=decide (zf8 l (nth l i).key (nth l i).res<0):=by
    unfold yR;rw [if_neg (by simp [hk,hr])];rcases zdp l (nth l i).key (nth l i).res with ⟨h1,h2⟩|⟨w,h1,h2,_⟩
    ·rw [h1,h2];rfl
    ·rw [h1,h2];simp
   rw [hf]
 ·simp [hk]
theorem zid (l:List OpV):WY l=(List.range l.length).find? (zlU l):=by
 unfold WY zO;rw [List.find?_filter];congr 1;funext i;rw [zob];cases zK l i <;> simp
theorem zfF (l:List OpV) (hl:l.length≤1000000):zX Try.prog 44 [.list 8 (l.map OpV.fv)] .fr (.int .i64 (zch l)):=by
 have hsome:∀ k,k<l.length→zlU l k=true→(∀ j,j<k→zlU l j=false)→zch l=k:=fun k hk h1 h2=>by
  unfold zch;rw [zid];have hf:=xi (p:=zlU l) (l:=List.range l.length) (j:=k) (fun i hi=>by rw [nth_eq zx];simpa using h2 i hi) (by simpa using hk) (by rw [nth_eq (by simpa using hk)];simpa using h1);rw [hf,nth_eq (by simpa using hk)];simp
 have hnone:(∀ j,j<l.length→zlU l j=false)→zch l = -1:=fun h2=>by
  unfold zch;rw [zid,xO fun i hi=>by rw [nth_eq hi];simpa using h2 i (by simpa using hi)]
 have hwr:=fun i=>Zf l (nth l i).key (nth l i).res hl;have hrd:∀ i,zlU l i=(decide ((nth l i).k=0) && ((nth l i).done && (decide ((nth l i).res≠0) && decide (zf8 l (nth l i).key (nth l i).res<0)))):=fun i=>rfl;obtain ⟨R,hR⟩:∃ R,zch l=R:=⟨_,rfl⟩
 rw [hR] at hsome hnone ⊢;refine zX.of_body (c:=(xx Try.prog zE zt 47)) ⟨Try.func44,rfl,Try.ntmps44,by kernel_rfl⟩ zH zw rfl ?_;change FW _ _ _ ⟨[(0,.list 8 (l.map OpV.fv))],[]⟩;refine zb ?_;refine FW.loop (fun k:Nat=>⟨[(0,.list 8 (l.map OpV.fv)),(3,.int .i64 k)],[]⟩) (fun k=>k≤l.length∧∀ j,j<k→zlU l j=false) (fun k=>l.length - k) 0 ⟨Nat.zero_le _,fun j hj=>by omega⟩ ?_ ?_
 ·exact (FLe.cv [] zB zd)
 rintro k ⟨hk,hno⟩;refine zb ?_;refine FW.cond rfl (fun h=>?_) (fun h=>?_)
 ·have hlt:k<l.length:=by simpa using h
  have hsome:=hsome k hlt;have hwr:=hwr k;have hrd:=hrd k;have hst:zlU l k=false→∀ j,j<k+1→zlU l j=false:=fun hx j hj=>by
   by_cases e:j=k
   ·rw [e];exact hx
   ·exact hno j za
  obtain ⟨p,hp⟩:∃ p,nth l k=p:=⟨_,rfl⟩
  rw [hp] at hwr hrd;generalize zf8 l p.key p.res=W at hwr hrd;refine zb ?_;refine FW.drawQ zj ?_;refine zp ?_;rw [hp];refine yz (fun h1=>?_) (fun h1=>?_)
  ·rw [h1,Bool.true_and] at hrd;refine zp ?_;rw [hp];refine yz (fun h2=>?_) (fun h2=>?_)
   ·rw [h2,Bool.true_and] at hrd;refine zp ?_;rw [hp];refine yz (fun h3=>?_) (fun h3=>?_)
    ·rw [h3,Bool.true_and] at hrd;refine zp ?_;rw [hp];skip;refine Uk hwr (by repeat (first|exact zu.nil|refine zu.cons zm ?_)) rfl ⟨_,_,rfl,rfl,rfl⟩ ?_;refine zp ?_;refine ⟨by kernel_rfl,?_⟩;refine FW.cond rfl (fun h4=>?_) (fun h4=>?_)
     ·have hR2:R=k:=hsome (by rw [hrd];exact h4) hno;subst hR2;refine zb ?_;exact FW.ret ⟨.inl rfl,zF rfl rfl rfl rfl⟩
     ·refine zb ?_;exact ⟨k+1,⟨by omega,hst (by rw [hrd];exact h4)⟩,by omega,(FLe.cv [] zB zd)⟩
    ·rw [h3,Bool.false_and] at hrd;refine zp ?_;refine ⟨by kernel_rfl,?_⟩;refine zb ?_;exact ⟨k+1,⟨by omega,hst hrd⟩,by omega,(FLe.cv [] zB zd)⟩
   ·rw [h2,Bool.false_and] at hrd;refine zp ?_;refine ⟨by kernel_rfl,?_⟩;refine zb ?_;exact ⟨k+1,⟨by omega,hst hrd⟩,by omega,(FLe.cv [] zB zd)⟩
  ·rw [h1,Bool.false_and] at hrd;refine zp ?_;refine ⟨by kernel_rfl,?_⟩;refine zb ?_;exact ⟨k+1,⟨by omega,hst hrd⟩,by omega,(FLe.cv [] zB zd)⟩
 ·obtain rfl:k=l.length:=by simp at h;omega
  have hR2:R = -1:=hnone hno;subst hR2;refine zb ?_;exact FW.ret ⟨.inl rfl,zF rfl rfl rfl rfl⟩
end
def zgM:List Nat→List Nat→Bool
 | x :: a, y :: b => if x=y then zgM a b else decide (x<y)
 | _, _ => false
theorem zfl:∀ a:List Nat,zgM a a=false
 | [] => rfl
 | x :: a => by unfold zgM; rw [if_pos rfl]; exact zfl a
def Ur (O N:List (List Nat)) (e:EdC):List (List Nat):=
 if nth O e.2.1=[] then N else if nth N e.1=[]∨zgM (e.1::nth O e.2.1) (nth N e.1)=true then N.set e.1 (e.1::nth O e.2.1) else N
def Xs (O:List (List Nat)) (n:Nat) (X:List EdC):List (List Nat):=X.foldl (Ur O) (List.replicate n [])
def ZD (E:List EdC) (y n:Nat):Nat→List (List Nat)
 | 0 => (List.replicate n []).set y [y]
 | k+1 => Xs (ZD E y n k) n E
def prC (E:List EdC):List (Nat×Nat):=E.map fun e=>(e.1,e.2.1)
theorem zf3 (O N:List (List Nat)) (e:EdC):(Ur O N e).length=N.length:=by unfold Ur;split <;> (try split) <;> simp
theorem zi7 (O:List (List Nat)) (n:Nat) (X:List EdC) (e:EdC):Xs O n (X++[e])=Ur O (Xs O n X) e:=by unfold Xs;rw [List.foldl_append];rfl
theorem zft (O:List (List Nat)) (n:Nat) (X:List EdC):(Xs O n X).length=n:=by
 unfold Xs;have:∀ (X:List EdC) (N:List (List Nat)),(X.foldl (Ur O) N).length=N.length:=by
  intro X
  induction X with
  | nil => intro N; rfl
  | cons e X ih => intro N; rw [List.foldl_cons, ih, zf3]
 rw [this];simp
theorem zew (E:List EdC) (y n:Nat):∀ k,(ZD E y n k).length=n
 | 0 => by simp [ZD]
 | k+1 => zft _ _ _
theorem zhS {O:List (List Nat)} {B:Nat} (h:∀ r∈O,r.length≤B) (n:Nat) (X:List EdC):∀ r∈Xs O n X,r.length≤B+1:=by
 unfold Xs;have hn:∀ j,(nth O j).length≤B:=fun j=>by
  rcases Nat.lt_or_ge j O.length with hj|hj
  ·exact h _ (zC hj)
  ·unfold nth;rw [List.getD_eq_getElem?_getD,List.getElem?_eq_none hj];exact Nat.zero_le _
 have:∀ (X:List EdC) (N:List (List Nat)),(∀ r∈N,r.length≤B+1)→∀ r∈X.foldl (Ur O) N,r.length≤B+1:=by
  intro X
  induction X with
  | nil => intro N h; exact h
  | cons e X ih=>
   intro N hN;rw [List.foldl_cons];refine ih _ fun r hr=>?_;unfold Ur at hr;split at hr
   ·exact hN r hr
   ·split at hr
    ·rcases List.mem_or_eq_of_mem_set hr with h1|h1
     ·exact hN r h1
     ·rw [h1,List.length_cons];have:=hn e.2.1;omega
    ·exact hN r hr
 exact this X _ fun r hr=>by rw [List.eq_of_mem_replicate hr];exact Nat.zero_le _
theorem zhn (E:List EdC) (y n:Nat):∀ k,∀ r∈ZD E y n k,r.length≤k+1
 | 0 => fun r hr => by
  rcases List.mem_or_eq_of_mem_set (show r∈(List.replicate n []).set y [y] from hr) with h1|h1
  ·rw [List.eq_of_mem_replicate h1];exact Nat.zero_le _
  ·rw [h1];exact Nat.le_refl _
 | k+1 => zhS (zhn E y n k) n E
def zoy (P:List (Nat×Nat)) (y n k:Nat) (X:List EdC) (N:List (List Nat)):Prop:=∀ a,a<n→
 (nth N a=[]∧∀ e∈X,e.1=a→wkB P y k e.2.1=false)∨∃ b,(∃ e∈X,e.1=a∧e.2.1=b)∧wkB P y k b=true∧nth N a=a::lwV P y n k b∧∀ e∈X,e.1=a→wkB P y k e.2.1=true→b≤e.2.1
theorem zhQ (P:List (Nat×Nat)) (y n k x:Nat):∃ r,lwV P y n k x=x::r:=by cases k <;> exact ⟨_,rfl⟩
theorem zm2 {P : List (Nat×Nat)} {y n k:Nat} {O N:List (List Nat)} {X:List EdC} {e:EdC} (hO:∀ v,v<n→nth O v=if wkB P y k v=true then lwV P y n k v else []) (he:e.1<n∧e.2.1<n) (hN:N.length=n) (h:zoy P y n k X N):zoy P y n k (X++[e]) (Ur O N e):=by
 have hOb:=hO e.2.1 he.2;have keep:∀ a,a<n→(e.1=a→wkB P y k e.2.1=false)→((nth N a=[]∧∀ q∈X++[e],q.1=a→wkB P y k q.2.1=false)∨∃ b,(∃ q∈X++[e],q.1=a∧q.2.1=b)∧wkB P y k b=true∧nth N a=a::lwV P y n k b∧∀ q∈X++[e],q.1=a→wkB P y k q.2.1=true→b≤q.2.1):=fun a ha hea=>by
  rcases h a ha with ⟨h1,h2⟩|⟨b,⟨q,hq,hq1,hq2⟩,h2,h3,h4⟩
  ·refine .inl ⟨h1,fun q hq hqa=>?_⟩;rcases List.mem_append.1 hq with hq|hq
   ·exact h2 q hq hqa
   ·rw [List.mem_singleton.1 hq] at hqa ⊢;exact hea hqa
  ·refine .inr ⟨b,⟨q,List.mem_append_left _ hq,hq1,hq2⟩,h2,h3,fun q hq hqa hw=>?_⟩;rcases List.mem_append.1 hq with hq|hq
   ·exact h4 q hq hqa hw
   ·rw [List.mem_singleton.1 hq] at hqa hw ⊢;rw [hea hqa] at hw;cases hw
 intro a ha;unfold Ur;cases hw:wkB P y k e.2.1 with
 | false =>
  rw [hw] at hOb;rw [if_pos (by rw [hOb];rfl)];exact keep a ha fun _=>hw
 | true=>
  rw [hw,if_pos rfl] at hOb;obtain ⟨r,hr⟩:=zhQ P y n k e.2.1;rw [if_neg (by rw [hOb,hr];simp)];by_cases hea:e.1=a
  ·subst hea;rcases h e.1 ha with ⟨h1,h2⟩|⟨b,⟨q,hq,hq1,hq2⟩,h2,h3,h4⟩
   ·rw [if_pos (.inl h1),zM za];refine .inr ⟨e.2.1,⟨e,by simp,rfl,rfl⟩,hw,by rw [hOb],fun q hq hqa hw'=>?_⟩;rcases List.mem_append.1 hq with hq|hq
    ·rw [h2 q hq hqa] at hw';cases hw'
    ·rw [List.mem_singleton.1 hq];exact Nat.le_refl _
   ·have hles:zgM (e.1::nth O e.2.1) (nth N e.1)=decide (e.2.1<b):=by
     rw [h3,hOb];unfold zgM;rw [if_pos rfl];by_cases hb:e.2.1=b
     ·rw [hb,zfl];simp
     ·obtain ⟨r2,hr2⟩:=zhQ P y n k b;rw [hr,hr2];unfold zgM;rw [if_neg hb]
    by_cases hlt:e.2.1<b
    ·rw [if_pos (.inr (by rw [hles];simpa using hlt)),zM za];refine .inr ⟨e.2.1,⟨e,by simp,rfl,rfl⟩,hw,by rw [hOb],fun q' hq' hqa hw'=>?_⟩;rcases List.mem_append.1 hq' with hq'|hq'
     ·have:=h4 q' hq' hqa hw';omega
     ·rw [List.mem_singleton.1 hq'];exact Nat.le_refl _
    ·rw [if_neg (by rintro (h5|h5);· rw [h3] at h5;cases h5
                    ·rw [hles] at h5;exact hlt (by simpa using h5))]
     refine .inr ⟨b,⟨q,List.mem_append_left _ hq,hq1,hq2⟩,h2,h3,fun q' hq' hqa hw'=>?_⟩;rcases List.mem_append.1 hq' with hq'|hq'
     ·exact h4 q' hq' hqa hw'
     ·rw [List.mem_singleton.1 hq'];omega
  ·have hset:nth (if nth N e.1=[]∨zgM (e.1::nth O e.2.1) (nth N e.1)=true then N.set e.1 (e.1::nth O e.2.1) else N) a=nth N a:=by
    split
    ·show (N.set e.1 _).getD a default=N.getD a default;rw [List.getD_eq_getElem?_getD,List.getElem?_set_ne hea,← List.getD_eq_getElem?_getD]
    ·rfl
   rw [hset];exact keep a ha fun h=>absurd h hea
theorem zia {P:List (Nat×Nat)} {y n k:Nat} {O:List (List Nat)} (hO:∀ v,v<n→nth O v=if wkB P y k v=true then lwV P y n k v else []):∀ (X Y:List EdC) (N:List (List Nat)),(∀ e∈X,e.1<n∧e.2.1<n)→N.length=n→zoy P y n k Y N→zoy P y n k (Y++X) (X.foldl (Ur O) N)
 | [], Y, N, _, _, h => by rw [List.append_nil]; exact h
 | e :: X, Y, N, hX, hN, h => by
  have:=zia hO X (Y++[e]) (Ur O N e) (fun q hq=>hX q (by simp [hq])) (by rw [zf3,hN]) (zm2 hO (hX e zc) hN h);rw [List.append_assoc] at this;exact this
theorem zoa {P:List (Nat×Nat)} {y n k:Nat} {O:List (List Nat)} (hO:∀ v,v<n→nth O v=if wkB P y k v=true then lwV P y n k v else []) (X:List EdC) (hX:∀ e∈X,e.1<n∧e.2.1<n):zoy P y n k X (Xs O n X):=by
 have:=zia hO X [] (List.replicate n []) hX zc fun a ha=>.inl ⟨by rw [nth_eq (by simpa using ha)];simp,fun e he=>by cases he⟩;exact this
theorem zki {E:List EdC} {y n:Nat} (hE:∀ e∈E,e.1<n∧e.2.1<n) (hy:y<n):∀ k v,v<n→nth (ZD E y n k) v=if wkB (prC E) y k v=true then lwV (prC E) y n k v else []
 | 0,v,hv=>by
  show nth ((List.replicate n []).set y [y]) v=_;by_cases h:v=y
  ·subst h;rw [zM (by simpa using hv),if_pos (Xm.2 rfl)];rfl
  ·rw [if_neg (fun q=>h (Xm.1 q))];unfold nth;rw [List.getD_eq_getElem?_getD,List.getElem?_set_ne (fun e=>h e.symm)];simp [hv]
 | k+1,v,hv=>by
  have hP:∀ e∈prC E,e.2<n:=fun e he=>by
   obtain ⟨q,hq,rfl⟩:=List.mem_map.1 he;exact (hE q hq).2
  show nth (Xs (ZD E y n k) n E) v=_;rcases zoa (P:=prC E) (y:=y) (k:=k) (fun u hu=>zki hE hy k u hu) E hE v hv with ⟨h1,h2⟩|⟨b,⟨e,he,he1,he2⟩,h2,h3,h4⟩
  ·rw [h1,if_neg];intro hw;obtain ⟨b,hb1,hb2⟩:=ZK.1 hw;obtain ⟨q,hq,hqe⟩:=List.mem_map.1 hb1;injection hqe with q1 q2
   have:=h2 q hq q1;rw [q2,hb2] at this;cases this
  ·have hvb:(v,b)∈prC E:=List.mem_map.2 ⟨e,he,by rw [he1,he2]⟩;have hw:wkB (prC E) y (k+1) v=true:=ZK.2 ⟨b,hvb,h2⟩;rw [if_pos hw,h3];obtain ⟨n1,n2,n3⟩:=zag hP hw;have h5:=n3 b hvb h2;obtain ⟨q,hq,hqe⟩:=List.mem_map.1 n1;injection hqe with q1 q2
   have h6:=h4 q hq q1 (by rw [q2];exact n2);rw [q2] at h6;show _=v::lwV (prC E) y n k (nxV (prC E) y n k v);rw [show nxV (prC E) y n k v=b by omega]
def zhJ (E:List EdC) (a b:Nat):EdC:=(E.find? fun e=>decide (e.1=a) && decide (e.2.1=b)).getD (0,0,0)
def zgH (E:List EdC):List Nat→List EdC
 | a :: b :: r => zhJ E a b :: zgH E (b :: r)
 | _ => []
def zd1 (E:List EdC) (n x y:Nat):List EdC:=match (List.range n).find? fun k=>decide (nth (ZD E y n (k+1)) x≠[]) with
 | none => []
 | some k => zgH E (nth (ZD E y n (k+1)) x)
theorem zkV {E:List EdC} {P:List (Nat×Nat)} {lab:Nat→Nat→Nat} (h:∀ a b,(a,b)∈P→zhJ E a b=(a,b,lab a b)):∀ X:List Nat,Chn P X→zgH E X=xy lab X
 | [], _ => rfl
 | [_], _ => rfl
 | a :: b :: r, hc => by
  obtain ⟨h1,h2⟩:=hc;unfold zgH xy;rw [h a b h1,zkV h (b::r) h2]
theorem zmT {E:List EdC} {P:List (Nat×Nat)} {lab:Nat→Nat→Nat} {n x y:Nat} (hE:∀ e∈E,e.1<n∧e.2.1<n) (hm:∀ e,e∈prC E↔e∈P) (hl:∀ a b,(a,b)∈P→zhJ E a b=(a,b,lab a b)) (hx:x<n) (hy:y<n):zd1 E n x y=xy lab (ptV P y n x):=by
 have hP:∀ e∈P,e.2<n:=fun e he=>by
  obtain ⟨q,hq,rfl⟩:=List.mem_map.1 ((hm e).2 he);exact (hE q hq).2
 have hb:∀ k,nth (ZD E y n k) x=if wkB P y k x=true then lwV P y n k x else []:=fun k=>by
  rw [zki hE hy k x hx,VO hm,zfr hm]
 have hd:(List.range n).find? (fun k=>decide (nth (ZD E y n (k+1)) x≠[]))=dsV P y n x:=by
  unfold dsV;congr 1;funext k;rw [hb];cases hw:wkB P y (k+1) x with
  | true => simp [lwV]
  | false => simp
 unfold zd1 ptV;rw [hd];cases hds:dsV P y n x with
 | none => rfl
 | some k =>
  obtain ⟨_,h1,_⟩:=zac hds;dsimp only;rw [hb,if_pos h1];exact zkV hl _ (zk4 hP (k+1) x h1).1
def zoC (l:List OpV) (i j:Nat):Bool:=zK l j && decide ((nth l j).p=(nth l i).p)
def WE (l:List OpV) (i k:Nat):Nat→Bool
 | 0 => decide (i<k) && decide ((nth l i).p=(nth l k).p)
 | m+1 => WE l i k m && !zoC l i (i+1+m)
def zoX (l:List OpV) (i k:Nat):Bool:=decide ((nth l k).k=0) && (decide ((nth l i).k=1) && (decide ((nth l k).key=(nth l i).key) && decide ((nth l k).res=(nth l i).arg)))
def znH (l:List OpV) (i k:Nat):Bool:=zK l i && (zK l k && decide (i≠k))
def zkt (l:List OpV) (i k:Nat):List EdC:=if znH l i k=true then (if WE l i k (k - (i+1))=true then [(i,k,1)] else if zoX l i k=true then [(i,k,2)] else []) else []
def xH (l:List OpV) (i m:Nat):List EdC:=(List.range m).flatMap fun k=>zkt l i k
def WH (l:List OpV) (m:Nat):List EdC:=(List.range m).flatMap fun i=>xH l i l.length
def zaI (l:List OpV):List EdC:=WH l l.length
theorem UA (l:List OpV) (i m:Nat):xH l i (m+1)=xH l i m++zkt l i m:=by unfold xH;rw [List.range_succ,List.flatMap_append];simp
theorem zaH (l:List OpV) (m:Nat):WH l (m+1)=WH l m++xH l m l.length:=by unfold WH;rw [List.range_succ,List.flatMap_append];simp
theorem zmu (l:List OpV) (i k:Nat):(zkt l i k).length≤1:=by unfold zkt;split <;> (try split) <;> (try split) <;> simp
theorem WP (l:List OpV) (i:Nat):∀ m,(xH l i m).length≤m
 | 0 => Nat.le_refl _
 | m+1 => by rw [UA, List.length_append]; have := WP l i m; have := zmu l i m; omega
theorem ZM (l:List OpV):∀ m,(WH l m).length≤l.length * m
 | 0 => Nat.le_refl _
 | m+1 => by rw [zaH, List.length_append, Nat.mul_succ]; have := ZM l m; have := WP l m l.length; omega
theorem Vk {l:List OpV} {e:EdC}:e∈zaI l↔e.1<l.length∧e.2.1<l.length∧e∈zkt l e.1 e.2.1:=by
 unfold zaI WH xH;simp only [List.mem_flatMap,List.mem_range];have key:∀ a b,e∈zkt l a b→e.1=a∧e.2.1=b:=fun a b h=>by
  unfold zkt at h;split at h
  ·split at h
   ·rw [List.mem_singleton.1 h];exact ⟨rfl,rfl⟩
   ·split at h
    ·rw [List.mem_singleton.1 h];exact ⟨rfl,rfl⟩
    ·cases h
  ·cases h
 constructor
 ·rintro ⟨a,ha,b,hb,h⟩;obtain ⟨e1,e2⟩:=key a b h;rw [e1,e2];exact ⟨ha,hb,h⟩
 ·rintro ⟨h1,h2,h3⟩;exact ⟨_,h1,_,h2,h3⟩
theorem zfu {l:List OpV} {i k:Nat}:∀ m,WE l i k m=true↔i<k∧(nth l i).p=(nth l k).p∧∀ j,i<j→j<i+1+m→zoC l i j=false
 | 0 => by
  unfold WE;simp only [Bool.and_eq_true,decide_eq_true_eq];exact ⟨fun h=>⟨h.1,h.2,fun j h1 h2=>by omega⟩,fun h=>⟨h.1,h.2.1⟩⟩
 | m+1=>by
  unfold WE;rw [Bool.and_eq_true,zfu m];constructor
  ·rintro ⟨⟨h1,h2,h3⟩,h4⟩;refine ⟨h1,h2,fun j j1 j2=>?_⟩;by_cases e:j=i+1+m
   ·rw [e];simpa using h4
   ·exact h3 j j1 za
  ·rintro ⟨h1,h2,h3⟩;exact ⟨⟨h1,h2,fun j j1 j2=>h3 j j1 za⟩,by rw [h3 (i+1+m) za za];rfl⟩
theorem zdP {l:List OpV} {i k:Nat} (hk:k∈zO l l.length):WE l i k (k - (i+1))=true↔yi l (zO l l.length) i=some k:=by
 rw [zfu];have hs:=za7 l l.length;constructor
 ·rintro ⟨h1,h2,h3⟩;cases hf:yi l (zO l l.length) i with
  | none =>
   have:=List.find?_eq_none.1 hf k hk;simp [h1,h2] at this
  | some q=>
   obtain ⟨q1,q2,q3⟩:=YG hf;have hle:¬ k<q:=fun hlt=>by
    obtain ⟨_,ua,ub,e,hn⟩:=List.find?_eq_some_iff_append.1 hf;have hkm:=hk;rw [e] at hkm hs;rcases List.mem_append.1 hkm with h|h
    ·have:=hn k h;simp [h1,h2] at this
    ·rcases List.mem_cons.1 h with h|h
     ·omega
     ·have:=(List.pairwise_cons.1 (List.pairwise_append.1 hs).2.1).1 k h;omega
   have hge:¬ q<k:=fun hlt=>by
    have:=h3 q q2 za;unfold zoC at this;rw [(xC.1 q1).2,q3] at this;simp at this
   rw [show q=k by omega]
 ·intro hf;obtain ⟨q1,q2,q3⟩:=YG hf;refine ⟨q2,q3.symm,fun j j1 j2=>?_⟩;cases hb:zoC l i j with
  | false => rfl
  | true=>
   exfalso;unfold zoC at hb;simp only [Bool.and_eq_true,decide_eq_true_eq] at hb;have hjm:j∈zO l l.length:=xC.2 ⟨by have:=xt hk;omega,hb.1⟩;obtain ⟨_,ua,ub,e,hn⟩:=List.find?_eq_some_iff_append.1 hf;rw [e] at hjm hs;rcases List.mem_append.1 hjm with h|h
   ·have:=hn j h;simp [j1,hb.2] at this
   ·rcases List.mem_cons.1 h with h|h
    ·omega
    ·have:=(List.pairwise_cons.1 (List.pairwise_append.1 hs).2.1).1 j h;omega
theorem zlr {l:List OpV} (hd:Yi l) {i k:Nat} (hi:i<l.length) (hin:zK l i=true):zoX l i k=true↔yR l k=some i:=by
 unfold zoX;simp only [Bool.and_eq_true,decide_eq_true_eq];constructor
 ·rintro ⟨h1,h2,h3,h4⟩;have ha:(nth l i).arg≠0:=by rcases hd i hi with h|⟨_,h,_⟩;omega;exact h
  unfold yR;rw [if_neg (by rintro (h|h);exact h h1;exact ha (by rw [← h4];exact h))];exact zml hd hi (Yu.2 ⟨h2,h3.symm,h4.symm⟩) hin
 ·intro h;obtain ⟨_,h1,_,h3,_⟩:=zae h;rw [Yu] at h3;exact ⟨h1,h3.1,h3.2.1.symm,h3.2.2.symm⟩
theorem zmB {l:List OpV} {k i:Nat} (h:yR l k=some i):i≠k:=fun e=>by
 obtain ⟨_,h1,_,h3,_⟩:=zae h;rw [Yu] at h3;rw [e] at h3;omega
theorem zdA {l:List OpV} (hd:Yi l) {a b:Nat} (ha:a<l.length) (hb:b<l.length):zkt l a b=if (a,b)∈edC l then [(a,b,ziW l a b)] else []:=by
 unfold zkt;by_cases he:(a,b)∈edC l
 ·obtain ⟨h1,h2,h3⟩:=VW.1 he;have hne:a≠b:=by
   rcases h3 with h3|h3
   ·have:=(YG h3).2.1;omega
   ·exact zmB h3
  rw [if_pos he,if_pos (by unfold znH;rw [(xC.1 h1).2,(xC.1 h2).2];simpa using hne),znN he];by_cases hn:yi l (zO l l.length) a=some b
  ·rw [if_pos ((zdP h2).2 hn),if_pos hn]
  ·rw [if_neg (fun q=>hn ((zdP h2).1 q)),if_neg hn,if_pos ((zlr hd ha (xC.1 h1).2).2 (h3.resolve_left hn))]
 ·rw [if_neg he];split
  ·rename_i hbo;unfold znH at hbo;simp only [Bool.and_eq_true,decide_eq_true_eq] at hbo;have h1:a∈zO l l.length:=xC.2 ⟨ha,hbo.1⟩;have h2:b∈zO l l.length:=xC.2 ⟨hb,hbo.2.1⟩;rw [if_neg (fun q=>he (VW.2 ⟨h1,h2,.inl ((zdP h2).1 q)⟩)),if_neg (fun q=>he (VW.2 ⟨h1,h2,.inr ((zlr hd ha hbo.1).1 q)⟩))]
  ·rfl
theorem zgw (l:List OpV):∀ e∈zaI l,e.1<l.length∧e.2.1<l.length:=fun e he=>by
 obtain ⟨h1,h2,_⟩:=Vk.1 he;exact ⟨h1,h2⟩
theorem zhX {l:List OpV} (hd:Yi l) (e:Nat×Nat):e∈prC (zaI l)↔e∈edC l:=by
 obtain ⟨a,b⟩:=e;unfold prC;rw [List.mem_map];constructor
 ·rintro ⟨e,he,hq⟩;injection hq with q1 q2
  obtain ⟨h1,h2,h3⟩:=Vk.1 he;rw [zdA hd h1 h2] at h3;split at h3
  ·rename_i h;rw [← q1,← q2];exact h
  ·cases h3
 ·intro h;obtain ⟨h1,h2⟩:=zht l _ h;refine ⟨(a,b,ziW l a b),Vk.2 ⟨h1,h2,?_⟩,rfl⟩;rw [zdA hd h1 h2,if_pos h];simp
theorem zfi {l:List OpV} (hd:Yi l) (a b:Nat) (h:(a,b)∈edC l):zhJ (zaI l) a b=(a,b,ziW l a b):=by
 obtain ⟨h1,h2⟩:=zht l _ h;unfold zhJ;cases hf:(zaI l).find? fun e=>decide (e.1=a) && decide (e.2.1=b) with
 | none =>
  have:=List.find?_eq_none.1 hf (a,b,ziW l a b) (Vk.2 ⟨h1,h2,by rw [zdA hd h1 h2,if_pos h];simp⟩);simp at this
 | some e =>
  have h3:=List.find?_some hf;simp only [Bool.and_eq_true,decide_eq_true_eq] at h3;obtain ⟨h4,h5,h6⟩:=Vk.1 (List.mem_of_find?_eq_some hf);rw [h3.1,h3.2,zdA hd h1 h2,if_pos h] at h6;rw [List.mem_singleton.1 h6];rfl
theorem zcU {l:List OpV} (hd:Yi l) {x y:Nat} (hx:x<l.length) (hy:y<l.length):zd1 (zaI l) l.length x y=Zr l x y:=
 zmT (zgw l) (zhX hd) (zfi hd) hx hy
end Go.Proofs.Ytmnmakhpjgjdaaa
