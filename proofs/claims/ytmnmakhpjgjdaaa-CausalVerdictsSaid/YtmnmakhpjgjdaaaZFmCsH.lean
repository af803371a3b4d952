/-
  Some texts as one: FmCsH, FmCs1, ConsPlain, FmCs2, FmCs3, FmCr1, CauRef, CauRef2.
-/
import Derived.Test.YtmnmakhpjgjdaaaZD
import Derived.Test.YtmnmakhpjgjdaaaZF
import Derived.Test.YtmnmakhpjgjdaaaZFmCauE
import Derived.Test.YtmnmakhpjgjdaaaZR
import Derived.Test.YtmnmakhpjgjdaaaZFmW
import Derived.Test.YtmnmakhpjgjdaaaZE
import Derived.Test.YtmnmakhpjgjdaaaZFmCau6
namespace Go.Proofs.Ytmnmakhpjgjdaaa
set_option linter.unusedVariables false
set_option maxHeartbeats 16000000
section
open Go.RowKit
theorem zbw (l:List Int) (most:Int) (hl:∀ x∈l,I64 x) (hlen:l.length≤9223372036854775807) (hm:I64 most):zV Try.prog 10 [.list 1 (l.map zC),.int .i64 most] (.ow 43 8) (.list 8 ((yx l most).map OpV.fv)) where
 go:=by kernel_rfl
 hand:=rfl
 calls w I vs hI hv:=by
  obtain ⟨_,_,rfl,e1,e2⟩:=hv.inv2;obtain ⟨A,c,rfl,_,hs⟩:=zgd.of e1 hI;rw [e2.int_inv];refine (zeb A c l most w hs hl hlen hm).mono ?_;rintro e w' ⟨A1,c1,rfl,ho,hb⟩;exact ⟨_,rfl,hb,opT.res ho⟩
theorem zcq (l:List OpV) (at_ how v:Int) (hlen:l.length≤1000000) (ha:I64 at_) (hh:I64 how):zV Try.prog 13 [.list 8 (l.map OpV.fv),.int .i64 at_,.int .i64 how,.int .i64 v] (.ow 43 8) (.list 8 ((ZV l at_ how v).map OpV.fv)) where
 go:=by kernel_rfl
 hand:=rfl
 calls w I vs hI hv:=by
  obtain ⟨_,_,_,_,rfl,e1,e2,e3,e4⟩:=hv.inv4;obtain ⟨A,c,rfl,_,hs⟩:=opT.of e1 hI;rw [e2.int_inv,e3.int_inv,e4.int_inv];refine (zip A c l at_ how v w hs hlen ha hh).mono ?_;rintro e w' ⟨A1,c1,rfl,ho,hb⟩;exact ⟨_,rfl,hb,opT.res ho⟩
/-! ### what the registers are -/
theorem zbv (l:List Int) {most:Int} (h0:0≤most) (h1:most≤20):xn (yx l most)=0∧(∀ o∈yx l most,VT o)∧(∀ o∈yx l most,zga o)∧((yx l most).length:Int)≤most:=by
 have hg:=zaP l most;have hl:=zcE l most;have hi:=zgB l (most:=most) h0;have inv:=zbu (zaU l) hg hl _ (Nat.le_refl _);exact ⟨(zhF hg hl inv.ok inv.sm).1,(zhF hg hl inv.ok inv.sm).2,inv.sm,by have:=inv.ok.len;unfold yx;omega⟩
structure zmd where
 check:Int
 cls:Int
 arg:Int
 ord:List Int
 ed:List EdC
 deriving DecidableEq,Inhabited
def zmd.fv (v:zmd):List FV:=[.int .i64 v.check,.int .i64 v.cls,.int .i64 v.arg,.list 1 (v.ord.map zC),.list 3 (v.ed.map EdC.fv)]
def zaA (L:List Nat):List Int:=L.map fun i:Nat=>(i:Int)
def zpd (l:List OpV):zmd:=match WV l with
 | some i => ⟨5, 2, (nth l i).key, zaA [i], []⟩
 | none=>if Ws l≠[] then ⟨5,6,0,[],ZE l (Ws l) (Ws l).length⟩ else match Uk l with
  | some (w1, w2, i) => ⟨5, 7, (nth l w2).key, zaA [w1, w2, i], Zs l w1 w2 ++ Zs l w2 i⟩
  | none => match Uf l with
   | some (w, i) => ⟨5, 8, (nth l w).key, zaA [w, i], Zs l w i⟩
   | none => ⟨5, 0, 0, zoM l, []⟩
def zmr (l:List OpV):zmd:=if Zj l≠0 then ⟨0,0,0,[],[]⟩ else zpd l
def zpe (l:List OpV):zmd:=match zjN l with
 | some (r, k, i) => ⟨6, 9+r, (nth l i).key, zaA [k, i], []⟩
 | none => ⟨6, 0, 0, [], []⟩
def zna (l:List OpV):zmd:=if Zj l≠0 then ⟨0,0,0,[],[]⟩ else zpe l
theorem zk8 (sz:Nat) (es:List (List FV)):FV.le (znT sz es) (.list sz es):=by
 cases es with
 | nil => exact .nil sz
 | cons e es => exact .refl _
theorem zmR (L:List Nat):L.map yp=(zaA L).map zC:=by unfold zaA;rw [List.map_map];rfl
theorem zpa {c k a:Int} {f g:FV} {o:List Int} {e:List EdC} (h1:FV.le f (.list 1 (o.map zC))) (h2:FV.le g (.list 3 (e.map EdC.fv))):FV.le (.agg [.int .i64 c,.int .i64 k,.int .i64 a,f,g]) (.agg (zmd.fv ⟨c,k,a,o,e⟩)):=
 .agg (.cons (.refl _) (.cons (.refl _) (.cons (.refl _) (.cons h1 (.cons h2 .nil)))))
theorem zbX (c k a:Int) (o:List Nat) (e:List EdC):FV.le (.agg (YV c k a o e)) (.agg (zmd.fv ⟨c,k,a,zaA o,e⟩)):=by
 unfold YV;refine zpa ?_ (zk8 3 _);rw [zmR];exact zk8 1 _
theorem zkl (l:List OpV):FV.le (.agg (ZW l)) (.agg (zpd l).fv):=by
 unfold ZW zpd;cases WV l with
 | some i => exact zbX 5 2 _ [i] []
 | none=>
  dsimp only;by_cases h:Ws l≠[]
  ·rw [if_pos h,if_pos h];exact zpa (.nil 1) (.refl _)
  ·rw [if_neg h,if_neg h];cases Uk l with
   | some x =>
    obtain ⟨w1,w2,i⟩:=x;exact zbX 5 7 _ [w1,w2,i] _
   | none=>
    dsimp only;cases Uf l with
    | some x =>
     obtain ⟨w,i⟩:=x;exact zbX 5 8 _ [w,i] _
    | none => exact zpa (.refl _) (.nil 3)
theorem zl2 (l:List OpV):FV.le (.agg (VL l)) (.agg (zpe l).fv):=by
 unfold VL zpe;cases zjN l with
 | some x =>
  obtain ⟨r,k,i⟩:=x;exact zbX 6 (9+r) _ [k,i] []
 | none => exact zbX 6 0 0 [] []
theorem zkk (l:List OpV):FV.le (zj2 l) (.tup [.agg (zmr l).fv,.int .i64 (Zj l)]):=by
 unfold zj2 zmr;by_cases h:Zj l≠0
 ·rw [if_pos h,if_pos h];exact .tup (.cons (zpa (.nil 1) (.nil 3)) (.cons (.refl _) .nil))
 ·rw [if_neg h,if_neg h,show Zj l=0 by simpa using h];exact .tup (.cons (zkl l) (.cons (.refl _) .nil))
theorem zl1 (l:List OpV):FV.le (zj6 l) (.tup [.agg (zna l).fv,.int .i64 (Zj l)]):=by
 unfold zj6 zna;by_cases h:Zj l≠0
 ·rw [if_pos h,if_pos h];exact .tup (.cons (zpa (.nil 1) (.nil 3)) (.cons (.refl _) .nil))
 ·rw [if_neg h,if_neg h,show Zj l=0 by simpa using h];exact .tup (.cons (zl2 l) (.cons (.refl _) .nil))
theorem zms (l:List OpV) (hl:l.length≤14):(zmr l).ord.length≤1000∧(zmr l).ed.length≤1000:=by
 unfold zmr;split
 ·exact ⟨by simp,by simp⟩
 unfold zpd;split
 ·exact ⟨by simp [zaA],by simp⟩
 ·split
  ·have:=zdA l;exact ⟨by simp,by simp [ZE];omega⟩
  ·rename_i hc;split
   ·rename_i w1 w2 i _;have h1:=@ZH l w1 w2;have h2:=@ZH l w2 i;exact ⟨by simp [zaA],by simp;omega⟩
   ·split
    ·rename_i w i _;have h1:=@ZH l w i;exact ⟨by simp [zaA],by dsimp only;omega⟩
    ·have hc:Ws l=[]:=by simpa using hc
     have h2:=(Yd (Yv l) hc).2.len;have h3:(zoM l).length≤(yO l.length (edC l)).length:=List.length_filter_le _ _;exact ⟨by dsimp only;omega,by simp⟩
theorem znb (l:List OpV):(zna l).ord.length≤1000∧(zna l).ed.length≤1000:=by
 unfold zna;split
 ·exact ⟨by simp,by simp⟩
 unfold zpe;split
 ·exact ⟨by simp [zaA],by simp⟩
 ·exact ⟨by simp,by simp⟩
theorem zbi (l:List OpV) (hl:l.length≤14) (hin:∀ o∈l,VT o):zV Try.prog 18 [.list 8 (l.map OpV.fv)] .sh (.tup [.agg (zmr l).fv,.int .i64 (Zj l)]):=zV.le (zgn l hl hin) (zkk l) rfl
theorem VB (l:List OpV) (hl:l.length≤1000) (hin:∀ o∈l,VT o):zV Try.prog 19 [.list 8 (l.map OpV.fv)] .sh (.tup [.agg (zna l).fv,.int .i64 (Zj l)]):=zV.le (zdu l hl hin) (zl1 l) rfl
theorem zmA (x:EdC):zmh Try.prog 46 x.fv x.fv true:=by
 refine ⟨by kernel_rfl,fun w=>?_⟩;obtain ⟨a1,a2,a3⟩:=x;show (Op.equalIn 10000 46 (.agg #[.int .i64 (a1:Int),.int .i64 (a2:Int),.int .i64 (a3:Int)]) (.agg #[.int .i64 (a1:Int),.int .i64 (a2:Int),.int .i64 (a3:Int)])).run Try.prog w=_;have hS:Try.prog.underlying 46=some (.struct (Try.prog.fieldsOf 46)):=by kernel_rfl
 have hp:Try.prog.stoodInHeld 46=false:=by kernel_rfl
 rw [show (10000:Nat)=9999+1 from rfl,run_equalIn_agg w 9999 46 _ _ hS hp];simp only [Program.fieldsOf,Try.underlying46];simp [go_sem]
theorem Xk (V:zmd) (h1:V.ord.length≤1000) (h2:V.ed.length≤1000):zV Try.prog 22 [.agg V.fv,.agg V.fv] .fr (.bool true):=by
 have hs1:=zeh V.ord V.ord za za;rw [decide_eq_true rfl] at hs1;obtain ⟨ck,cls,arg,O,E⟩:=V;dsimp only at h1 h2 hs1;obtain ⟨n,hn⟩:∃ n,E.length=n:=⟨_,rfl⟩
 obtain ⟨X,hX⟩:∃ X,O.map zC=X:=⟨_,rfl⟩
 show zV _ _ [.agg [.int .i64 ck,.int .i64 cls,.int .i64 arg,.list 1 (O.map zC),.list 3 (E.map EdC.fv)],.agg [.int .i64 ck,.int .i64 cls,.int .i64 arg,.list 1 (O.map zC),.list 3 (E.map EdC.fv)]] _ _;rw [hX] at hs1 ⊢;refine zV.of_body (c:=(xy Try.prog zD zu 67)) ⟨Try.func22,rfl,Try.ntmps22,by kernel_rfl⟩ zF zx rfl ?_;change FW _ _ _ ⟨[(0,.agg [.int .i64 ck,.int .i64 cls,.int .i64 arg,.list 1 X,.list 3 (E.map EdC.fv)]),(1,.agg [.int .i64 ck,.int .i64 cls,.int .i64 arg,.list 1 X,.list 3 (E.map EdC.fv)])],[]⟩;refine zb ?_;refine zP (fun h=>absurd rfl (of_decide_eq_true h)) (fun h=>?_);refine zb ?_;refine zP (fun h=>absurd rfl (of_decide_eq_true h)) (fun h=>?_);refine zb ?_;refine zP (fun h=>absurd rfl (of_decide_eq_true h)) (fun h=>?_);refine zb ?_;refine zO hs1 (by repeat (first|exact zq.nil|refine zq.cons zm ?_)) rfl ⟨_,_,rfl,rfl,rfl⟩ ?_;refine zb ?_;refine FW.cond rfl (fun h=>absurd rfl (of_decide_eq_true h)) (fun h=>?_);clear h;refine zb ?_;refine FW.loop (fun j:Nat=>⟨[(2,.ptr 102 0 0 0),(3,.ptr 103 0 0 0),(5,.int .i64 j)],[(102,⟨0,.own,36,5,[[.int .i64 ck,.int .i64 cls,.int .i64 arg,.list 1 X,.list 3 (E.map EdC.fv)]]⟩),(103,⟨0,.own,36,5,[[.int .i64 ck,.int .i64 cls,.int .i64 arg,.list 1 X,.list 3 (E.map EdC.fv)]]⟩)]⟩) (fun j=>j≤n) (fun j=>n - j) 0 (Nat.zero_le _) (FLe.cv [⟨102,some 2,0+1,⟨0,.own,36,5,[[.int .i64 ck,.int .i64 cls,.int .i64 arg,.list 1 X,.list 3 (E.map EdC.fv)]]⟩⟩,⟨103,some 3,0+1,⟨0,.own,36,5,[[.int .i64 ck,.int .i64 cls,.int .i64 arg,.list 1 X,.list 3 (E.map EdC.fv)]]⟩⟩] zf zd) ?_;intro j hj;refine zb ?_;refine FW.cond rfl (fun h=>?_) (fun h=>?_)
 ·have hlt:j<E.length:=by simpa using h
  refine zQ ?_;refine zoU rfl rfl rfl rfl (zmA (nth E j)) rfl rfl ?_;refine zn ?_;refine ⟨by kernel_rfl,?_⟩;refine zb ?_;exact ⟨j+1,by omega,by omega,(FLe.cv [⟨102,some 102,0,⟨0,.own,36,5,[[.int .i64 ck,.int .i64 cls,.int .i64 arg,.list 1 X,.list 3 (E.map EdC.fv)]]⟩⟩,⟨103,some 103,0,⟨0,.own,36,5,[[.int .i64 ck,.int .i64 cls,.int .i64 arg,.list 1 X,.list 3 (E.map EdC.fv)]]⟩⟩] zf zd)⟩
 ·refine zb ?_;exact FW.ret ⟨.inl rfl,zE rfl rfl rfl rfl⟩
def Vg (i:Nat) (s:List OpV×List Int):List OpV×List Int:=
 if (nth s.1 i).k=1 then (s.1,s.2.set (nth s.1 i).key.toNat (nth s.1 i).arg)
 else if (nth s.1 i).done=true then (s.1.set i { nth s.1 i with res:=nth s.2 (nth s.1 i).key.toNat },s.2) else s
def Vh (h:List OpV):Nat→List OpV×List Int
 | 0 => (h, [0, 0, 0])
 | k+1 => Vg k (Vh h k)
def Vf (h:List OpV):List OpV:=(Vh h h.length).1
structure zou (h:List OpV) (k:Nat) (s:List OpV×List Int):Prop where
 len:s.1.length=h.length
 now:s.2.length=3
 sm:∀ x∈s.2,0≤x∧x≤40
 old:∀ j,k≤j→nth s.1 j=nth h j
 same:∀ j,nth s.1 j={ nth h j with res:=(nth s.1 j).res }
 res:∀ j,(nth s.1 j).res=(nth h j).res∨(0≤(nth s.1 j).res∧(nth s.1 j).res≤40)
theorem zdX {α:Type} [Inhabited α] {l:List α} {i j:Nat} {v:α} (hi:i<l.length):nth (l.set i v) j=if j=i then v else nth l j:=by
 by_cases h:j=i
 ·subst h;rw [if_pos rfl,nth_eq (by simpa using hi)];simp
 ·rw [if_neg h];unfold nth;rw [List.getD_eq_getElem?_getD,List.getD_eq_getElem?_getD,List.getElem?_set_ne (fun e=>h e.symm)]
theorem YE {h:List OpV} (hs:∀ o∈h,zga o):∀ k,k≤h.length→zou h k (Vh h k)
 | 0, _ => ⟨rfl, rfl, fun x hx => by have hx:x ∈ [0, 0, 0] := hx; simp at hx; omega, fun _ _ => rfl, fun _ => rfl, fun _ => .inl rfl⟩
 | k + 1,hk=>by
  have ih:=YE hs k za;show zou h (k+1) (Vg k (Vh h k));generalize Vh h k=s at ih;have hkn:nth s.1 k=nth h k:=ih.old k (Nat.le_refl _);have hsm:=hs _ (zy (l:=h) (i:=k) za);have hks:k<s.1.length:=by rw [ih.len];omega
  unfold Vg;rw [hkn];unfold zga at hsm;obtain ⟨s1,s2,s3,s4⟩:=hsm;split
  ·refine ⟨ih.len,by simpa using ih.now,fun x hx=>?_,fun j hj=>ih.old j za,ih.same,ih.res⟩;rcases We hx with h1|h1
   ·exact ih.sm x h1
   ·rw [h1];exact s3
  ·split
   ·have hnow:=ih.sm _ (zy (l:=s.2) (i:=(nth h k).key.toNat) (by rw [ih.now];omega));refine ⟨by simpa using ih.len,ih.now,ih.sm,fun j hj=>?_,fun j=>?_,fun j=>?_⟩
    ·rw [zdX hks,if_neg za];exact ih.old j za
    ·dsimp only;rw [zdX hks];by_cases hj:j=k
     ·rw [if_pos hj,hj]
     ·rw [if_neg hj];exact ih.same j
    ·dsimp only;rw [zdX hks];by_cases hj:j=k
     ·rw [if_pos hj];exact .inr hnow
     ·rw [if_neg hj];exact ih.res j
   ·exact ⟨ih.len,ih.now,ih.sm,fun j hj=>ih.old j za,ih.same,ih.res⟩
theorem VZ {h:List OpV} (hs:∀ o∈h,zga o):(Vf h).length=h.length:=(YE hs _ (Nat.le_refl _)).len
theorem zaD {h:List OpV} (hs:∀ o∈h,zga o) (j:Nat):nth (Vf h) j={ nth h j with res:=(nth (Vf h) j).res }:=(YE hs _ (Nat.le_refl _)).same j
theorem zko {h:List OpV} (hs:∀ o∈h,zga o):∀ o∈Vf h,zga o:=fun o ho=>by
 obtain ⟨j,hj,rfl⟩:=List.getElem_of_mem ho;rw [← nth_eq hj];have hI:=YE hs _ (Nat.le_refl _);have hjl:j<h.length:=by rw [VZ hs] at hj;exact hj
 have h1:=hs _ (zy hjl);have h2:=zaD hs j;have h3:=hI.res j;change (nth (Vf h) j).res=_∨_ at h3;rw [h2];unfold zga at h1 ⊢;refine ⟨h1.1,h1.2.1,h1.2.2.1,?_⟩;dsimp only;rcases h3 with h3|h3
 ·rw [h3];exact h1.2.2.2
 ·exact h3
theorem zkn {h:List OpV} (hs:∀ o∈h,zga o) (hi:∀ o∈h,VT o):∀ o∈Vf h,VT o:=fun o ho=>by
 have hsm:=zko hs o ho;obtain ⟨j,hj,rfl⟩:=List.getElem_of_mem ho;rw [← nth_eq hj] at hsm ⊢;have hjl:j<h.length:=by rw [VZ hs] at hj;exact hj
 have h1:=hi _ (zy hjl);have h2:=zaD hs j;rw [h2] at hsm ⊢;unfold zga at hsm;unfold VT at h1 ⊢;dsimp only at hsm ⊢;unfold I64 at *;omega
def znR:List OpV:=[⟨0,1,3,1,0,0,1,true⟩,⟨0,0,3,0,0,2,3,true⟩]
theorem zpl:zmr znR=⟨5,8,3,[0,1],[(0,1,1)]⟩:=by decide +kernel
theorem zpk:zna znR=⟨6,9,3,[0,1],[]⟩:=by decide +kernel
theorem zoF:Zj znR=0:=by decide +kernel
theorem zk5:∀ o∈znR,VT o:=fun o ho=>by simp only [znR,List.mem_cons,List.not_mem_nil,or_false] at ho;rcases ho with rfl|rfl <;> (unfold VT I64;decide)
theorem zft:zV Try.prog 15 [] .fr (.bool true):=by
 have hA:=zbi znR zg zk5;have hB:=VB znR zg zk5;rw [zpl,zoF] at hA;rw [zpk,zoF] at hB;change zV _ _ [.list 8 [OpV.fv ⟨0,1,3,1,0,0,1,true⟩,OpV.fv ⟨0,0,3,0,0,2,3,true⟩]] _ (.tup [.agg [.int .i64 5,.int .i64 8,.int .i64 3,.list 1 ([0,1].map zC),.list 3 [[.int .i64 0,.int .i64 1,.int .i64 1]]],.int .i64 0]) at hA;change zV _ _ [.list 8 [OpV.fv ⟨0,1,3,1,0,0,1,true⟩,OpV.fv ⟨0,0,3,0,0,2,3,true⟩]] _ (.tup [.agg [.int .i64 6,.int .i64 9,.int .i64 3,.list 1 ([0,1].map zC),.list 3 []],.int .i64 0]) at hB;have s1:=Xk ⟨5,8,3,[0,1],[(0,1,1)]⟩ zg zg;have s2:=Xk ⟨6,9,3,[0,1],[]⟩ zg zg;change zV _ _ [.agg [.int .i64 5,.int .i64 8,.int .i64 3,.list 1 ([0,1].map zC),.list 3 [[.int .i64 0,.int .i64 1,.int .i64 1]]],.agg [.int .i64 5,.int .i64 8,.int .i64 3,.list 1 ([0,1].map zC),.list 3 [[.int .i64 0,.int .i64 1,.int .i64 1]]]] _ _ at s1;change zV _ _ [.agg [.int .i64 6,.int .i64 9,.int .i64 3,.list 1 ([0,1].map zC),.list 3 []],.agg [.int .i64 6,.int .i64 9,.int .i64 3,.list 1 ([0,1].map zC),.list 3 []]] _ _ at s2;refine zV.of_body (c:=(xy Try.prog zD zu 45)) ⟨Try.func15,rfl,Try.ntmps15,by kernel_rfl⟩ zF zx rfl ?_;change FW _ _ _ ⟨[],[]⟩;refine zb ?_;refine VI (es:=[OpV.fv ⟨0,1,3,1,0,0,1,true⟩,OpV.fv ⟨0,0,3,0,0,2,3,true⟩]) rfl rfl rfl (by refine yW.agg rfl rfl rfl ?_;refine yW.agg rfl rfl rfl ?_;exact yW.nil) rfl rfl rfl rfl rfl rfl ?_;refine zp.le ?_ (FLe.share 10 rfl rfl (by rfl));refine zb ?_;refine yj hA (by repeat (first|exact zq.nil|refine zq.cons zm ?_)) rfl rfl ?_;refine zb ?_;refine yj hB (by repeat (first|exact zq.nil|refine zq.cons zm ?_)) rfl rfl ?_;refine zb ?_;refine VI (es:=[0,1].map zC) rfl rfl rfl (by refine yW.int rfl rfl ?_;refine yW.int rfl rfl ?_;exact yW.nil) rfl rfl rfl rfl rfl rfl ?_;refine zp.le ?_ (FLe.share 21 rfl rfl rfl);refine zfU rfl rfl rfl rfl ?_;refine Ym.one rfl rfl rfl rfl rfl ?_;refine Ym.one rfl rfl rfl rfl rfl ?_;refine Ym.one rfl rfl rfl rfl rfl ?_;refine Ym.nil ?_;refine VI (es:=[[.int .i64 0,.int .i64 1,.int .i64 1]]) rfl rfl rfl (by refine yW.agg rfl rfl rfl ?_;exact yW.nil) rfl rfl rfl rfl rfl rfl ?_;refine zp.le ?_ (FLe.share 23 rfl rfl rfl);refine zb ?_;refine VI (es:=[0,1].map zC) rfl rfl rfl (by refine yW.int rfl rfl ?_;refine yW.int rfl rfl ?_;exact yW.nil) rfl rfl rfl rfl rfl rfl ?_;refine zp.le ?_ (FLe.share 26 rfl rfl rfl);refine zb ?_;refine zO s1 (by repeat (first|exact zq.nil|refine zq.cons zm ?_)) rfl ⟨_,_,rfl,rfl,rfl⟩ ?_;refine zb ?_;refine zO s2 Xc rfl ⟨_,_,rfl,rfl,rfl⟩ ?_;refine zb ?_;exact FW.ret ⟨.inl rfl,zE rfl rfl rfl rfl⟩
theorem zkp (l:List Int) (hl:∀ x∈l,I64 x) (hlen:l.length≤9223372036854775807):zV Try.prog 11 [.list 1 (l.map zC)] (.ow 43 8) (.list 8 ((Vf (yx l 12)).map OpV.fv)):=by
 have hR:=zbw l 12 hl hlen (by unfold I64;omega);obtain ⟨_,hin,hsm,hn⟩:=zbv l (most:=12) za za;generalize yx l 12=H at *;have hI:=fun k hk=>YE hsm k hk;unfold Vf;have hst:∀ k,Vh H (k+1)=Vg k (Vh H k):=fun _=>rfl;have h0:Vh H 0=(H,[0,0,0]):=rfl;generalize Vh H=S at *;refine zV.of_body (c:=(xy Try.prog zD zu 51)) ⟨Try.func11,rfl,Try.ntmps11,by kernel_rfl⟩ zF zx rfl ?_;change FW _ _ _ ⟨[(0,.list 1 (l.map zC))],[]⟩;refine zb ?_;refine ZI hR (by repeat (first|exact zq.nil|refine zq.cons zm ?_)) (List.length_map _) rfl rfl rfl ?_;refine zb ?_;obtain ⟨n,hnn⟩:∃ n,H.length=n:=⟨_,rfl⟩
 refine FW.loop (fun k:Nat=>⟨[(0,.list 1 (l.map zC)),(3,.own 100 0 0 n),(4,.own 101 0 0 3),(5,.int .i64 k)],[(100,⟨0,.own,43,8,(S k).1.map OpV.fv⟩),(101,⟨0,.own,3,1,(S k).2.map zC⟩)]⟩) (fun k=>k≤n) (fun k=>n - k) 0 (Nat.zero_le _) ?_ ?_
 ·rw [h0,hnn];exact (FLe.cv [⟨100,some 7,0+1,⟨0,.own,43,8,H.map OpV.fv⟩⟩,⟨101,some 8,0+1,⟨0,.own,3,1,[0,0,0].map zC⟩⟩] zf zd)
 intro k hk;have hIk:=hI k za;have hIn:=hst k;unfold Vg at hIn;obtain ⟨⟨T,N⟩,hT⟩:∃ T,S k=T:=⟨_,rfl⟩
 rw [hT] at hIk hIn ⊢;dsimp only at hIn ⊢;have hTl:T.length=n:=by rw [← hnn];exact hIk.len
 have hNl:N.length=3:=hIk.now;have hold:=hIk.old;dsimp only at hold;refine zb ?_;refine FW.cond rfl (fun h=>?_) (fun h=>?_)
 ·have hlt:k<n:=by simpa using h
  clear h;have hkT:k<T.length:=by omega
  have hs:=hsm _ (zy (l:=H) (i:=k) za);rw [← hold k (Nat.le_refl _)] at hs;obtain ⟨o,ho⟩:∃ o,nth T k=o:=⟨_,rfl⟩
  rw [ho] at hs hIn;obtain ⟨⟨s1,s2⟩,⟨s3,s4⟩,⟨s5,s6⟩,s7,s8⟩:=hs;obtain ⟨y,hy⟩:∃ y:Nat,o.key=y:=⟨o.key.toNat,by omega⟩
  have hyN:y<N.length:=by omega
  have hy3:y<3:=by omega
  rw [show o.key.toNat=y by omega] at hIn;refine zb ?_;rw [ho];skip;refine FW.cond rfl (fun h=>?_) (fun h=>?_)
  ·have h:o.k=1:=by simpa using h
   rw [if_pos h] at hIn;refine zQ ?_;refine VF rfl rfl (by rw [ho];exact hy) rfl rfl rfl zg rfl hy3 rfl rfl ?_;refine zn ?_;refine ⟨by kernel_rfl,?_⟩;rw [ho];refine zb ?_;refine ⟨k+1,by omega,by omega,?_⟩;rw [hIn];dsimp only;rw [List.map_set];exact (FLe.cv [⟨100,some 100,0,⟨0,.own,43,8,T.map OpV.fv⟩⟩,⟨101,some 101,0,⟨0,.own,3,1,(N.map zC).set y [.int .i64 o.arg]⟩⟩] zf zd)
  ·have h:¬ o.k=1:=by simpa using h
   rw [if_neg h] at hIn;refine zb ?_;rw [ho];skip;refine FW.cond rfl (fun h=>?_) (fun h=>?_)
   ·rw [if_pos h] at hIn;refine zb ?_;refine xH rfl rfl (by rw [ho];exact hy) rfl rfl rfl zg rfl hy3 rfl rfl ?_;refine zb ?_;rw [ho];refine ⟨k+1,by omega,by omega,?_⟩;rw [hIn];dsimp only;rw [List.map_set];exact (FLe.cv [⟨100,some 100,0,⟨0,.own,43,8,(T.map OpV.fv).set k (OpV.fv { o with res:=nth N y })⟩⟩,⟨101,some 101,0,⟨0,.own,3,1,N.map zC⟩⟩] zf zd)
   ·rw [if_neg (by rw [h];decide)] at hIn;refine zb ?_;refine ⟨k+1,by omega,by omega,?_⟩;rw [hIn];exact (FLe.cv [⟨100,some 100,0,⟨0,.own,43,8,T.map OpV.fv⟩⟩,⟨101,some 101,0,⟨0,.own,3,1,N.map zC⟩⟩] zf zd)
 ·have hk:k=n:=by simp at h;omega
  rw [hk] at hT;rw [hnn,hT];refine zb ?_;exact FW.ret ⟨.inl rfl,zbz rfl rfl rfl zw zg rfl (fun e he=>by obtain ⟨x,_,rfl⟩:=List.mem_map.1 he;rfl)⟩
theorem xM (l:List OpV) (i:Nat) (hl:l.length≤1000000) (hi:i<l.length):zV Try.prog 52 [.list 8 (l.map OpV.fv),.int .i64 i] .fr (.bool (zJ l i)):=by
 have hR:zJ l i=((nth l i).done || (decide ((nth l i).k=1) && l.any (zmf (nth l i).key (nth l i).arg))):=rfl;obtain ⟨o,ho⟩:∃ o,nth l i=o:=⟨_,rfl⟩
 obtain ⟨R,hRe⟩:∃ R,zJ l i=R:=⟨_,rfl⟩
 rw [hRe,ho] at hR;rw [hRe];refine zV.of_body (c:=(xy Try.prog zD zu 64)) ⟨Try.func52,rfl,Try.ntmps52,by kernel_rfl⟩ zF zx rfl ?_;change FW _ _ _ ⟨[(0,.list 8 (l.map OpV.fv)),(1,.int .i64 i)],[]⟩;refine zb ?_;rw [ho];refine FW.cond rfl (fun h=>?_) (fun h=>?_)
 ·have h:o.done=true:=h;rw [h,Bool.true_or] at hR;subst hR;refine zb ?_;exact FW.ret ⟨.inl rfl,zE rfl rfl rfl rfl⟩
 have h:o.done=false:=h;rw [h,Bool.false_or] at hR;refine zb ?_;refine FW.loop (fun k:Nat=>⟨[(0,.list 8 (l.map OpV.fv)),(1,.int .i64 i),(5,.int .i64 k)],[]⟩) (fun k=>k≤l.length∧∀ j,j<k→(decide (o.k=1) && zmf o.key o.arg (nth l j))=false) (fun k=>l.length - k) 0 ⟨Nat.zero_le _,fun j hj=>by omega⟩ ?_ ?_
 ·exact (FLe.cv [] zB zd)
 rintro k ⟨hk,hno⟩;refine zb ?_;refine FW.cond rfl (fun h=>?_) (fun h=>?_)
 ·have hlt:k<l.length:=by simpa using h
  obtain ⟨p,hp⟩:∃ p,nth l k=p:=⟨_,rfl⟩
  have hrd:(decide (o.k=1) && zmf o.key o.arg p)=(decide (o.k=1) && (decide (p.k=0) && (p.done && (decide (p.key=o.key) && decide (p.res=o.arg))))):=rfl;have hst:(decide (o.k=1) && zmf o.key o.arg p)=false→∀ j,j<k+1→(decide (o.k=1) && zmf o.key o.arg (nth l j))=false:=fun hx j hj=>by
   by_cases e:j=k
   ·rw [e,hp];exact hx
   ·exact hno j za
  refine zb ?_;refine FW.drawQ zi ?_;refine zn ?_;rw [ho];refine yA (fun h0=>?_) (fun h0=>?_)
  ·rw [h0,Bool.true_and,Bool.true_and] at hrd;rw [h0,Bool.true_and] at hR hst;refine zn ?_;rw [hp];refine yA (fun h1=>?_) (fun h1=>?_)
   ·rw [h1,Bool.true_and] at hrd;refine zn ?_;rw [hp];refine yA (fun h2=>?_) (fun h2=>?_)
    ·rw [h2,Bool.true_and] at hrd;refine zn ?_;rw [hp,ho];refine yA (fun h3=>?_) (fun h3=>?_)
     ·rw [h3,Bool.true_and] at hrd;refine zn ?_;rw [hp,ho];skip;refine ⟨by kernel_rfl,?_⟩;refine FW.cond rfl (fun h4=>?_) (fun h4=>?_)
      ·have hR2:R=true:=by
        rw [hR,zgi];exact ⟨k,hlt,by rw [hp,hrd];exact h4⟩
       subst hR2;refine zb ?_;exact FW.ret ⟨.inl rfl,zE rfl rfl rfl rfl⟩
      ·refine zb ?_;exact ⟨k+1,⟨by omega,by rw [h0] at *;exact hst (by rw [hrd];exact h4)⟩,by omega,(FLe.cv [] zB zd)⟩
     ·rw [h3,Bool.false_and] at hrd;refine zn ?_;refine ⟨by kernel_rfl,?_⟩;refine zb ?_;exact ⟨k+1,⟨by omega,by rw [h0] at *;exact hst hrd⟩,by omega,(FLe.cv [] zB zd)⟩
    ·rw [h2,Bool.false_and] at hrd;refine zn ?_;refine ⟨by kernel_rfl,?_⟩;refine zb ?_;exact ⟨k+1,⟨by omega,by rw [h0] at *;exact hst hrd⟩,by omega,(FLe.cv [] zB zd)⟩
   ·rw [h1,Bool.false_and] at hrd;refine zn ?_;refine ⟨by kernel_rfl,?_⟩;refine zb ?_;exact ⟨k+1,⟨by omega,by rw [h0] at *;exact hst hrd⟩,by omega,(FLe.cv [] zB zd)⟩
  ·rw [h0,Bool.false_and] at hrd;refine zn ?_;refine ⟨by kernel_rfl,?_⟩;refine zb ?_;exact ⟨k+1,⟨by omega,hst (by rw [h0,Bool.false_and])⟩,by omega,(FLe.cv [] zB zd)⟩
 ·obtain rfl:k=l.length:=by simp at h;omega
  have hR2:R=false:=by
   rw [hR,Bool.eq_false_iff];intro h;rw [Bool.and_eq_true] at h;obtain ⟨j,hj,h2⟩:=zgi.1 h.2;have:=hno j hj;rw [h.1,h2] at this;cases this
  subst hR2;refine zb ?_;exact FW.ret ⟨.inl rfl,zE rfl rfl rfl rfl⟩
def zgb (l:List OpV) (key v:Int):Int:=match cIx l key v with|some w=>(w:Int)|none=>-1
theorem Zf (l:List OpV) (c v:Int) (hl:l.length≤1000000):zV Try.prog 66 [.list 8 (l.map OpV.fv),.int .i64 c,.int .i64 v] .fr (.int .i64 (zgb l c v)):=by
 have hsome:∀ k,k<l.length→(wOf c v (nth l k) && zJ l k)=true→(∀ j,j<k→(wOf c v (nth l j) && zJ l j)=false)→zgb l c v=k:=fun k hk h1 h2=>by
  unfold zgb cIx;have hf:(List.range l.length).find? (fun j=>wOf c v (nth l j) && zJ l j)=some k:=by
   rw [List.find?_eq_some_iff_append];refine ⟨h1,List.range k,(List.range' (k+1) (l.length - (k+1))),?_,fun a ha=>by rw [h2 a (List.mem_range.1 ha)];rfl⟩;rw [List.range_eq_range',List.range_eq_range',show k::List.range' (k+1) (l.length - (k+1))=List.range' k (l.length - k) by rw [show l.length - k=(l.length - (k+1))+1 by omega,List.range'_succ]];rw [show List.range' 0 l.length=List.range' 0 (k+(l.length - k)) by congr 1;omega,← List.range'_append];simp
  rw [hf]
 have hnone:(∀ j,j<l.length→(wOf c v (nth l j) && zJ l j)=false)→zgb l c v = -1:=fun h2=>by
  unfold zgb;cases h:cIx l c v with
  | none => rfl
  | some w =>
   obtain ⟨w1,w2,w3⟩:=ZD h;have:=h2 w w1;rw [w2,w3] at this;cases this
 obtain ⟨R,hR⟩:∃ R,zgb l c v=R:=⟨_,rfl⟩
 rw [hR] at hsome hnone ⊢;have hinc:=fun i hi=>xM l i hl hi;refine zV.of_body (c:=(xy Try.prog zD zu 44)) ⟨Try.func66,rfl,Try.ntmps66,by kernel_rfl⟩ zF zx rfl ?_;change FW _ _ _ ⟨[(0,.list 8 (l.map OpV.fv)),(1,.int .i64 c),(2,.int .i64 v)],[]⟩;refine zb ?_;refine FW.loop (fun k:Nat=>⟨[(0,.list 8 (l.map OpV.fv)),(1,.int .i64 c),(2,.int .i64 v),(7,.int .i64 k)],[]⟩) (fun k=>k≤l.length∧∀ j,j<k→(wOf c v (nth l j) && zJ l j)=false) (fun k=>l.length - k) 0 ⟨Nat.zero_le _,fun j hj=>by omega⟩ ?_ ?_
 ·exact (FLe.cv [] zB zd)
 rintro k ⟨hk,hno⟩;refine zb ?_;refine FW.cond rfl (fun h=>?_) (fun h=>?_)
 ·have hlt:k<l.length:=by simpa using h
  have hsome:=hsome k hlt;have hinc:=hinc k hlt;have hst:(wOf c v (nth l k) && zJ l k)=false→∀ j,j<k+1→(wOf c v (nth l j) && zJ l j)=false:=fun hx j hj=>by
   by_cases e:j=k
   ·rw [e];exact hx
   ·exact hno j za
  obtain ⟨p,hp⟩:∃ p,nth l k=p:=⟨_,rfl⟩
  generalize zJ l k=ik at hinc hsome hst;rw [hp] at hsome hst;have hrd:wOf c v p=(decide (p.k=1) && (decide (p.key=c) && decide (p.arg=v))):=rfl;refine zb ?_;rw [hp];refine zP (fun h1=>?_) (fun h1=>?_)
  ·rw [h1,Bool.true_and] at hrd;refine zb ?_;rw [hp];refine zP (fun h3=>?_) (fun h3=>?_)
   ·rw [h3,Bool.true_and] at hrd;refine zb ?_;rw [hp];refine zP (fun h4=>?_) (fun h4=>?_)
    ·rw [h4] at hrd;rw [hrd,Bool.true_and] at hsome hst;refine zb ?_;refine zO hinc (by repeat (first|exact zq.nil|refine zq.cons zm ?_)) rfl ⟨_,_,rfl,rfl,rfl⟩ ?_;refine zb ?_;refine FW.cond rfl (fun h5=>?_) (fun h5=>?_)
     ·have hR2:R=k:=hsome h5 hno;subst hR2;refine zb ?_;exact FW.ret ⟨.inl rfl,zE rfl rfl rfl rfl⟩
     ·refine zb ?_;exact ⟨k+1,⟨by omega,hst h5⟩,by omega,(FLe.cv [] zB zd)⟩
    ·rw [h4] at hrd;refine zb ?_;exact ⟨k+1,⟨by omega,hst (by rw [hrd,Bool.false_and])⟩,by omega,(FLe.cv [] zB zd)⟩
   ·rw [h3,Bool.false_and] at hrd;refine zb ?_;exact ⟨k+1,⟨by omega,hst (by rw [hrd,Bool.false_and])⟩,by omega,(FLe.cv [] zB zd)⟩
  ·rw [h1,Bool.false_and] at hrd;refine zb ?_;exact ⟨k+1,⟨by omega,hst (by rw [hrd,Bool.false_and])⟩,by omega,(FLe.cv [] zB zd)⟩
 ·obtain rfl:k=l.length:=by simp at h;omega
  have hR2:R = -1:=hnone hno;subst hR2;refine zb ?_;exact FW.ret ⟨.inl rfl,zE rfl rfl rfl rfl⟩
theorem VD (l:List OpV) (hl:l.length≤1000000):zV Try.prog 43 [.list 8 (l.map OpV.fv)] .fr (.int .i64 (Zj l)):=by
 have hck:=zg2 l za;rw [← ziu] at hck;have h1:xn l≠0→Zj l=xn l:=fun h=>by unfold Zj;rw [if_pos h]
 have hyes:xn l=0→(∀ i,i<l.length→okW l i)→Zj l=0:=fun h hd=>by unfold Zj;rw [if_neg (by simpa using h),if_pos (show Yn l from hd)]
 have hnot:xn l=0→∀ i,i<l.length→¬ okW l i→Zj l=22:=fun h i hi hd=>by unfold Zj;rw [if_neg (by simpa using h),if_neg (fun h2=>hd (h2 i hi))]
 obtain ⟨R,hR⟩:∃ R,Zj l=R:=⟨_,rfl⟩
 rw [hR] at h1 hyes hnot ⊢;generalize xn l=C at hck h1 hyes hnot;refine zV.of_body (c:=(xy Try.prog zD zu 80)) ⟨Try.func43,rfl,Try.ntmps43,by kernel_rfl⟩ zF zx rfl ?_;change FW _ _ _ ⟨[(0,.list 8 (l.map OpV.fv))],[]⟩;refine zb ?_;refine zO hck (by repeat (first|exact zq.nil|refine zq.cons zm ?_)) rfl rfl ?_;refine zb ?_;refine FW.cond rfl (fun h=>?_) (fun h=>?_)
 ·obtain rfl:=h1 (by simpa using h);refine zb ?_;exact FW.ret ⟨.inl rfl,zE rfl rfl rfl rfl⟩
 have h0:C=0:=by simpa using h
 have hyes:=hyes h0;have hnot:=hnot h0;refine zb ?_;refine FW.loop (fun k:Nat=>⟨[(0,.list 8 (l.map OpV.fv)),(4,.int .i64 k)],[]⟩) (fun k=>k≤l.length∧∀ j,j<k→okW l j) (fun k=>l.length - k) 0 ⟨Nat.zero_le _,fun j hj=>by omega⟩ ?_ ?_
 ·exact (FLe.cv [] zB zd)
 rintro k ⟨hk,hno⟩;refine zb ?_;refine FW.cond rfl (fun h=>?_) (fun h=>?_)
 ·have hlt:k<l.length:=by simpa using h
  have hnot:=hnot k hlt;obtain ⟨p,hp⟩:∃ p,nth l k=p:=⟨_,rfl⟩
  have hok:okW l k=(p.k=0∨(p.k=1∧p.arg≠0∧∀ j,j<k→wOf p.key p.arg (nth l j)=false)):=by unfold okW;rw [hp]
  have hst:okW l k→∀ j,j<k+1→okW l j:=fun hx j hj=>by
   by_cases e:j=k
   ·rw [e];exact hx
   ·exact hno j za
  rw [hok] at hnot hst;refine zb ?_;rw [hp];refine zP (fun h1=>?_) (fun h1=>?_)
  ·have h1:¬ p.k=0:=by simpa using h1
   refine zb ?_;rw [hp];skip;refine FW.cond rfl (fun h2=>?_) (fun h2=>?_)
   ·have h2:¬ p.k=1:=by simpa using h2
    have hR2:R=22:=hnot (by rintro (h|h);exact h1 h;exact h2 h.1);subst hR2;refine zb ?_;exact FW.ret ⟨.inl rfl,zE rfl rfl rfl rfl⟩
   have h2:p.k=1:=by simpa using h2
   refine zb ?_;rw [hp];skip;refine FW.condF (congrArg FV.bool (decide_eq_false h1)) ?_;refine zb ?_;rw [hp];skip;refine FW.cond rfl (fun h3=>?_) (fun h3=>?_)
   ·have h3:p.arg=0:=by simpa using h3
    have hR2:R=22:=hnot (by rintro (h|h);exact h1 h;exact h.2.1 h3);subst hR2;refine zb ?_;exact FW.ret ⟨.inl rfl,zE rfl rfl rfl rfl⟩
   have h3:¬ p.arg=0:=by simpa using h3
   refine zb ?_;refine FW.loop (fun m:Nat=>⟨[(0,.list 8 (l.map OpV.fv)),(4,.int .i64 k),(5,.int .i64 m)],[]⟩) (fun m=>m≤k∧∀ j,j<m→wOf p.key p.arg (nth l j)=false) (fun m=>k - m) 0 ⟨Nat.zero_le _,fun j hj=>by omega⟩ ?_ ?_
   ·exact (FLe.cv [] zB zd)
   rintro m ⟨hm,hmo⟩;refine zb ?_;refine FW.cond rfl (fun h4=>?_) (fun h4=>?_)
   ·have hltm:m<k:=by simpa using h4
    obtain ⟨r,hr⟩:∃ r,nth l m=r:=⟨_,rfl⟩
    have hrd:wOf p.key p.arg r=(decide (r.k=1) && (decide (r.key=p.key) && decide (r.arg=p.arg))):=rfl;have hst2:wOf p.key p.arg r=false→∀ j,j<m+1→wOf p.key p.arg (nth l j)=false:=fun hx j hj=>by
     by_cases e:j=m
     ·rw [e,hr];exact hx
     ·exact hmo j za
    refine zb ?_;refine FW.drawQ zi ?_;refine zn ?_;rw [hr];refine yA (fun h5=>?_) (fun h5=>?_)
    ·rw [h5,Bool.true_and] at hrd;refine zn ?_;rw [hr,hp];refine yA (fun h6=>?_) (fun h6=>?_)
     ·rw [h6,Bool.true_and] at hrd;refine zn ?_;rw [hr,hp];skip;refine ⟨by kernel_rfl,?_⟩;refine FW.cond rfl (fun h7=>?_) (fun h7=>?_)
      ·have hR2:R=22:=hnot (by
        rintro (h|h)
        ·exact h1 h
        ·have:=h.2.2 m hltm;rw [hr,hrd,show decide (r.arg=p.arg)=true from h7] at this;cases this)
       subst hR2;refine zb ?_;exact FW.ret ⟨.inl rfl,zE rfl rfl rfl rfl⟩
      ·refine zb ?_;exact ⟨m+1,⟨by omega,hst2 (by rw [hrd];exact h7)⟩,by omega,(FLe.cv [] zB zd)⟩
     ·rw [h6,Bool.false_and] at hrd;refine zn ?_;refine ⟨by kernel_rfl,?_⟩;refine zb ?_;exact ⟨m+1,⟨by omega,hst2 hrd⟩,by omega,(FLe.cv [] zB zd)⟩
    ·rw [h5,Bool.false_and] at hrd;refine zn ?_;refine ⟨by kernel_rfl,?_⟩;refine zb ?_;exact ⟨m+1,⟨by omega,hst2 hrd⟩,by omega,(FLe.cv [] zB zd)⟩
   ·obtain rfl:m=k:=by simp at h4;omega
    refine zb ?_;exact ⟨m+1,⟨by omega,hst (.inr ⟨h2,h3,hmo⟩)⟩,by omega,(FLe.cv [] zB zd)⟩
  ·have h1:p.k=0:=by simpa using h1
   refine zb ?_;rw [hp];skip;refine FW.condT (congrArg FV.bool (decide_eq_true h1)) ?_;refine zb ?_;exact ⟨k+1,⟨by omega,hst (.inl h1)⟩,by omega,(FLe.cv [] zB zd)⟩
 ·obtain rfl:k=l.length:=by simp at h;omega
  have hR2:R=0:=hyes hno;subst hR2;refine zb ?_;exact FW.ret ⟨.inl rfl,zE rfl rfl rfl rfl⟩
theorem zdt (l:List OpV) (key v:Int):(cIx l key v=none∧zgb l key v = -1)∨∃ w:Nat,cIx l key v=some w∧zgb l key v=w∧w<l.length:=by
 unfold zgb;cases h:cIx l key v with
 | none => exact .inl ⟨rfl, rfl⟩
 | some w => exact .inr ⟨w, rfl, rfl, (ZD h).1⟩
theorem zd4 (l:List OpV) (key v u:Int) (hl:l.length≤1000000):zV Try.prog 53 [.list 8 (l.map OpV.fv),.int .i64 key,.int .i64 v,.int .i64 u] .fr (.bool (XE l key v u)):=by
 have hw1:=Zf l key v hl;have hw2:=Zf l key u hl;have hc1:=zdt l key v;have hc2:=zdt l key u;unfold XE;generalize zgb l key v=A at hw1 hc1;generalize zgb l key u=B at hw2 hc2;generalize cIx l key v=a at hc1 ⊢;generalize cIx l key u=b at hc2 ⊢;refine zV.of_body (c:=(xy Try.prog zD zu 45)) ⟨Try.func53,rfl,Try.ntmps53,by kernel_rfl⟩ zF zx rfl ?_;change FW _ _ _ ⟨[(0,.list 8 (l.map OpV.fv)),(1,.int .i64 key),(2,.int .i64 v),(3,.int .i64 u)],[]⟩;refine zb ?_;refine FW.cond rfl (fun h=>?_) (fun h=>?_)
 ·rw [if_pos (by simpa using h)];refine zb ?_;exact FW.ret ⟨.inl rfl,zE rfl rfl rfl rfl⟩
 rw [if_neg (by simpa using h)];clear h;refine zb ?_;refine zO hw1 (by repeat (first|exact zq.nil|refine zq.cons zm ?_)) rfl rfl ?_;refine zb ?_;refine zO hw2 (by repeat (first|exact zq.nil|refine zq.cons zm ?_)) rfl rfl ?_;rcases hc1 with ⟨rfl,rfl⟩|⟨a,rfl,rfl,ha⟩
 ·refine zb ?_;exact FW.ret ⟨.inl rfl,zE rfl rfl rfl rfl⟩
 rcases hc2 with ⟨rfl,rfl⟩|⟨b,rfl,rfl,hb⟩
 ·refine zb ?_;exact FW.ret ⟨.inl rfl,zE rfl rfl rfl rfl⟩
 ·dsimp only;refine zQ ?_;refine yA (fun h4=>?_) (fun h4=>?_)
  ·have h4:(nth l a).p=(nth l b).p:=by simpa using h4
   refine zn ?_;refine ⟨by kernel_rfl,?_⟩;skip;refine FW.ret ⟨.inl rfl,zE rfl rfl ?_ rfl⟩;rw [decide_eq_true h4,Bool.true_and];simp;rfl
  ·have h4:¬ (nth l a).p=(nth l b).p:=by simpa using h4
   refine zn ?_;refine ⟨by kernel_rfl,?_⟩;skip;refine FW.ret ⟨.inl rfl,zE rfl rfl ?_ rfl⟩;rw [decide_eq_false h4,Bool.false_and];rfl
def zlX (l:List OpV) (i:Nat):Bool:=decide ((nth l i).k=0) && ((nth l i).done && (decide ((nth l i).res≠0) && decide (zgb l (nth l i).key (nth l i).res<0)))
def zcm (l:List OpV):Int:=match WV l with|some i=>(i:Int)|none=>-1
theorem zob (l:List OpV) (i:Nat):zlX l i=(zJ l i && XP l i):=by
 unfold zlX XP;by_cases hk:(nth l i).k=0
 ·have hi:zJ l i=(nth l i).done:=by unfold zJ;simp [hk]
  rw [hi,decide_eq_true hk,Bool.true_and,Bool.true_and];by_cases hr:(nth l i).res=0
  ·simp [hr]
  ·have hf:(yU l i).isNone=decide (zgb l (nth l i).key (nth l i).res<0):=by
    unfold yU;rw [if_neg (by simp [hk,hr])];rcases zdt l (nth l i).key (nth l i).res with ⟨h1,h2⟩|⟨w,h1,h2,_⟩
    ·rw [h1,h2];rfl
    ·rw [h1,h2];simp
   rw [hf]
 ·simp [hk]
theorem zid (l:List OpV):WV l=(List.range l.length).find? (zlX l):=by
 unfold WV zN;rw [List.find?_filter];congr 1;funext i;rw [zob];cases zJ l i <;> simp
theorem zfK (l:List OpV) (hl:l.length≤1000000):zV Try.prog 44 [.list 8 (l.map OpV.fv)] .fr (.int .i64 (zcm l)):=by
 have hsome:∀ k,k<l.length→zlX l k=true→(∀ j,j<k→zlX l j=false)→zcm l=k:=fun k hk h1 h2=>by
  unfold zcm;rw [zid];have hf:=xm (p:=zlX l) (l:=List.range l.length) (j:=k) (fun i hi=>by rw [nth_eq zw];simpa using h2 i hi) (by simpa using hk) (by rw [nth_eq (by simpa using hk)];simpa using h1);rw [hf,nth_eq (by simpa using hk)];simp
 have hnone:(∀ j,j<l.length→zlX l j=false)→zcm l = -1:=fun h2=>by
  unfold zcm;rw [zid,xQ fun i hi=>by rw [nth_eq hi];simpa using h2 i (by simpa using hi)]
 have hwr:=fun i=>Zf l (nth l i).key (nth l i).res hl;have hrd:∀ i,zlX l i=(decide ((nth l i).k=0) && ((nth l i).done && (decide ((nth l i).res≠0) && decide (zgb l (nth l i).key (nth l i).res<0)))):=fun i=>rfl;obtain ⟨R,hR⟩:∃ R,zcm l=R:=⟨_,rfl⟩
 rw [hR] at hsome hnone ⊢;refine zV.of_body (c:=(xy Try.prog zD zu 47)) ⟨Try.func44,rfl,Try.ntmps44,by kernel_rfl⟩ zF zx rfl ?_;change FW _ _ _ ⟨[(0,.list 8 (l.map OpV.fv))],[]⟩;refine zb ?_;refine FW.loop (fun k:Nat=>⟨[(0,.list 8 (l.map OpV.fv)),(3,.int .i64 k)],[]⟩) (fun k=>k≤l.length∧∀ j,j<k→zlX l j=false) (fun k=>l.length - k) 0 ⟨Nat.zero_le _,fun j hj=>by omega⟩ ?_ ?_
 ·exact (FLe.cv [] zB zd)
 rintro k ⟨hk,hno⟩;refine zb ?_;refine FW.cond rfl (fun h=>?_) (fun h=>?_)
 ·have hlt:k<l.length:=by simpa using h
  have hsome:=hsome k hlt;have hwr:=hwr k;have hrd:=hrd k;have hst:zlX l k=false→∀ j,j<k+1→zlX l j=false:=fun hx j hj=>by
   by_cases e:j=k
   ·rw [e];exact hx
   ·exact hno j za
  obtain ⟨p,hp⟩:∃ p,nth l k=p:=⟨_,rfl⟩
  rw [hp] at hwr hrd;generalize zgb l p.key p.res=W at hwr hrd;refine zb ?_;refine FW.drawQ zi ?_;refine zn ?_;rw [hp];refine yA (fun h1=>?_) (fun h1=>?_)
  ·rw [h1,Bool.true_and] at hrd;refine zn ?_;rw [hp];refine yA (fun h2=>?_) (fun h2=>?_)
   ·rw [h2,Bool.true_and] at hrd;refine zn ?_;rw [hp];refine yA (fun h3=>?_) (fun h3=>?_)
    ·rw [h3,Bool.true_and] at hrd;refine zn ?_;rw [hp];skip;refine Up hwr (by repeat (first|exact zq.nil|refine zq.cons zm ?_)) rfl ⟨_,_,rfl,rfl,rfl⟩ ?_;refine zn ?_;refine ⟨by kernel_rfl,?_⟩;refine FW.cond rfl (fun h4=>?_) (fun h4=>?_)
     ·have hR2:R=k:=hsome (by rw [hrd];exact h4) hno;subst hR2;refine zb ?_;exact FW.ret ⟨.inl rfl,zE rfl rfl rfl rfl⟩
     ·refine zb ?_;exact ⟨k+1,⟨by omega,hst (by rw [hrd];exact h4)⟩,by omega,(FLe.cv [] zB zd)⟩
    ·rw [h3,Bool.false_and] at hrd;refine zn ?_;refine ⟨by kernel_rfl,?_⟩;refine zb ?_;exact ⟨k+1,⟨by omega,hst hrd⟩,by omega,(FLe.cv [] zB zd)⟩
   ·rw [h2,Bool.false_and] at hrd;refine zn ?_;refine ⟨by kernel_rfl,?_⟩;refine zb ?_;exact ⟨k+1,⟨by omega,hst hrd⟩,by omega,(FLe.cv [] zB zd)⟩
  ·rw [h1,Bool.false_and] at hrd;refine zn ?_;refine ⟨by kernel_rfl,?_⟩;refine zb ?_;exact ⟨k+1,⟨by omega,hst hrd⟩,by omega,(FLe.cv [] zB zd)⟩
 ·obtain rfl:k=l.length:=by simp at h;omega
  have hR2:R = -1:=hnone hno;subst hR2;refine zb ?_;exact FW.ret ⟨.inl rfl,zE rfl rfl rfl rfl⟩
end
def zgR:List Nat→List Nat→Bool
 | x :: a, y :: b => if x=y then zgR a b else decide (x<y)
 | _, _ => false
theorem zfq:∀ a:List Nat,zgR a a=false
 | [] => rfl
 | x :: a => by unfold zgR; rw [if_pos rfl]; exact zfq a
def Uw (O N:List (List Nat)) (e:EdC):List (List Nat):=
 if nth O e.2.1=[] then N else if nth N e.1=[]∨zgR (e.1::nth O e.2.1) (nth N e.1)=true then N.set e.1 (e.1::nth O e.2.1) else N
def Xt (O:List (List Nat)) (n:Nat) (X:List EdC):List (List Nat):=X.foldl (Uw O) (List.replicate n [])
def ZC (E:List EdC) (y n:Nat):Nat→List (List Nat)
 | 0 => (List.replicate n []).set y [y]
 | k+1 => Xt (ZC E y n k) n E
def prC (E:List EdC):List (Nat×Nat):=E.map fun e=>(e.1,e.2.1)
theorem zf7 (O N:List (List Nat)) (e:EdC):(Uw O N e).length=N.length:=by unfold Uw;split <;> (try split) <;> simp
theorem zi9 (O:List (List Nat)) (n:Nat) (X:List EdC) (e:EdC):Xt O n (X++[e])=Uw O (Xt O n X) e:=by unfold Xt;rw [List.foldl_append];rfl
theorem zfz (O:List (List Nat)) (n:Nat) (X:List EdC):(Xt O n X).length=n:=by
 unfold Xt;have:∀ (X:List EdC) (N:List (List Nat)),(X.foldl (Uw O) N).length=N.length:=by
  intro X
  induction X with
  | nil => intro N; rfl
  | cons e X ih => intro N; rw [List.foldl_cons, ih, zf7]
 rw [this];simp
theorem zeB (E:List EdC) (y n:Nat):∀ k,(ZC E y n k).length=n
 | 0 => by simp [ZC]
 | k+1 => zfz _ _ _
theorem zhU {O:List (List Nat)} {B:Nat} (h:∀ r∈O,r.length≤B) (n:Nat) (X:List EdC):∀ r∈Xt O n X,r.length≤B+1:=by
 unfold Xt;have hn:∀ j,(nth O j).length≤B:=fun j=>by
  rcases Nat.lt_or_ge j O.length with hj|hj
  ·exact h _ (zy hj)
  ·unfold nth;rw [List.getD_eq_getElem?_getD,List.getElem?_eq_none hj];exact Nat.zero_le _
 have:∀ (X:List EdC) (N:List (List Nat)),(∀ r∈N,r.length≤B+1)→∀ r∈X.foldl (Uw O) N,r.length≤B+1:=by
  intro X
  induction X with
  | nil => intro N h; exact h
  | cons e X ih=>
   intro N hN;rw [List.foldl_cons];refine ih _ fun r hr=>?_;unfold Uw at hr;split at hr
   ·exact hN r hr
   ·split at hr
    ·rcases List.mem_or_eq_of_mem_set hr with h1|h1
     ·exact hN r h1
     ·rw [h1,List.length_cons];have:=hn e.2.1;omega
    ·exact hN r hr
 exact this X _ fun r hr=>by rw [List.eq_of_mem_replicate hr];exact Nat.zero_le _
theorem zhq (E:List EdC) (y n:Nat):∀ k,∀ r∈ZC E y n k,r.length≤k+1
 | 0 => fun r hr => by
  rcases List.mem_or_eq_of_mem_set (show r∈(List.replicate n []).set y [y] from hr) with h1|h1
  ·rw [List.eq_of_mem_replicate h1];exact Nat.zero_le _
  ·rw [h1];exact Nat.le_refl _
 | k+1 => zhU (zhq E y n k) n E
def zoy (P:List (Nat×Nat)) (y n k:Nat) (X:List EdC) (N:List (List Nat)):Prop:=∀ a,a<n→
 (nth N a=[]∧∀ e∈X,e.1=a→wkB P y k e.2.1=false)∨∃ b,(∃ e∈X,e.1=a∧e.2.1=b)∧wkB P y k b=true∧nth N a=a::lwV P y n k b∧∀ e∈X,e.1=a→wkB P y k e.2.1=true→b≤e.2.1
theorem zhS (P:List (Nat×Nat)) (y n k x:Nat):∃ r,lwV P y n k x=x::r:=by cases k <;> exact ⟨_,rfl⟩
theorem zm4 {P : List (Nat×Nat)} {y n k:Nat} {O N:List (List Nat)} {X:List EdC} {e:EdC} (hO:∀ v,v<n→nth O v=if wkB P y k v=true then lwV P y n k v else []) (he:e.1<n∧e.2.1<n) (hN:N.length=n) (h:zoy P y n k X N):zoy P y n k (X++[e]) (Uw O N e):=by
 have hOb:=hO e.2.1 he.2;have keep:∀ a,a<n→(e.1=a→wkB P y k e.2.1=false)→((nth N a=[]∧∀ q∈X++[e],q.1=a→wkB P y k q.2.1=false)∨∃ b,(∃ q∈X++[e],q.1=a∧q.2.1=b)∧wkB P y k b=true∧nth N a=a::lwV P y n k b∧∀ q∈X++[e],q.1=a→wkB P y k q.2.1=true→b≤q.2.1):=fun a ha hea=>by
  rcases h a ha with ⟨h1,h2⟩|⟨b,⟨q,hq,hq1,hq2⟩,h2,h3,h4⟩
  ·refine .inl ⟨h1,fun q hq hqa=>?_⟩;rcases List.mem_append.1 hq with hq|hq
   ·exact h2 q hq hqa
   ·rw [List.mem_singleton.1 hq] at hqa ⊢;exact hea hqa
  ·refine .inr ⟨b,⟨q,List.mem_append_left _ hq,hq1,hq2⟩,h2,h3,fun q hq hqa hw=>?_⟩;rcases List.mem_append.1 hq with hq|hq
   ·exact h4 q hq hqa hw
   ·rw [List.mem_singleton.1 hq] at hqa hw ⊢;rw [hea hqa] at hw;cases hw
 intro a ha;unfold Uw;cases hw:wkB P y k e.2.1 with
 | false =>
  rw [hw] at hOb;rw [if_pos (by rw [hOb];rfl)];exact keep a ha fun _=>hw
 | true=>
  rw [hw,if_pos rfl] at hOb;obtain ⟨r,hr⟩:=zhS P y n k e.2.1;rw [if_neg (by rw [hOb,hr];simp)];by_cases hea:e.1=a
  ·subst hea;rcases h e.1 ha with ⟨h1,h2⟩|⟨b,⟨q,hq,hq1,hq2⟩,h2,h3,h4⟩
   ·rw [if_pos (.inl h1),zL za];refine .inr ⟨e.2.1,⟨e,by simp,rfl,rfl⟩,hw,by rw [hOb],fun q hq hqa hw'=>?_⟩;rcases List.mem_append.1 hq with hq|hq
    ·rw [h2 q hq hqa] at hw';cases hw'
    ·rw [List.mem_singleton.1 hq];exact Nat.le_refl _
   ·have hles:zgR (e.1::nth O e.2.1) (nth N e.1)=decide (e.2.1<b):=by
     rw [h3,hOb];unfold zgR;rw [if_pos rfl];by_cases hb:e.2.1=b
     ·rw [hb,zfq];simp
     ·obtain ⟨r2,hr2⟩:=zhS P y n k b;rw [hr,hr2];unfold zgR;rw [if_neg hb]
    by_cases hlt:e.2.1<b
    ·rw [if_pos (.inr (by rw [hles];simpa using hlt)),zL za];refine .inr ⟨e.2.1,⟨e,by simp,rfl,rfl⟩,hw,by rw [hOb],fun q' hq' hqa hw'=>?_⟩;rcases List.mem_append.1 hq' with hq'|hq'
     ·have:=h4 q' hq' hqa hw';omega
     ·rw [List.mem_singleton.1 hq'];exact Nat.le_refl _
    ·rw [if_neg (by rintro (h5|h5);· rw [h3] at h5;cases h5
                    ·rw [hles] at h5;exact hlt (by simpa using h5))]
     refine .inr ⟨b,⟨q,List.mem_append_left _ hq,hq1,hq2⟩,h2,h3,fun q' hq' hqa hw'=>?_⟩;rcases List.mem_append.1 hq' with hq'|hq'
     ·exact h4 q' hq' hqa hw'
     ·rw [List.mem_singleton.1 hq'];omega
  ·have hset:nth (if nth N e.1=[]∨zgR (e.1::nth O e.2.1) (nth N e.1)=true then N.set e.1 (e.1::nth O e.2.1) else N) a=nth N a:=by
    split
    ·show (N.set e.1 _).getD a default=N.getD a default;rw [List.getD_eq_getElem?_getD,List.getElem?_set_ne hea,← List.getD_eq_getElem?_getD]
    ·rfl
   rw [hset];exact keep a ha fun h=>absurd h hea
theorem zib {P:List (Nat×Nat)} {y n k:Nat} {O:List (List Nat)} (hO:∀ v,v<n→nth O v=if wkB P y k v=true then lwV P y n k v else []):∀ (X Y:List EdC) (N:List (List Nat)),(∀ e∈X,e.1<n∧e.2.1<n)→N.length=n→zoy P y n k Y N→zoy P y n k (Y++X) (X.foldl (Uw O) N)
 | [], Y, N, _, _, h => by rw [List.append_nil]; exact h
 | e :: X, Y, N, hX, hN, h => by
  have:=zib hO X (Y++[e]) (Uw O N e) (fun q hq=>hX q (by simp [hq])) (by rw [zf7,hN]) (zm4 hO (hX e zc) hN h);rw [List.append_assoc] at this;exact this
theorem zoa {P:List (Nat×Nat)} {y n k:Nat} {O:List (List Nat)} (hO:∀ v,v<n→nth O v=if wkB P y k v=true then lwV P y n k v else []) (X:List EdC) (hX:∀ e∈X,e.1<n∧e.2.1<n):zoy P y n k X (Xt O n X):=by
 have:=zib hO X [] (List.replicate n []) hX zc fun a ha=>.inl ⟨by rw [nth_eq (by simpa using ha)];simp,fun e he=>by cases he⟩;exact this
theorem zkg {E:List EdC} {y n:Nat} (hE:∀ e∈E,e.1<n∧e.2.1<n) (hy:y<n):∀ k v,v<n→nth (ZC E y n k) v=if wkB (prC E) y k v=true then lwV (prC E) y n k v else []
 | 0,v,hv=>by
  show nth ((List.replicate n []).set y [y]) v=_;by_cases h:v=y
  ·subst h;rw [zL (by simpa using hv),if_pos (Xn.2 rfl)];rfl
  ·rw [if_neg (fun q=>h (Xn.1 q))];unfold nth;rw [List.getD_eq_getElem?_getD,List.getElem?_set_ne (fun e=>h e.symm)];simp [hv]
 | k+1,v,hv=>by
  have hP:∀ e∈prC E,e.2<n:=fun e he=>by
   obtain ⟨q,hq,rfl⟩:=List.mem_map.1 he;exact (hE q hq).2
  show nth (Xt (ZC E y n k) n E) v=_;rcases zoa (P:=prC E) (y:=y) (k:=k) (fun u hu=>zkg hE hy k u hu) E hE v hv with ⟨h1,h2⟩|⟨b,⟨e,he,he1,he2⟩,h2,h3,h4⟩
  ·rw [h1,if_neg];intro hw;obtain ⟨b,hb1,hb2⟩:=ZK.1 hw;obtain ⟨q,hq,hqe⟩:=List.mem_map.1 hb1;injection hqe with q1 q2
   have:=h2 q hq q1;rw [q2,hb2] at this;cases this
  ·have hvb:(v,b)∈prC E:=List.mem_map.2 ⟨e,he,by rw [he1,he2]⟩;have hw:wkB (prC E) y (k+1) v=true:=ZK.2 ⟨b,hvb,h2⟩;rw [if_pos hw,h3];obtain ⟨n1,n2,n3⟩:=zaj hP hw;have h5:=n3 b hvb h2;obtain ⟨q,hq,hqe⟩:=List.mem_map.1 n1;injection hqe with q1 q2
   have h6:=h4 q hq q1 (by rw [q2];exact n2);rw [q2] at h6;show _=v::lwV (prC E) y n k (nxV (prC E) y n k v);rw [show nxV (prC E) y n k v=b by omega]
def zhL (E:List EdC) (a b:Nat):EdC:=(E.find? fun e=>decide (e.1=a) && decide (e.2.1=b)).getD (0,0,0)
def zgM (E:List EdC):List Nat→List EdC
 | a :: b :: r => zhL E a b :: zgM E (b :: r)
 | _ => []
def zd5 (E:List EdC) (n x y:Nat):List EdC:=match (List.range n).find? fun k=>decide (nth (ZC E y n (k+1)) x≠[]) with
 | none => []
 | some k => zgM E (nth (ZC E y n (k+1)) x)
theorem zkX {E:List EdC} {P:List (Nat×Nat)} {lab:Nat→Nat→Nat} (h:∀ a b,(a,b)∈P→zhL E a b=(a,b,lab a b)):∀ X:List Nat,Chn P X→zgM E X=xA lab X
 | [], _ => rfl
 | [_], _ => rfl
 | a :: b :: r, hc => by
  obtain ⟨h1,h2⟩:=hc;unfold zgM xA;rw [h a b h1,zkX h (b::r) h2]
theorem zmV {E:List EdC} {P:List (Nat×Nat)} {lab:Nat→Nat→Nat} {n x y:Nat} (hE:∀ e∈E,e.1<n∧e.2.1<n) (hm:∀ e,e∈prC E↔e∈P) (hl:∀ a b,(a,b)∈P→zhL E a b=(a,b,lab a b)) (hx:x<n) (hy:y<n):zd5 E n x y=xA lab (ptV P y n x):=by
 have hP:∀ e∈P,e.2<n:=fun e he=>by
  obtain ⟨q,hq,rfl⟩:=List.mem_map.1 ((hm e).2 he);exact (hE q hq).2
 have hb:∀ k,nth (ZC E y n k) x=if wkB P y k x=true then lwV P y n k x else []:=fun k=>by
  rw [zkg hE hy k x hx,VS hm,zfx hm]
 have hd:(List.range n).find? (fun k=>decide (nth (ZC E y n (k+1)) x≠[]))=dsV P y n x:=by
  unfold dsV;congr 1;funext k;rw [hb];cases hw:wkB P y (k+1) x with
  | true => simp [lwV]
  | false => simp
 unfold zd5 ptV;rw [hd];cases hds:dsV P y n x with
 | none => rfl
 | some k =>
  obtain ⟨_,h1,_⟩:=zaf hds;dsimp only;rw [hb,if_pos h1];exact zkX hl _ (zk6 hP (k+1) x h1).1
def zoB (l:List OpV) (i j:Nat):Bool:=zJ l j && decide ((nth l j).p=(nth l i).p)
def Wy (l:List OpV) (i k:Nat):Nat→Bool
 | 0 => decide (i<k) && decide ((nth l i).p=(nth l k).p)
 | m+1 => Wy l i k m && !zoB l i (i+1+m)
def zoX (l:List OpV) (i k:Nat):Bool:=decide ((nth l k).k=0) && (decide ((nth l i).k=1) && (decide ((nth l k).key=(nth l i).key) && decide ((nth l k).res=(nth l i).arg)))
def znJ (l:List OpV) (i k:Nat):Bool:=zJ l i && (zJ l k && decide (i≠k))
def zku (l:List OpV) (i k:Nat):List EdC:=if znJ l i k=true then (if Wy l i k (k - (i+1))=true then [(i,k,1)] else if zoX l i k=true then [(i,k,2)] else []) else []
def xK (l:List OpV) (i m:Nat):List EdC:=(List.range m).flatMap fun k=>zku l i k
def WC (l:List OpV) (m:Nat):List EdC:=(List.range m).flatMap fun i=>xK l i l.length
def zaK (l:List OpV):List EdC:=WC l l.length
theorem UF (l:List OpV) (i m:Nat):xK l i (m+1)=xK l i m++zku l i m:=by unfold xK;rw [List.range_succ,List.flatMap_append];simp
theorem zaJ (l:List OpV) (m:Nat):WC l (m+1)=WC l m++xK l m l.length:=by unfold WC;rw [List.range_succ,List.flatMap_append];simp
theorem zmy (l:List OpV) (i k:Nat):(zku l i k).length≤1:=by unfold zku;split <;> (try split) <;> (try split) <;> simp
theorem WL (l:List OpV) (i:Nat):∀ m,(xK l i m).length≤m
 | 0 => Nat.le_refl _
 | m+1 => by rw [UF, List.length_append]; have := WL l i m; have := zmy l i m; omega
theorem ZL (l:List OpV):∀ m,(WC l m).length≤l.length * m
 | 0 => Nat.le_refl _
 | m+1 => by rw [zaJ, List.length_append, Nat.mul_succ]; have := ZL l m; have := WL l m l.length; omega
theorem Vk {l:List OpV} {e:EdC}:e∈zaK l↔e.1<l.length∧e.2.1<l.length∧e∈zku l e.1 e.2.1:=by
 unfold zaK WC xK;simp only [List.mem_flatMap,List.mem_range];have key:∀ a b,e∈zku l a b→e.1=a∧e.2.1=b:=fun a b h=>by
  unfold zku at h;split at h
  ·split at h
   ·rw [List.mem_singleton.1 h];exact ⟨rfl,rfl⟩
   ·split at h
    ·rw [List.mem_singleton.1 h];exact ⟨rfl,rfl⟩
    ·cases h
  ·cases h
 constructor
 ·rintro ⟨a,ha,b,hb,h⟩;obtain ⟨e1,e2⟩:=key a b h;rw [e1,e2];exact ⟨ha,hb,h⟩
 ·rintro ⟨h1,h2,h3⟩;exact ⟨_,h1,_,h2,h3⟩
theorem zfA {l:List OpV} {i k:Nat}:∀ m,Wy l i k m=true↔i<k∧(nth l i).p=(nth l k).p∧∀ j,i<j→j<i+1+m→zoB l i j=false
 | 0 => by
  unfold Wy;simp only [Bool.and_eq_true,decide_eq_true_eq];exact ⟨fun h=>⟨h.1,h.2,fun j h1 h2=>by omega⟩,fun h=>⟨h.1,h.2.1⟩⟩
 | m+1=>by
  unfold Wy;rw [Bool.and_eq_true,zfA m];constructor
  ·rintro ⟨⟨h1,h2,h3⟩,h4⟩;refine ⟨h1,h2,fun j j1 j2=>?_⟩;by_cases e:j=i+1+m
   ·rw [e];simpa using h4
   ·exact h3 j j1 za
  ·rintro ⟨h1,h2,h3⟩;exact ⟨⟨h1,h2,fun j j1 j2=>h3 j j1 za⟩,by rw [h3 (i+1+m) za za];rfl⟩
theorem zdU {l:List OpV} {i k:Nat} (hk:k∈zN l l.length):Wy l i k (k - (i+1))=true↔yi l (zN l l.length) i=some k:=by
 rw [zfA];have hs:=za9 l l.length;constructor
 ·rintro ⟨h1,h2,h3⟩;cases hf:yi l (zN l l.length) i with
  | none =>
   have:=List.find?_eq_none.1 hf k hk;simp [h1,h2] at this
  | some q=>
   obtain ⟨q1,q2,q3⟩:=YK hf;have hle:¬ k<q:=fun hlt=>by
    obtain ⟨_,ua,ub,e,hn⟩:=List.find?_eq_some_iff_append.1 hf;have hkm:=hk;rw [e] at hkm hs;rcases List.mem_append.1 hkm with h|h
    ·have:=hn k h;simp [h1,h2] at this
    ·rcases List.mem_cons.1 h with h|h
     ·omega
     ·have:=(List.pairwise_cons.1 (List.pairwise_append.1 hs).2.1).1 k h;omega
   have hge:¬ q<k:=fun hlt=>by
    have:=h3 q q2 za;unfold zoB at this;rw [(xD.1 q1).2,q3] at this;simp at this
   rw [show q=k by omega]
 ·intro hf;obtain ⟨q1,q2,q3⟩:=YK hf;refine ⟨q2,q3.symm,fun j j1 j2=>?_⟩;cases hb:zoB l i j with
  | false => rfl
  | true=>
   exfalso;unfold zoB at hb;simp only [Bool.and_eq_true,decide_eq_true_eq] at hb;have hjm:j∈zN l l.length:=xD.2 ⟨by have:=xw hk;omega,hb.1⟩;obtain ⟨_,ua,ub,e,hn⟩:=List.find?_eq_some_iff_append.1 hf;rw [e] at hjm hs;rcases List.mem_append.1 hjm with h|h
   ·have:=hn j h;simp [j1,hb.2] at this
   ·rcases List.mem_cons.1 h with h|h
    ·omega
    ·have:=(List.pairwise_cons.1 (List.pairwise_append.1 hs).2.1).1 j h;omega
theorem zlw {l:List OpV} (hd:Yn l) {i k:Nat} (hi:i<l.length) (hin:zJ l i=true):zoX l i k=true↔yU l k=some i:=by
 unfold zoX;simp only [Bool.and_eq_true,decide_eq_true_eq];constructor
 ·rintro ⟨h1,h2,h3,h4⟩;have ha:(nth l i).arg≠0:=by rcases hd i hi with h|⟨_,h,_⟩;omega;exact h
  unfold yU;rw [if_neg (by rintro (h|h);exact h h1;exact ha (by rw [← h4];exact h))];exact zmp hd hi (Yy.2 ⟨h2,h3.symm,h4.symm⟩) hin
 ·intro h;obtain ⟨_,h1,_,h3,_⟩:=zag h;rw [Yy] at h3;exact ⟨h1,h3.1,h3.2.1.symm,h3.2.2.symm⟩
theorem zmF {l:List OpV} {k i:Nat} (h:yU l k=some i):i≠k:=fun e=>by
 obtain ⟨_,h1,_,h3,_⟩:=zag h;rw [Yy] at h3;rw [e] at h3;omega
theorem zdE {l:List OpV} (hd:Yn l) {a b:Nat} (ha:a<l.length) (hb:b<l.length):zku l a b=if (a,b)∈edC l then [(a,b,ziY l a b)] else []:=by
 unfold zku;by_cases he:(a,b)∈edC l
 ·obtain ⟨h1,h2,h3⟩:=Ub.1 he;have hne:a≠b:=by
   rcases h3 with h3|h3
   ·have:=(YK h3).2.1;omega
   ·exact zmF h3
  rw [if_pos he,if_pos (by unfold znJ;rw [(xD.1 h1).2,(xD.1 h2).2];simpa using hne),znO he];by_cases hn:yi l (zN l l.length) a=some b
  ·rw [if_pos ((zdU h2).2 hn),if_pos hn]
  ·rw [if_neg (fun q=>hn ((zdU h2).1 q)),if_neg hn,if_pos ((zlw hd ha (xD.1 h1).2).2 (h3.resolve_left hn))]
 ·rw [if_neg he];split
  ·rename_i hbo;unfold znJ at hbo;simp only [Bool.and_eq_true,decide_eq_true_eq] at hbo;have h1:a∈zN l l.length:=xD.2 ⟨ha,hbo.1⟩;have h2:b∈zN l l.length:=xD.2 ⟨hb,hbo.2.1⟩;rw [if_neg (fun q=>he (Ub.2 ⟨h1,h2,.inl ((zdU h2).1 q)⟩)),if_neg (fun q=>he (Ub.2 ⟨h1,h2,.inr ((zlw hd ha hbo.1).1 q)⟩))]
  ·rfl
theorem zgA (l:List OpV):∀ e∈zaK l,e.1<l.length∧e.2.1<l.length:=fun e he=>by
 obtain ⟨h1,h2,_⟩:=Vk.1 he;exact ⟨h1,h2⟩
theorem zhZ {l:List OpV} (hd:Yn l) (e:Nat×Nat):e∈prC (zaK l)↔e∈edC l:=by
 obtain ⟨a,b⟩:=e;unfold prC;rw [List.mem_map];constructor
 ·rintro ⟨e,he,hq⟩;injection hq with q1 q2
  obtain ⟨h1,h2,h3⟩:=Vk.1 he;rw [zdE hd h1 h2] at h3;split at h3
  ·rename_i h;rw [← q1,← q2];exact h
  ·cases h3
 ·intro h;obtain ⟨h1,h2⟩:=zhw l _ h;refine ⟨(a,b,ziY l a b),Vk.2 ⟨h1,h2,?_⟩,rfl⟩;rw [zdE hd h1 h2,if_pos h];simp
theorem zfn {l:List OpV} (hd:Yn l) (a b:Nat) (h:(a,b)∈edC l):zhL (zaK l) a b=(a,b,ziY l a b):=by
 obtain ⟨h1,h2⟩:=zhw l _ h;unfold zhL;cases hf:(zaK l).find? fun e=>decide (e.1=a) && decide (e.2.1=b) with
 | none =>
  have:=List.find?_eq_none.1 hf (a,b,ziY l a b) (Vk.2 ⟨h1,h2,by rw [zdE hd h1 h2,if_pos h];simp⟩);simp at this
 | some e =>
  have h3:=List.find?_some hf;simp only [Bool.and_eq_true,decide_eq_true_eq] at h3;obtain ⟨h4,h5,h6⟩:=Vk.1 (List.mem_of_find?_eq_some hf);rw [h3.1,h3.2,zdE hd h1 h2,if_pos h] at h6;rw [List.mem_singleton.1 h6];rfl
theorem zc0 {l:List OpV} (hd:Yn l) {x y:Nat} (hx:x<l.length) (hy:y<l.length):zd5 (zaK l) l.length x y=Zs l x y:=
 zmV (zgA l) (zhZ hd) (zfn hd) hx hy
end Go.Proofs.Ytmnmakhpjgjdaaa
