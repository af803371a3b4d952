/-
  Some texts as one: FmCsH, FmCs1, FmCs2, WfGen, ConsPlain, CauGen, CauImp, LawCausalImplies.
-/
import Derived.Test.YtmnmakhpjgjdaaaZD
import Derived.Test.YtmnmakhpjgjdaaaZF
import Derived.Test.YtmnmakhpjgjdaaaZFmCauE
import Derived.Test.YtmnmakhpjgjdaaaZR
import Derived.Test.YtmnmakhpjgjdaaaZFmW
import Derived.Test.YtmnmakhpjgjdaaaZOrderPlain
/-
 The generated histories of layer 20 one by one,at plain values.
-/
namespace Go.Proofs.Ytmnmakhpjgjdaaa
set_option linter.unusedVariables false
open Go.RowKit

theorem zeQ (l:List Int) (most:Int) (hl:∀ x∈l,I64 x) (hlen:l.length≤9223372036854775807) (hm:I64 most):yn Try.prog 10 [.list 1 (l.map zy),.int .i64 most] (.ow 43 8) (.list 8 ((yp l most).map OpV.fv)) where
 go:=by kernel_rfl
 hand:=rfl
 calls w I vs hI hv:=by
  obtain ⟨_,_,rfl,e1,e2⟩:=hv.inv2
  obtain ⟨A,c,rfl,_,hs⟩:=zd6.of e1 hI
  rw [e2.int_inv]
  refine (zcs A c l most w hs hl hlen hm).mono ?_
  rintro e w' ⟨A1,c1,rfl,ho,hb⟩
  exact ⟨_,rfl,hb,opT.res ho⟩
/-! ### what the registers are -/
theorem zal (l:List Int) {most:Int} (h0:0≤most) (h1:most≤20):Zk (yp l most)=0∧(∀ o∈yp l most,zaQ o)∧(∀ o∈yp l most,zkc o)∧((yp l most).length:Int)≤most:=by
 have hg:=Uw l most
 have hl:=zbk l most
 have hi:=zet l (most:=most) h0
 have inv:=zak (YU l) hg hl _ (Nat.le_refl _)
 exact ⟨(zfi hg hl inv.ok inv.sm).1,(zfi hg hl inv.ok inv.sm).2,inv.sm,by have:=inv.ok.len;unfold yp;omega⟩
end Go.Proofs.Ytmnmakhpjgjdaaa
/-
 Verdicts of layer 23 in plain Lean;simproofref23.SameVerdict,simprooflaw23.same.
-/
namespace Go.Proofs.Ytmnmakhpjgjdaaa
set_option linter.unusedVariables false
open Go.RowKit

structure zi2 where
 check:Int
 cls:Int
 arg:Int
 ord:List Int
 ed:List EdC
 deriving DecidableEq,Inhabited
def zi2.fv (v:zi2):List FV:=[.int .i64 v.check,.int .i64 v.cls,.int .i64 v.arg,.list 1 (v.ord.map zy),.list 3 (v.ed.map EdC.fv)]
def zee (L:List Nat):List Int:=L.map fun i:Nat=>(i:Int)
def zlE (l:List OpV):zi2:=match zaH l with
 | some i => ⟨5, 2, (nth l i).key, zee [i], []⟩
 | none=>if Vv l≠[] then ⟨5,6,0,[],WY l (Vv l) (Vv l).length⟩ else match VT l with
  | some (w1, w2, i) => ⟨5, 7, (nth l w2).key, zee [w1, w2, i], YL l w1 w2 ++ YL l w2 i⟩
  | none => match VP l with
   | some (w, i) => ⟨5, 8, (nth l w).key, zee [w, i], YL l w i⟩
   | none => ⟨5, 0, 0, zlQ l, []⟩
def zj0 (l:List OpV):zi2:=if YO l≠0 then ⟨0,0,0,[],[]⟩ else zlE l
def zlF (l:List OpV):zi2:=match zeV l with
 | some (r, k, i) => ⟨6, 9+r, (nth l i).key, zee [k, i], []⟩
 | none => ⟨6, 0, 0, [], []⟩
def zkL (l:List OpV):zi2:=if YO l≠0 then ⟨0,0,0,[],[]⟩ else zlF l
theorem zh6 (sz:Nat) (es:List (List FV)):FV.le (zku sz es) (.list sz es):=by
 cases es with
 | nil => exact .nil sz
 | cons e es => exact .refl _
theorem zjz (L:List Nat):L.map yH=(zee L).map zy:=by unfold zee;rw [List.map_map];rfl
theorem zlC {c k a:Int} {f g:FV} {o:List Int} {e:List EdC} (h1:FV.le f (.list 1 (o.map zy))) (h2:FV.le g (.list 3 (e.map EdC.fv))):FV.le (.agg [.int .i64 c,.int .i64 k,.int .i64 a,f,g]) (.agg (zi2.fv ⟨c,k,a,o,e⟩)):=
 .agg (.cons (.refl _) (.cons (.refl _) (.cons (.refl _) (.cons h1 (.cons h2 .nil)))))
theorem zaK (c k a:Int) (o:List Nat) (e:List EdC):FV.le (.agg (VH c k a o e)) (.agg (zi2.fv ⟨c,k,a,zee o,e⟩)):=by
 unfold VH
 refine zlC ?_ (zh6 3 _)
 rw [zjz];exact zh6 1 _
theorem zhl (l:List OpV):FV.le (.agg (Wl l)) (.agg (zlE l).fv):=by
 unfold Wl zlE
 cases zaH l with
 | some i => exact zaK 5 2 _ [i] []
 | none=>
  dsimp only
  by_cases h:Vv l≠[]
  ·rw [if_pos h,if_pos h];exact zlC (.nil 1) (.refl _)
  ·rw [if_neg h,if_neg h]
   cases VT l with
   | some x =>
    obtain ⟨w1,w2,i⟩:=x
    exact zaK 5 7 _ [w1,w2,i] _
   | none=>
    dsimp only
    cases VP l with
    | some x =>
     obtain ⟨w,i⟩:=x
     exact zaK 5 8 _ [w,i] _
    | none => exact zlC (.refl _) (.nil 3)
theorem ziR (l:List OpV):FV.le (.agg (zbJ l)) (.agg (zlF l).fv):=by
 unfold zbJ zlF
 cases zeV l with
 | some x =>
  obtain ⟨r,k,i⟩:=x
  exact zaK 6 (9+r) _ [k,i] []
 | none => exact zaK 6 0 0 [] []
theorem zkk (l:List OpV):FV.le (zkj l) (.tup [.agg (zj0 l).fv,.int .i64 (YO l)]):=by
 unfold zkj zj0
 by_cases h:YO l≠0
 ·rw [if_pos h,if_pos h]
  exact .tup (.cons (zlC (.nil 1) (.nil 3)) (.cons (.refl _) .nil))
 ·rw [if_neg h,if_neg h,show YO l=0 by simpa using h]
  exact .tup (.cons (zhl l) (.cons (.refl _) .nil))
theorem zkK (l:List OpV):FV.le (zkJ l) (.tup [.agg (zkL l).fv,.int .i64 (YO l)]):=by
 unfold zkJ zkL
 by_cases h:YO l≠0
 ·rw [if_pos h,if_pos h]
  exact .tup (.cons (zlC (.nil 1) (.nil 3)) (.cons (.refl _) .nil))
 ·rw [if_neg h,if_neg h,show YO l=0 by simpa using h]
  exact .tup (.cons (ziR l) (.cons (.refl _) .nil))
theorem zab (l:List OpV) (hl:l.length≤14) (hin:∀ o∈l,zaQ o):yn Try.prog 18 [.list 8 (l.map OpV.fv)] .sh (.tup [.agg (zj0 l).fv,.int .i64 (YO l)]):=yn.le (zed l hl hin) (zkk l) rfl
theorem WI (l:List OpV) (hl:l.length≤1000) (hin:∀ o∈l,zaQ o):yn Try.prog 19 [.list 8 (l.map OpV.fv)] .sh (.tup [.agg (zkL l).fv,.int .i64 (YO l)]):=yn.le (zbX l hl hin) (zkK l) rfl
theorem zjk (x:EdC):zi6 Try.prog 46 x.fv x.fv true:=by
 refine ⟨by kernel_rfl,fun w=>?_⟩
 obtain ⟨a1,a2,a3⟩:=x
 show (Op.equalIn 10000 46 (.agg #[.int .i64 (a1:Int),.int .i64 (a2:Int),.int .i64 (a3:Int)]) (.agg #[.int .i64 (a1:Int),.int .i64 (a2:Int),.int .i64 (a3:Int)])).run Try.prog w=_
 have hS:Try.prog.underlying 46=some (.struct (Try.prog.fieldsOf 46)):=by kernel_rfl
 have hp:Try.prog.stoodInHeld 46=false:=by kernel_rfl
 rw [show (10000:Nat)=9999+1 from rfl,run_equalIn_agg w 9999 46 _ _ hS hp]
 simp only [Program.fieldsOf,Try.underlying46]
 simp [go_sem]
set_option maxHeartbeats 4000000 in
theorem zaB (V:zi2) (h1:V.ord.length≤1000) (h2:V.ed.length≤1000):yn Try.prog 22 [.agg V.fv,.agg V.fv] .fr (.bool true):=by
 have hs1:=zcy V.ord V.ord (by omega) (by omega)
 rw [decide_eq_true rfl] at hs1
 obtain ⟨ck,cls,arg,O,E⟩:=V
 dsimp only at h1 h2 hs1
 obtain ⟨n,hn⟩:∃ n,E.length=n:=⟨_,rfl⟩
 obtain ⟨X,hX⟩:∃ X,O.map zy=X:=⟨_,rfl⟩
 show yn _ _ [.agg [.int .i64 ck,.int .i64 cls,.int .i64 arg,.list 1 (O.map zy),.list 3 (E.map EdC.fv)],.agg [.int .i64 ck,.int .i64 cls,.int .i64 arg,.list 1 (O.map zy),.list 3 (E.map EdC.fv)]] _ _
 rw [hX] at hs1 ⊢
 refine yn.of_body (c:=(ZN Try.prog zH zB 67)) ⟨Try.func22,rfl,Try.ntmps22,by kernel_rfl⟩ (by simp [FV.hand]) (by exact Nat.le_of_ble_eq_true rfl) rfl ?_
 change FW _ _ _ ⟨[(0,.agg [.int .i64 ck,.int .i64 cls,.int .i64 arg,.list 1 X,.list 3 (E.map EdC.fv)]),(1,.agg [.int .i64 ck,.int .i64 cls,.int .i64 arg,.list 1 X,.list 3 (E.map EdC.fv)])],[]⟩
 (repeat (first|refine FW.seq ?_|refine FW.region ?_|refine zc.nil ?_|refine zkC rfl rfl rfl rfl rfl rfl rfl ?_|refine zb rfl rfl rfl ?_|refine zj rfl rfl rfl rfl rfl rfl (by decide) rfl rfl ?_|refine zq rfl rfl rfl rfl rfl (by simp;done) rfl rfl rfl rfl rfl ?_|refine xw rfl rfl rfl rfl ?_|refine za rfl rfl rfl ?_))
 refine ye (fun h=>absurd rfl (of_decide_eq_true h)) (fun h=>?_)
 (repeat (first|refine za rfl rfl rfl ?_|refine zL rfl rfl rfl rfl ?_|refine zj rfl rfl rfl rfl rfl rfl (by decide) rfl ⟨_,_,rfl,rfl,rfl⟩ ?_|refine zq rfl rfl rfl rfl rfl (by simp;done) rfl rfl rfl rfl ⟨_,_,rfl,rfl,rfl⟩ ?_|refine xw rfl rfl rfl ⟨_,_,rfl,rfl,rfl⟩ ?_))
 refine ye (fun h=>absurd rfl (of_decide_eq_true h)) (fun h=>?_)
 (repeat (first|refine za rfl rfl rfl ?_|refine zL rfl rfl rfl rfl ?_|refine zj rfl rfl rfl rfl rfl rfl (by decide) rfl ⟨_,_,rfl,rfl,rfl⟩ ?_|refine zq rfl rfl rfl rfl rfl (by simp;done) rfl rfl rfl rfl ⟨_,_,rfl,rfl,rfl⟩ ?_|refine xw rfl rfl rfl ⟨_,_,rfl,rfl,rfl⟩ ?_))
 refine ye (fun h=>absurd rfl (of_decide_eq_true h)) (fun h=>?_)
 (repeat (first|refine zj rfl rfl rfl rfl rfl rfl (by decide) rfl ⟨_,_,rfl,rfl,rfl⟩ ?_|refine zq rfl rfl rfl rfl rfl (by simp;done) rfl rfl rfl rfl ⟨_,_,rfl,rfl,rfl⟩ ?_))
 refine yK hs1 (by repeat (first|exact zI.nil|refine zI.cons (by exact Zq.plain rfl rfl) ?_)) rfl ⟨_,_,rfl,rfl,rfl⟩ ?_
 (repeat (first|refine zc.nil ?_|refine za rfl rfl rfl ?_|refine zL rfl rfl rfl rfl ?_|refine zj rfl rfl rfl rfl rfl rfl (by decide) rfl ⟨_,_,rfl,rfl,rfl⟩ ?_|refine zq rfl rfl rfl rfl rfl (by simp;done) rfl rfl rfl rfl ⟨_,_,rfl,rfl,rfl⟩ ?_|refine xw rfl rfl rfl ⟨_,_,rfl,rfl,rfl⟩ ?_|refine Xe rfl rfl ⟨_,_,rfl,rfl,rfl⟩ ?_|refine zt rfl rfl (by first|exact List.length_map _|rfl|(simp;done)) rfl ⟨_,_,rfl,rfl,rfl⟩ ?_))
 refine FW.cond rfl (fun h=>absurd rfl (of_decide_eq_true h)) (fun h=>?_)
 clear h
 (repeat (first|refine FW.seq ?_|refine FW.region ?_|refine FW.block ?_|refine FW.skip ?_|refine zc.nil ?_|refine zb rfl rfl rfl ?_))
 refine FW.loop (fun j:Nat=>⟨[(2,.ptr 102 0 0 0),(3,.ptr 103 0 0 0),(5,.int .i64 j)],[(102,⟨0,.own,36,5,[[.int .i64 ck,.int .i64 cls,.int .i64 arg,.list 1 X,.list 3 (E.map EdC.fv)]]⟩),(103,⟨0,.own,36,5,[[.int .i64 ck,.int .i64 cls,.int .i64 arg,.list 1 X,.list 3 (E.map EdC.fv)]]⟩)]⟩) (fun j=>j≤n) (fun j=>n - j) 0 (Nat.zero_le _) (FLe.cv [⟨102,some 2,0+1,⟨0,.own,36,5,[[.int .i64 ck,.int .i64 cls,.int .i64 arg,.list 1 X,.list 3 (E.map EdC.fv)]]⟩⟩,⟨103,some 3,0+1,⟨0,.own,36,5,[[.int .i64 ck,.int .i64 cls,.int .i64 arg,.list 1 X,.list 3 (E.map EdC.fv)]]⟩⟩] (by repeat (first|exact .nil|refine .old rfl (by decide) rfl ?_)) (by repeat (first|exact .nil|refine .cons (.plain rfl rfl rfl) ?_|refine .cons (.ptr rfl (.head _) rfl) ?_|refine .cons (.ptr rfl (.tail _ (.head _)) rfl) ?_))) ?_
 intro j hj
 (repeat (first|refine FW.seq ?_|refine FW.region ?_|refine zc.nil ?_|refine zj rfl rfl rfl rfl rfl rfl (by decide) rfl rfl ?_|refine zq rfl rfl rfl rfl rfl (by simp;done) rfl rfl rfl rfl rfl ?_|refine za rfl rfl rfl ?_|refine zt rfl rfl (by first|exact List.length_map _|rfl|(simp;done)) rfl rfl ?_|refine zY rfl rfl rfl rfl ?_))
 refine FW.cond rfl (fun h=>?_) (fun h=>?_)
 ·have hlt:j<E.length:=by simpa using h
  (repeat (first|refine FW.seq ?_|refine FW.block ?_|refine FW.skip ?_|refine FW.draw ?_|refine xv rfl rfl rfl rfl rfl rfl (by decide) rfl rfl ?_|refine yG rfl rfl rfl rfl rfl (by first|(simp;omega)|(simp;done)) (by first|exact zg (by omega)|rfl) rfl rfl rfl rfl ?_|refine ziq rfl rfl rfl (by decide) (by first|(simp;omega)|(simp;done)) (by first|exact zg (by omega)|rfl) rfl rfl rfl ?_|refine zR rfl rfl rfl ?_|refine ZG rfl rfl rfl rfl rfl rfl (by first|(simp;omega)|(simp;done)) rfl rfl ?_))
  refine zlq rfl rfl rfl rfl (zjk (nth E j)) rfl rfl ?_
  (repeat (first|refine zF.nil ?_))
  refine ⟨by kernel_rfl,?_⟩
  (repeat (first|refine FW.region ?_|refine FW.skip ?_|refine FW.condF rfl ?_|refine zc.nil ?_|refine zb rfl rfl rfl ?_|refine za rfl rfl rfl ?_|refine zu rfl rfl (by omega) rfl rfl ?_))
  exact ⟨j+1,by omega,by omega,(FLe.cv [⟨102,some 102,0,⟨0,.own,36,5,[[.int .i64 ck,.int .i64 cls,.int .i64 arg,.list 1 X,.list 3 (E.map EdC.fv)]]⟩⟩,⟨103,some 103,0,⟨0,.own,36,5,[[.int .i64 ck,.int .i64 cls,.int .i64 arg,.list 1 X,.list 3 (E.map EdC.fv)]]⟩⟩] (by repeat (first|exact .nil|refine .old rfl (by decide) rfl ?_)) (by repeat (first|exact .nil|refine .cons (.plain rfl rfl rfl) ?_|refine .cons (.ptr rfl (.head _) rfl) ?_|refine .cons (.ptr rfl (.tail _ (.head _)) rfl) ?_)))⟩
 ·(repeat (first|refine FW.seq ?_|refine FW.region ?_|refine FW.exit ?_|refine zc.nil ?_|refine zb rfl rfl rfl ?_))
  exact FW.ret ⟨.inl rfl,yb rfl rfl rfl rfl⟩
end Go.Proofs.Ytmnmakhpjgjdaaa
/-
 simprooflaw23.lives.
-/
namespace Go.Proofs.Ytmnmakhpjgjdaaa
set_option linter.unusedVariables false
open Go.RowKit

def zks:List OpV:=[⟨0,1,3,1,0,0,1,true⟩,⟨0,0,3,0,0,2,3,true⟩]
theorem zlM:zj0 zks=⟨5,8,3,[0,1],[(0,1,1)]⟩:=by decide +kernel
theorem zlL:zkL zks=⟨6,9,3,[0,1],[]⟩:=by decide +kernel
theorem zlb:YO zks=0:=by decide +kernel
theorem zh4:∀ o∈zks,zaQ o:=fun o ho=>by simp only [zks,List.mem_cons,List.not_mem_nil,or_false] at ho;rcases ho with rfl|rfl <;> (unfold zaQ I64;decide)
set_option maxHeartbeats 4000000 in
theorem zdu:yn Try.prog 15 [] .fr (.bool true):=by
 have hA:=zab zks (by decide) zh4
 have hB:=WI zks (by decide) zh4
 rw [zlM,zlb] at hA
 rw [zlL,zlb] at hB
 change yn _ _ [.list 8 [OpV.fv ⟨0,1,3,1,0,0,1,true⟩,OpV.fv ⟨0,0,3,0,0,2,3,true⟩]] _ (.tup [.agg [.int .i64 5,.int .i64 8,.int .i64 3,.list 1 ([0,1].map zy),.list 3 [[.int .i64 0,.int .i64 1,.int .i64 1]]],.int .i64 0]) at hA
 change yn _ _ [.list 8 [OpV.fv ⟨0,1,3,1,0,0,1,true⟩,OpV.fv ⟨0,0,3,0,0,2,3,true⟩]] _ (.tup [.agg [.int .i64 6,.int .i64 9,.int .i64 3,.list 1 ([0,1].map zy),.list 3 []],.int .i64 0]) at hB
 have s1:=zaB ⟨5,8,3,[0,1],[(0,1,1)]⟩ (by decide) (by decide)
 have s2:=zaB ⟨6,9,3,[0,1],[]⟩ (by decide) (by decide)
 change yn _ _ [.agg [.int .i64 5,.int .i64 8,.int .i64 3,.list 1 ([0,1].map zy),.list 3 [[.int .i64 0,.int .i64 1,.int .i64 1]]],.agg [.int .i64 5,.int .i64 8,.int .i64 3,.list 1 ([0,1].map zy),.list 3 [[.int .i64 0,.int .i64 1,.int .i64 1]]]] _ _ at s1
 change yn _ _ [.agg [.int .i64 6,.int .i64 9,.int .i64 3,.list 1 ([0,1].map zy),.list 3 []],.agg [.int .i64 6,.int .i64 9,.int .i64 3,.list 1 ([0,1].map zy),.list 3 []]] _ _ at s2
 refine yn.of_body (c:=(ZN Try.prog zH zB 45)) ⟨Try.func15,rfl,Try.ntmps15,by kernel_rfl⟩ (by simp [FV.hand]) (by exact Nat.le_of_ble_eq_true rfl) rfl ?_
 change FW _ _ _ ⟨[],[]⟩
 (repeat (first|refine FW.seq ?_|refine FW.region ?_|refine zc.nil ?_|refine zb rfl rfl rfl ?_|refine zS rfl rfl rfl rfl ?_|refine zU.nil ?_|refine zU.one rfl rfl rfl rfl rfl ?_))
 refine WK (es:=[OpV.fv ⟨0,1,3,1,0,0,1,true⟩,OpV.fv ⟨0,0,3,0,0,2,3,true⟩]) rfl rfl rfl (by refine xK.agg rfl rfl rfl ?_;refine xK.agg rfl rfl rfl ?_;exact xK.nil) rfl rfl rfl rfl rfl rfl ?_
 refine zc.le ?_ (FLe.share 10 rfl rfl (by rfl))
 (repeat (first|refine FW.seq ?_|refine FW.region ?_|refine zc.nil ?_|refine zb rfl rfl rfl ?_|refine za rfl rfl rfl ?_))
 refine xE hA (by repeat (first|exact zI.nil|refine zI.cons (by exact Zq.plain rfl rfl) ?_)) rfl rfl ?_
 (repeat (first|refine FW.seq ?_|refine FW.region ?_|refine zc.nil ?_|refine zb rfl rfl rfl ?_|refine za rfl rfl rfl ?_|refine zw rfl rfl rfl rfl rfl ?_|refine zD rfl rfl rfl rfl rfl rfl rfl ?_|refine zi rfl rfl rfl rfl rfl rfl rfl rfl rfl ?_))
 refine xE hB (by repeat (first|exact zI.nil|refine zI.cons (by exact Zq.plain rfl rfl) ?_)) rfl rfl ?_
 (repeat (first|refine FW.seq ?_|refine FW.region ?_|refine zc.nil ?_|refine zb rfl rfl rfl ?_|refine za rfl rfl rfl ?_|refine zw rfl rfl rfl rfl rfl ?_|refine zD rfl rfl rfl rfl rfl rfl rfl ?_|refine zi rfl rfl rfl rfl rfl rfl rfl rfl rfl ?_))
 refine WK (es:=[0,1].map zy) rfl rfl rfl (by refine xK.int rfl rfl ?_;refine xK.int rfl rfl ?_;exact xK.nil) rfl rfl rfl rfl rfl rfl ?_
 refine zc.le ?_ (FLe.share 21 rfl rfl rfl)
 refine zS rfl rfl rfl rfl ?_
 refine zU.one rfl rfl rfl rfl rfl ?_
 refine zU.one rfl rfl rfl rfl rfl ?_
 refine zU.one rfl rfl rfl rfl rfl ?_
 refine zU.nil ?_
 refine WK (es:=[[.int .i64 0,.int .i64 1,.int .i64 1]]) rfl rfl rfl (by refine xK.agg rfl rfl rfl ?_;exact xK.nil) rfl rfl rfl rfl rfl rfl ?_
 refine zc.le ?_ (FLe.share 23 rfl rfl rfl)
 (repeat (first|refine FW.seq ?_|refine FW.region ?_|refine zc.nil ?_|refine zS rfl rfl rfl rfl ?_|refine zD rfl rfl rfl rfl rfl rfl rfl ?_|refine zi rfl rfl rfl rfl rfl rfl rfl rfl rfl ?_|refine zU.nil ?_|refine zU.one rfl rfl rfl rfl rfl ?_|refine zU.agg rfl rfl rfl rfl (List.cons_ne_nil _ _) rfl ?_))
 refine WK (es:=[0,1].map zy) rfl rfl rfl (by refine xK.int rfl rfl ?_;refine xK.int rfl rfl ?_;exact xK.nil) rfl rfl rfl rfl rfl rfl ?_
 refine zc.le ?_ (FLe.share 26 rfl rfl rfl)
 (repeat (first|refine FW.seq ?_|refine FW.region ?_|refine zc.nil ?_|refine zS rfl rfl rfl rfl ?_|refine za rfl rfl rfl ?_|refine zD rfl rfl rfl rfl rfl rfl rfl ?_|refine zi rfl rfl rfl rfl rfl rfl rfl rfl rfl ?_|refine yT rfl rfl rfl rfl ?_|refine zM rfl rfl rfl rfl ?_|refine za rfl rfl ⟨_,_,rfl,rfl,rfl⟩ ?_|refine yT rfl rfl rfl ⟨_,_,rfl,rfl,rfl⟩ ?_|refine yU rfl rfl rfl (by decide) rfl rfl (by simp;done) rfl rfl rfl ⟨_,_,rfl,rfl,rfl⟩ ?_|refine zU.nil ?_|refine zU.one rfl rfl rfl rfl rfl ?_|refine zU.agg rfl rfl rfl rfl (List.cons_ne_nil _ _) rfl ?_))
 refine yK s1 (by repeat (first|exact zI.nil|refine zI.cons (by exact Zq.plain rfl rfl) ?_)) rfl ⟨_,_,rfl,rfl,rfl⟩ ?_
 (repeat (first|refine za rfl rfl rfl ?_|refine zM rfl rfl rfl rfl ?_|refine yU rfl rfl rfl (by decide) rfl rfl (by simp;done) rfl rfl rfl ⟨_,_,rfl,rfl,rfl⟩ ?_))
 refine yK s2 (by repeat (first|exact zI.nil|refine zI.cons (by first|exact Zq.plain rfl rfl|exact Zq.sub rfl rfl (by repeat (first|exact FV.le.refl _|exact FV.le.nil _|refine FV.le.agg ?_|refine FV.le.tup ?_|exact LeL.nil|refine LeL.cons ?_ ?_|exact FV.le.undef _))) ?_)) rfl ⟨_,_,rfl,rfl,rfl⟩ ?_
 (repeat (first|refine zc.nil ?_|refine zb rfl rfl rfl ?_|refine zM rfl rfl rfl rfl ?_))
 exact FW.ret ⟨.inl rfl,yb rfl rfl rfl rfl⟩
end Go.Proofs.Ytmnmakhpjgjdaaa
/-
 Generated histories and checked ones,by pairs.
-/
namespace Go.Proofs.Ytmnmakhpjgjdaaa
set_option linter.unusedVariables false

end Go.Proofs.Ytmnmakhpjgjdaaa
/-
 Consistent histories in plain Lean.
-/
namespace Go.Proofs.Ytmnmakhpjgjdaaa
set_option linter.unusedVariables false
open Go.RowKit

end Go.Proofs.Ytmnmakhpjgjdaaa
/-
 The generated histories of registers: their domain,and the consistent ones,in plain Lean.
-/
namespace Go.Proofs.Ytmnmakhpjgjdaaa
set_option linter.unusedVariables false
open Go.RowKit

/-! ### histories by pairs -/
/-! ### the domain -/
structure zkb (s:xW):Prop where
 kd:∀ j,j<s.out.length→(nth s.out j).k=0∨((nth s.out j).k=1∧1≤(nth s.out j).arg∧(nth s.out j).arg≤s.ws.length)
 up:∀ i j,i<j→j<s.out.length→(nth s.out i).k=1→(nth s.out j).k=1→(nth s.out i).arg<(nth s.out j).arg
theorem zkb.add {s:xW} (h:zkb s) {o:OpV} {ws:List Int} {opn lat:List Int} (hw:s.ws.length≤ws.length) (hk:o.k=0∨(o.k=1∧o.arg=(s.ws.length:Int)+1∧s.ws.length+1≤ws.length)):zkb ⟨s.out++[o],ws,opn,lat⟩:=by
 have old:∀ i,i<s.out.length→nth (s.out++[o]) i=nth s.out i:=fun i hi=>yo hi
 have new:nth (s.out++[o]) s.out.length=o:=yI
 refine ⟨fun j hj=>?_,fun i j hij hj h1 h2=>?_⟩
 ·dsimp only at hj ⊢
  rw [List.length_append,List.length_singleton] at hj
  by_cases e:j<s.out.length
  ·rw [old j e];have:=h.kd j e;omega
  ·obtain rfl:j=s.out.length:=by omega
   rw [new];omega
 ·dsimp only at hj h1 h2 ⊢
  rw [List.length_append,List.length_singleton] at hj
  rw [old i (by omega)] at h1 ⊢
  have hi:=h.kd i (by omega)
  by_cases e:j<s.out.length
  ·rw [old j e] at h2 ⊢;exact h.up i j hij e h1 h2
  ·obtain rfl:j=s.out.length:=by omega
   rw [new] at h2 ⊢;omega
theorem zkb.put {s:xW} (h:zkb s) {j:Nat} {o:OpV} (h1:o.k=(nth s.out j).k) (h2:o.arg=(nth s.out j).arg):zkb { s with out:=s.out.set j o }:=by
 have key:∀ i,i<s.out.length→(nth (s.out.set j o) i).k=(nth s.out i).k∧(nth (s.out.set j o) i).arg=(nth s.out i).arg:=fun i hi=>by
  by_cases e:j=i
  ·subst e;rw [zG hi];exact ⟨h1,h2⟩
  ·rw [zK e];exact ⟨rfl,rfl⟩
 refine ⟨fun i hi=>?_,fun a b hab hb h3 h4=>?_⟩
 ·dsimp only at hi ⊢
  rw [List.length_set] at hi
  rw [(key i hi).1,(key i hi).2];exact h.kd i hi
 ·dsimp only at hb h3 h4 ⊢
  rw [List.length_set] at hb
  rw [(key a (by omega)).1] at h3
  rw [(key b hb).1] at h4
  rw [(key a (by omega)).2,(key b hb).2]
  exact h.up a b hab hb h3 h4
theorem zdL (ev:List EvV) (fresh:Bool):∀ k,zkb (xR ev fresh k)
 | 0 => ⟨fun j hj => absurd hj (Nat.not_lt_zero _), fun i j _ hj => absurd hj (Nat.not_lt_zero _)⟩
 | k+1=>by
  have ih:=zdL ev fresh k
  have hs:xR ev fresh (k+1)=Xb ev fresh k (xR ev fresh k):=rfl
  rw [hs]
  generalize xR ev fresh k=s at ih
  unfold Xb
  split
  ·unfold zaj
   split
   ·exact ih.add (by simp) (.inr ⟨rfl,rfl,by simp⟩)
   ·exact ih.add (Nat.le_refl _) (.inl rfl)
  ·unfold zfy
   exact ih.put rfl rfl
theorem zfA (l:List Int) (most:Int):Ya (yp l most):=fun i hi=>by
 have h:=zdL (xf l most) (YU l) (xf l most).length
 change i<(xR (xf l most) (YU l) (xf l most).length).out.length at hi
 unfold okW
 show _∨_
 unfold yp
 generalize xR (xf l most) (YU l) (xf l most).length=s at *
 rcases h.kd i hi with h1|h1
 ·exact .inl h1
 ·refine .inr ⟨h1.1,by omega,fun j hj=>?_⟩
  cases hb:wOf (nth s.out i).key (nth s.out i).arg (nth s.out j) with
  | false => rfl
  | true =>
   obtain ⟨w1,_,w3⟩:=Xm.1 hb
   have:=h.up j i hj hi w1 h1.1
   omega
theorem ziy (l:List Int) {most:Int} (h0:0≤most) (h1:most≤20):YO (yp l most)=0:=by
 unfold YO
 rw [(zal l h0 h1).1,if_neg (by decide),if_pos (zfA l most)]
/-! ### the consistent ones -/
end Go.Proofs.Ytmnmakhpjgjdaaa
/-
 A violation of the sessions is one of causal consistency,in plain Lean.
-/
namespace Go.Proofs.Ytmnmakhpjgjdaaa
set_option linter.unusedVariables false
open Go.RowKit

theorem zf1 {X:List Nat} (hX:X.Pairwise (· < ·)) {p:Nat→Bool} {b:Nat} (hb:b∈X) (hp:p b=true):∃ c,X.find? p=some c∧c≤b:=by
 cases h:X.find? p with
 | none => have := List.find?_eq_none.1 h b hb; exact absurd hp this
 | some c=>
  refine ⟨c,rfl,?_⟩
  obtain ⟨_,ua,ub,e,hn⟩:=List.find?_eq_some_iff_append.1 h
  rw [e] at hb hX
  rcases List.mem_append.1 hb with h1|h1
  ·have:=hn b h1;rw [hp] at this;cases this
  ·rcases List.mem_cons.1 h1 with rfl|h1
   ·exact Nat.le_refl _
   ·exact Nat.le_of_lt ((List.pairwise_cons.1 (List.pairwise_append.1 hX).2.1).1 b h1)
theorem zaC {l:List OpV} {b:Nat} (hb:b∈zE l l.length):∀ (m a:Nat),b - a≤m→a∈zE l l.length→a<b→(nth l a).p=(nth l b).p→∃ k,wkB (edC l) b (k+1) a=true
 | 0, a, hm, _, hab, _ => by omega
 | m+1,a,hm,ha,hab,hp=>by
  obtain ⟨c,hc,hcb⟩:=zf1 (UP l l.length) (p:=fun k=>decide (a<k) && decide ((nth l k).p=(nth l a).p)) hb (by simp [hab,hp])
  have hc:ym l (zE l l.length) a=some c:=hc
  obtain ⟨h1,h2,h3⟩:=Vh hc
  have he:(a,c)∈edC l:=Ut.2 ⟨ha,h1,.inl hc⟩
  by_cases hcb2:c=b
  ·subst hcb2
   exact ⟨0,Zp.2 ⟨c,he,WS.2 rfl⟩⟩
  ·obtain ⟨k,hk⟩:=zaC hb m c (by omega) h1 (by omega) (h3.trans hp)
   exact ⟨k+1,Zp.2 ⟨c,he,hk⟩⟩
theorem zla (l:List OpV):∀ e∈edC l,e.1<l.length:=fun e he=>(zhs l e he).1
theorem zeM {l:List OpV} {x t k:Nat} (ht:t<l.length) (hxt:x≠t) (h:wkB (edC l) t k x=true):YL l x t≠[]:=by
 rw [zil]
 exact (zkx (zla l) ht hxt).2 ⟨k,h⟩
theorem Vg {α:Type} {L:List α} (h:L≠[]):(!L.isEmpty)=true:=by cases L with
 | nil => exact absurd rfl h
 | cons _ _ => rfl
theorem zhA {α:Type} {X:List α} {p:α→Bool} {b:α} (hb:b∈X) (hp:p b=true):X.find? p≠none:=fun h=>by
 have:=List.find?_eq_none.1 h b hb;exact this hp
theorem zkw {l:List OpV} {w1 w2 i k1 k2:Nat} (hi:i∈zE l l.length) (hf:xk l i=some w1) (h2:w2∈zE l l.length) (hk:(nth l w2).k=1) (hkey:(nth l w2).key=(nth l i).key) (hne:w2≠w1) (hp1:wkB (edC l) w2 k1 w1=true) (hp2:wkB (edC l) i k2 w2=true):VT l≠none:=by
 intro h
 unfold VT at h
 rw [List.findSome?_eq_none_iff] at h
 have h3:=h i hi
 unfold Yi at h3
 rw [hf,Option.bind_some,Option.map_eq_none_iff] at h3
 obtain ⟨_,k0,_⟩:=zb9 hf
 refine zhA h2 ?_ h3
 unfold zcm
 rw [decide_eq_true hk,decide_eq_true hkey,decide_eq_true hne,Vg (zeM (xc h2) (fun e=>hne e.symm) hp1),Vg (zeM (xc hi) (fun e=>by rw [e] at hk;omega) hp2)]
 rfl
theorem zhT {l:List OpV} {w i k:Nat} (hi:i∈zE l l.length) (h0:(nth l i).k=0) (hr:(nth l i).res=0) (h2:w∈zE l l.length) (hk:(nth l w).k=1) (hkey:(nth l w).key=(nth l i).key) (hp:wkB (edC l) i k w=true):VP l≠none:=by
 intro h
 unfold VP at h
 rw [List.findSome?_eq_none_iff] at h
 have h3:=h i hi
 unfold Yc at h3
 rw [if_neg (by simp [h0,hr]),Option.map_eq_none_iff] at h3
 refine zhA h2 ?_ h3
 unfold zcc
 rw [decide_eq_true hk,decide_eq_true hkey,Vg (zeM (xc hi) (fun e=>by rw [e] at hk;omega) hp)]
 rfl
theorem ziY {l:List OpV} (h:zaH l=none) {i:Nat} (hi:i∈zE l l.length) (h0:(nth l i).k=0) (hr:(nth l i).res≠0):∃ w,xk l i=some w:=by
 have h1:=List.find?_eq_none.1 h i hi
 unfold WO at h1
 rw [decide_eq_true h0,decide_eq_true hr] at h1
 cases hf:xk l i with
 | none => rw [hf] at h1; exact absurd rfl h1
 | some w => exact ⟨w, rfl⟩
theorem zhQ {l:List OpV} (he:YO l=0):(zj0 l).cls=0↔zaH l=none∧Vv l=[]∧VT l=none∧VP l=none:=by
 unfold zj0
 rw [if_neg (by simp [he])]
 unfold zlE
 cases zaH l with
 | some i => simp
 | none=>
  by_cases hc:Vv l=[]
  ·rw [if_neg (by simp [hc])]
   cases VT l with
   | some x => simp
   | none =>
    cases VP l with
    | some x => simp
    | none => simp [hc]
  ·rw [if_pos hc];simp [hc]
theorem zdl {l:List OpV} (hd:Ya l) (he:YO l=0) (h:(zj0 l).cls=0):(zkL l).cls=0:=by
 obtain ⟨hth,_,hov,hin⟩:=(zhQ he).1 h
 unfold zkL
 rw [if_neg (by simp [he])]
 unfold zlF
 cases hs:zeV l with
 | none => rfl
 | some x=>
  exfalso
  unfold zeV at hs
  obtain ⟨_,i,_,e,hs,_⟩:=List.findSome?_eq_some_iff.1 hs
  have hi:i∈zE l l.length:=by rw [e];simp
  clear e
  obtain ⟨hi1,hi2⟩:=ZA.1 hi
  unfold Yp at hs
  by_cases h0:(nth l i).k≠0
  ·rw [if_pos h0] at hs;cases hs
  have h0:(nth l i).k=0:=by simpa using h0
  rw [if_neg (by simp [h0])] at hs
  have key:∀ r k,k∈zE l l.length→Xg l i r k=true→False:=fun r k hk hb=>by
   obtain ⟨hk1,hk2⟩:=ZA.1 hk
   unfold Xg at hb
   simp only [Bool.and_eq_true,decide_eq_true_eq] at hb
   obtain ⟨⟨⟨⟨b1,b2⟩,b3⟩,_⟩,b5⟩:=hb
   obtain ⟨m,hwalk⟩:=zaC hi _ k (Nat.le_refl _) hk b1 b2
   unfold UY at b5
   by_cases hv:(nth l i).res=0
   ·rw [if_pos hv] at b5
    have b5:=of_decide_eq_true b5
    by_cases hkw:(nth l k).k=1
    ·exact zhT hi h0 hv hk hkw b3 hwalk hin
    ·rw [if_neg hkw] at b5
     have hk0:(nth l k).k=0:=(hd.kind hk1).resolve_right hkw
     obtain ⟨w,hw⟩:=ziY hth hk hk0 b5
     obtain ⟨w1,_,_,w4,w5⟩:=zb9 hw
     obtain ⟨d1,d2,_⟩:=Xm.1 w4
     have hwi:w∈zE l l.length:=ZA.2 ⟨w1,w5⟩
     exact zhT hi h0 hv hwi d1 (d2.trans b3) (Zp.2 ⟨k,Ut.2 ⟨hwi,hk,.inr hw⟩,hwalk⟩) hin
   ·rw [if_neg hv] at b5
    cases ha:cIx l (nth l i).key (nth l i).res with
    | none => rw [ha] at b5; cases b5
    | some a=>
     rw [ha] at b5
     cases hc:cIx l (nth l i).key (if (nth l k).k=1 then (nth l k).arg else (nth l k).res) with
     | none => rw [hc] at b5; cases b5
     | some b=>
      rw [hc] at b5
      simp only [Bool.and_eq_true,decide_eq_true_eq] at b5
      obtain ⟨a1,a2,a3⟩:=ZS ha
      obtain ⟨c1,c2,c3⟩:=ZS hc
      obtain ⟨d1,d2,d3⟩:=Xm.1 c2
      have hbI:b∈zE l l.length:=ZA.2 ⟨c1,c3⟩
      have haI:a∈zE l l.length:=ZA.2 ⟨a1,a3⟩
      have hfi:xk l i=some a:=by unfold xk;rw [if_neg (by simp [h0,hv])];exact ha
      obtain ⟨m2,hw2⟩:=zaC hbI _ a (Nat.le_refl _) haI b5.2 b5.1
      have hbk:∃ q,wkB (edC l) i q b=true:=by
       by_cases hkw:(nth l k).k=1
       ·rw [if_pos hkw] at d3
        have:b=k:=hd.uniq c1 hk1 d1 hkw (d2.trans b3.symm) d3
        rw [this];exact ⟨_,hwalk⟩
       ·rw [if_neg hkw] at d3 hc
        have hk0:(nth l k).k=0:=(hd.kind hk1).resolve_right hkw
        have hne:(nth l k).res≠0:=fun e=>hd.arg c1 d1 (d3.trans e)
        have hfk:xk l k=some b:=by unfold xk;rw [if_neg (by simp [hk0,hne]),b3];exact hc
        exact ⟨_,Zp.2 ⟨k,Ut.2 ⟨hbI,hk,.inr hfk⟩,hwalk⟩⟩
      obtain ⟨q,hq⟩:=hbk
      exact zkw hi hfi hbI d1 d2 (by omega) hw2 hq hov
  cases hf:(zE l l.length).find? (Xg l i 0) with
  | some k => exact key 0 k (List.mem_of_find?_eq_some hf) (List.find?_some hf)
  | none =>
   rw [hf] at hs
   cases hf1:(zE l l.length).find? (Xg l i 1) with
   | some k => exact key 1 k (List.mem_of_find?_eq_some hf1) (List.find?_some hf1)
   | none => rw [hf1] at hs; cases hs
end Go.Proofs.Ytmnmakhpjgjdaaa
/-
 simprooflaw23.CausalImplies answers true for every input (walked on plain values).
-/
namespace Go.Proofs.Ytmnmakhpjgjdaaa
set_option linter.unusedVariables false
open Go.RowKit

set_option maxHeartbeats 4000000 in
theorem Wn (l:List Int) (hl:∀ x∈l,I64 x) (hlen:l.length≤9223372036854775807):yn Try.prog 6 [.list 1 (l.map zy)] .fr (.bool true):=by
 obtain ⟨_,hin,hsm,hn⟩:=zal l (most:=14) (by omega) (by omega)
 have hC:=zeQ l 14 hl hlen (by unfold I64;omega)
 have he:=ziy l (most:=14) (by omega) (by omega)
 have hd:=zfA l 14
 generalize yp l 14=G at *
 have h1:=zab G (by omega) hin
 have h2:=WI G (by omega) hin
 have himp:=zdl hd he
 rw [he] at h1 h2
 obtain ⟨V,hV⟩:∃ V,zj0 G=V:=⟨_,rfl⟩
 obtain ⟨W,hW⟩:∃ W,zkL G=W:=⟨_,rfl⟩
 rw [hV] at h1 himp
 rw [hW] at h2 himp
 obtain ⟨v0,v1,v2,v3,v4⟩:=V
 obtain ⟨w0,w1,w2,w3,w4⟩:=W
 unfold zi2.fv at h1 h2
 dsimp only at h1 h2 himp
 have hlv:=zdu
 clear hV hW he
 refine yn.of_body (c:=(ZN Try.prog zH zB 37)) ⟨Try.func6,rfl,Try.ntmps6,by kernel_rfl⟩ (by simp [FV.hand]) (by exact Nat.le_of_ble_eq_true rfl) rfl ?_
 change FW _ _ _ ⟨[(0,.list 1 (l.map zy))],[]⟩
 (repeat (first|refine FW.seq ?_|refine FW.region ?_|refine zc.nil ?_|refine zb rfl rfl rfl ?_|refine za rfl rfl rfl ?_))
 refine Uc hC (by repeat (first|exact zI.nil|refine zI.cons (by exact Zq.plain rfl rfl) ?_)) (List.length_map _) rfl rfl rfl ?_
 refine zc.le ?_ (FLe.share 9 rfl rfl (by rw [List.length_map]))
 (repeat (first|refine FW.seq ?_|refine FW.region ?_|refine zc.nil ?_|refine zb rfl rfl rfl ?_|refine za rfl rfl rfl ?_))
 refine xE h1 (by repeat (first|exact zI.nil|refine zI.cons (by exact Zq.plain rfl rfl) ?_)) rfl rfl ?_
 (repeat (first|refine FW.seq ?_|refine FW.region ?_|refine zc.nil ?_|refine zb rfl rfl rfl ?_|refine za rfl rfl rfl ?_|refine zw rfl rfl rfl rfl rfl ?_|refine zD rfl rfl rfl rfl rfl rfl rfl ?_|refine zi rfl rfl rfl rfl rfl rfl rfl rfl rfl ?_))
 refine xE h2 (by repeat (first|exact zI.nil|refine zI.cons (by exact Zq.plain rfl rfl) ?_)) rfl rfl ?_
 (repeat (first|refine FW.seq ?_|refine FW.region ?_|refine FW.skip ?_|refine FW.condF rfl ?_|refine zc.nil ?_|refine zb rfl rfl rfl ?_|refine za rfl rfl rfl ?_|refine zw rfl rfl rfl rfl rfl ?_|refine zD rfl rfl rfl rfl rfl rfl rfl ?_|refine zi rfl rfl rfl rfl rfl rfl rfl rfl rfl ?_|refine xw rfl rfl rfl rfl ?_|refine zL rfl rfl rfl rfl ?_|refine zj rfl rfl rfl rfl rfl rfl (by decide) rfl rfl ?_|refine zq rfl rfl rfl rfl rfl (by simp;done) rfl rfl rfl rfl rfl ?_|refine za rfl rfl ⟨_,_,rfl,rfl,rfl⟩ ?_|refine xw rfl rfl rfl ⟨_,_,rfl,rfl,rfl⟩ ?_))
 refine ye (fun h=>?_) (fun h=>?_)
 ·(repeat (first|refine za rfl rfl rfl ?_|refine zM rfl rfl rfl rfl ?_|refine yh rfl rfl ⟨_,_,rfl,rfl,rfl⟩ ?_))
  refine yK hlv (by repeat (first|exact zI.nil)) rfl ⟨_,_,rfl,rfl,rfl⟩ ?_
  (repeat (first|refine zc.nil ?_|refine zb rfl rfl rfl ?_|refine zM rfl rfl rfl rfl ?_))
  exact FW.ret ⟨.inl rfl,yb rfl rfl rfl rfl⟩
 ·rw [himp (by simpa using h)]
  (repeat (first|refine za rfl rfl rfl ?_|refine zL rfl rfl rfl rfl ?_|refine zj rfl rfl rfl rfl rfl rfl (by decide) rfl ⟨_,_,rfl,rfl,rfl⟩ ?_|refine zq rfl rfl rfl rfl rfl (by simp;done) rfl rfl rfl rfl ⟨_,_,rfl,rfl,rfl⟩ ?_|refine yT rfl rfl rfl ⟨_,_,rfl,rfl,rfl⟩ ?_))
  refine yK hlv (by repeat (first|exact zI.nil)) rfl ⟨_,_,rfl,rfl,rfl⟩ ?_
  (repeat (first|refine zc.nil ?_|refine zb rfl rfl rfl ?_|refine zM rfl rfl rfl rfl ?_))
  exact FW.ret ⟨.inl rfl,yb rfl rfl rfl rfl⟩
end Go.Proofs.Ytmnmakhpjgjdaaa
