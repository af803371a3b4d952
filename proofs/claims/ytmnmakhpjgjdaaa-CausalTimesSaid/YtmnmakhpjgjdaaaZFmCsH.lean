/-
  Some texts as one: FmCsH, FmCs1, FmCs2, WfGen, ConsPlain, CauGen, CauTimes, LawCausalTimes.
-/
import Derived.Test.YtmnmakhpjgjdaaaZD
import Derived.Test.YtmnmakhpjgjdaaaZF
import Derived.Test.YtmnmakhpjgjdaaaZFmCauE
import Derived.Test.YtmnmakhpjgjdaaaZR
import Derived.Test.YtmnmakhpjgjdaaaZFmW
/-
 The generated histories of layer 20 one by one,at plain values.
-/
namespace Go.Proofs.Ytmnmakhpjgjdaaa
set_option linter.unusedVariables false
open Go.RowKit

theorem zeE (l:List Int) (most:Int) (hl:∀ x∈l,I64 x) (hlen:l.length≤9223372036854775807) (hm:I64 most):yl Try.prog 10 [.list 1 (l.map zy),.int .i64 most] (.ow 43 8) (.list 8 ((yn l most).map OpV.fv)) where
 go:=by kernel_rfl
 hand:=rfl
 calls w I vs hI hv:=by
  obtain ⟨_,_,rfl,e1,e2⟩:=hv.inv2
  obtain ⟨A,c,rfl,_,hs⟩:=zdV.of e1 hI
  rw [e2.int_inv]
  refine (zcg A c l most w hs hl hlen hm).mono ?_
  rintro e w' ⟨A1,c1,rfl,ho,hb⟩
  exact ⟨_,rfl,hb,opT.res ho⟩
/-! ### what the registers are -/
theorem zae (l:List Int) {most:Int} (h0:0≤most) (h1:most≤20):xn (yn l most)=0∧(∀ o∈yn l most,Uc o)∧(∀ o∈yn l most,zj8 o)∧((yn l most).length:Int)≤most:=by
 have hg:=XR l most
 have hl:=WZ l most
 have hi:=zei l (most:=most) h0
 have inv:=WK (Yw l) hg hl _ (Nat.le_refl _)
 exact ⟨(ze5 hg hl inv.ok inv.sm).1,(ze5 hg hl inv.ok inv.sm).2,inv.sm,by have:=inv.ok.len;unfold yn;omega⟩
end Go.Proofs.Ytmnmakhpjgjdaaa
/-
 Verdicts of layer 23 in plain Lean;simproofref23.SameVerdict,simprooflaw23.same.
-/
namespace Go.Proofs.Ytmnmakhpjgjdaaa
set_option linter.unusedVariables false
open Go.RowKit

structure ziP where
 check:Int
 cls:Int
 arg:Int
 ord:List Int
 ed:List EdC
 deriving DecidableEq,Inhabited
def ziP.fv (v:ziP):List FV:=[.int .i64 v.check,.int .i64 v.cls,.int .i64 v.arg,.list 1 (v.ord.map zy),.list 3 (v.ed.map EdC.fv)]
def Uk (L:List Nat):List Int:=L.map fun i:Nat=>(i:Int)
def cauR (l:List OpV):ziP:=match thinK l with
 | some i => ⟨5, 2, (nth l i).key, Uk [i], []⟩
 | none=>if cycC l≠[] then ⟨5,6,0,[],cycEd l (cycC l) (cycC l).length⟩ else match overC l with
  | some (w1, w2, i) => ⟨5, 7, (nth l w2).key, Uk [w1, w2, i], pthC l w1 w2 ++ pthC l w2 i⟩
  | none => match initC l with
   | some (w, i) => ⟨5, 8, (nth l w).key, Uk [w, i], pthC l w i⟩
   | none => ⟨5, 0, 0, ordK l, []⟩
def zha (l:List OpV):ziP:=if YJ l≠0 then ⟨0,0,0,[],[]⟩ else cauR l
def sesR (l:List OpV):ziP:=match sessC l with
 | some (r, k, i) => ⟨6, 9+r, (nth l i).key, Uk [k, i], []⟩
 | none => ⟨6, 0, 0, [], []⟩
def ziE (l:List OpV):ziP:=if YJ l≠0 then ⟨0,0,0,[],[]⟩ else sesR l
theorem zhT (sz:Nat) (es:List (List FV)):FV.le (zkq sz es) (.list sz es):=by
 cases es with
 | nil => exact .nil sz
 | cons e es => exact .refl _
theorem zjp (L:List Nat):L.map yH=(Uk L).map zy:=by unfold Uk;rw [List.map_map];rfl
theorem zlr {c k a:Int} {f g:FV} {o:List Int} {e:List EdC} (h1:FV.le f (.list 1 (o.map zy))) (h2:FV.le g (.list 3 (e.map EdC.fv))):FV.le (.agg [.int .i64 c,.int .i64 k,.int .i64 a,f,g]) (.agg (ziP.fv ⟨c,k,a,o,e⟩)):=
 .agg (.cons (.refl _) (.cons (.refl _) (.cons (.refl _) (.cons h1 (.cons h2 .nil)))))
theorem zaA (c k a:Int) (o:List Nat) (e:List EdC):FV.le (.agg (VC c k a o e)) (.agg (ziP.fv ⟨c,k,a,Uk o,e⟩)):=by
 unfold VC
 refine zlr ?_ (zhT 3 _)
 rw [zjp];exact zhT 1 _
theorem zg9 (l:List OpV):FV.le (.agg (Wn l)) (.agg (cauR l).fv):=by
 unfold Wn cauR
 cases thinK l with
 | some i => exact zaA 5 2 _ [i] []
 | none=>
  dsimp only
  by_cases h:cycC l≠[]
  ·rw [if_pos h,if_pos h];exact zlr (.nil 1) (.refl _)
  ·rw [if_neg h,if_neg h]
   cases overC l with
   | some x =>
    obtain ⟨w1,w2,i⟩:=x
    exact zaA 5 7 _ [w1,w2,i] _
   | none=>
    dsimp only
    cases initC l with
    | some x =>
     obtain ⟨w,i⟩:=x
     exact zaA 5 8 _ [w,i] _
    | none => exact zlr (.refl _) (.nil 3)
theorem ziD (l:List OpV):FV.le (.agg (zbA l)) (.agg (sesR l).fv):=by
 unfold zbA sesR
 cases sessC l with
 | some x =>
  obtain ⟨r,k,i⟩:=x
  exact zaA 6 (9+r) _ [k,i] []
 | none => exact zaA 6 0 0 [] []
theorem zkf (l:List OpV):FV.le (zke l) (.tup [.agg (zha l).fv,.int .i64 (YJ l)]):=by
 unfold zke zha
 by_cases h:YJ l≠0
 ·rw [if_pos h,if_pos h]
  exact .tup (.cons (zlr (.nil 1) (.nil 3)) (.cons (.refl _) .nil))
 ·rw [if_neg h,if_neg h,show YJ l=0 by simpa using h]
  exact .tup (.cons (zg9 l) (.cons (.refl _) .nil))
theorem zkF (l:List OpV):FV.le (zkE l) (.tup [.agg (ziE l).fv,.int .i64 (YJ l)]):=by
 unfold zkE ziE
 by_cases h:YJ l≠0
 ·rw [if_pos h,if_pos h]
  exact .tup (.cons (zlr (.nil 1) (.nil 3)) (.cons (.refl _) .nil))
 ·rw [if_neg h,if_neg h,show YJ l=0 by simpa using h]
  exact .tup (.cons (ziD l) (.cons (.refl _) .nil))
theorem zi1 (l:List OpV) (hl:l.length≤14):(zha l).ord.length≤1000∧(zha l).ed.length≤1000:=by
 unfold zha
 split
 ·exact ⟨by simp,by simp⟩
 unfold cauR
 split
 ·exact ⟨by simp [Uk],by simp⟩
 ·split
  ·have:=zeY l
   exact ⟨by simp,by simp [cycEd];omega⟩
  ·rename_i hc
   split
   ·rename_i w1 w2 i _
    have h1:=@Xz l w1 w2
    have h2:=@Xz l w2 i
    exact ⟨by simp [Uk],by simp;omega⟩
   ·split
    ·rename_i w i _
     have h1:=@Xz l w i
     exact ⟨by simp [Uk],by dsimp only;omega⟩
    ·have hc:cycC l=[]:=by simpa using hc
     have h2:=(YA (YU l) hc).2.len
     have h3:(ordK l).length≤(yR l.length (edC l)).length:=List.length_filter_le _ _
     exact ⟨by dsimp only;omega,by simp⟩
theorem zjI (l:List OpV):(ziE l).ord.length≤1000∧(ziE l).ed.length≤1000:=by
 unfold ziE
 split
 ·exact ⟨by simp,by simp⟩
 unfold sesR
 split
 ·exact ⟨by simp [Uk],by simp⟩
 ·exact ⟨by simp,by simp⟩
theorem XZ (l:List OpV) (hl:l.length≤14) (hin:∀ o∈l,Uc o):yl Try.prog 18 [.list 8 (l.map OpV.fv)] .sh (.tup [.agg (zha l).fv,.int .i64 (YJ l)]):=yl.le (zd2 l hl hin) (zkf l) rfl
theorem YB (l:List OpV) (hl:l.length≤1000) (hin:∀ o∈l,Uc o):yl Try.prog 19 [.list 8 (l.map OpV.fv)] .sh (.tup [.agg (ziE l).fv,.int .i64 (YJ l)]):=yl.le (zbN l hl hin) (zkF l) rfl
theorem zi8 (x:EdC):ziT Try.prog 46 x.fv x.fv true:=by
 refine ⟨by kernel_rfl,fun w=>?_⟩
 obtain ⟨a1,a2,a3⟩:=x
 show (Op.equalIn 10000 46 (.agg #[.int .i64 (a1:Int),.int .i64 (a2:Int),.int .i64 (a3:Int)]) (.agg #[.int .i64 (a1:Int),.int .i64 (a2:Int),.int .i64 (a3:Int)])).run Try.prog w=_
 have hS:Try.prog.underlying 46=some (.struct (Try.prog.fieldsOf 46)):=by kernel_rfl
 have hp:Try.prog.stoodInHeld 46=false:=by kernel_rfl
 rw [show (10000:Nat)=9999+1 from rfl,run_equalIn_agg w 9999 46 _ _ hS hp]
 simp only [Program.fieldsOf,Try.underlying46]
 simp [go_sem]
set_option maxHeartbeats 4000000 in
theorem YF (V:ziP) (h1:V.ord.length≤1000) (h2:V.ed.length≤1000):yl Try.prog 22 [.agg V.fv,.agg V.fv] .fr (.bool true):=by
 have hs1:=zcn V.ord V.ord (by omega) (by omega)
 rw [decide_eq_true rfl] at hs1
 obtain ⟨ck,cls,arg,O,E⟩:=V
 dsimp only at h1 h2 hs1
 obtain ⟨n,hn⟩:∃ n,E.length=n:=⟨_,rfl⟩
 obtain ⟨X,hX⟩:∃ X,O.map zy=X:=⟨_,rfl⟩
 show yl _ _ [.agg [.int .i64 ck,.int .i64 cls,.int .i64 arg,.list 1 (O.map zy),.list 3 (E.map EdC.fv)],.agg [.int .i64 ck,.int .i64 cls,.int .i64 arg,.list 1 (O.map zy),.list 3 (E.map EdC.fv)]] _ _
 rw [hX] at hs1 ⊢
 refine yl.of_body (c:=(ZJ Try.prog zH zB 67)) ⟨Try.func22,rfl,Try.ntmps22,by kernel_rfl⟩ (by simp [FV.hand]) (by exact Nat.le_of_ble_eq_true rfl) rfl ?_
 change FW _ _ _ ⟨[(0,.agg [.int .i64 ck,.int .i64 cls,.int .i64 arg,.list 1 X,.list 3 (E.map EdC.fv)]),(1,.agg [.int .i64 ck,.int .i64 cls,.int .i64 arg,.list 1 X,.list 3 (E.map EdC.fv)])],[]⟩
 (repeat (first|refine FW.seq ?_|refine FW.region ?_|refine zc.nil ?_|refine zkx rfl rfl rfl rfl rfl rfl rfl ?_|refine zb rfl rfl rfl ?_|refine zj rfl rfl rfl rfl rfl rfl (by decide) rfl rfl ?_|refine zw rfl rfl rfl rfl rfl (by simp;done) rfl rfl rfl rfl rfl ?_|refine xC rfl rfl rfl rfl ?_|refine za rfl rfl rfl ?_))
 refine yg (fun h=>absurd rfl (of_decide_eq_true h)) (fun h=>?_)
 (repeat (first|refine za rfl rfl rfl ?_|refine zQ rfl rfl rfl rfl ?_|refine zj rfl rfl rfl rfl rfl rfl (by decide) rfl ⟨_,_,rfl,rfl,rfl⟩ ?_|refine zw rfl rfl rfl rfl rfl (by simp;done) rfl rfl rfl rfl ⟨_,_,rfl,rfl,rfl⟩ ?_|refine xC rfl rfl rfl ⟨_,_,rfl,rfl,rfl⟩ ?_))
 refine yg (fun h=>absurd rfl (of_decide_eq_true h)) (fun h=>?_)
 (repeat (first|refine za rfl rfl rfl ?_|refine zQ rfl rfl rfl rfl ?_|refine zj rfl rfl rfl rfl rfl rfl (by decide) rfl ⟨_,_,rfl,rfl,rfl⟩ ?_|refine zw rfl rfl rfl rfl rfl (by simp;done) rfl rfl rfl rfl ⟨_,_,rfl,rfl,rfl⟩ ?_|refine xC rfl rfl rfl ⟨_,_,rfl,rfl,rfl⟩ ?_))
 refine yg (fun h=>absurd rfl (of_decide_eq_true h)) (fun h=>?_)
 (repeat (first|refine zj rfl rfl rfl rfl rfl rfl (by decide) rfl ⟨_,_,rfl,rfl,rfl⟩ ?_|refine zw rfl rfl rfl rfl rfl (by simp;done) rfl rfl rfl rfl ⟨_,_,rfl,rfl,rfl⟩ ?_))
 refine yJ hs1 (by repeat (first|exact zG.nil|refine zG.cons (by exact Zg.plain rfl rfl) ?_)) rfl ⟨_,_,rfl,rfl,rfl⟩ ?_
 (repeat (first|refine zc.nil ?_|refine za rfl rfl rfl ?_|refine zQ rfl rfl rfl rfl ?_|refine zj rfl rfl rfl rfl rfl rfl (by decide) rfl ⟨_,_,rfl,rfl,rfl⟩ ?_|refine zw rfl rfl rfl rfl rfl (by simp;done) rfl rfl rfl rfl ⟨_,_,rfl,rfl,rfl⟩ ?_|refine xC rfl rfl rfl ⟨_,_,rfl,rfl,rfl⟩ ?_|refine YL rfl rfl ⟨_,_,rfl,rfl,rfl⟩ ?_|refine zu rfl rfl (by first|exact List.length_map _|rfl|(simp;done)) rfl ⟨_,_,rfl,rfl,rfl⟩ ?_))
 refine FW.cond rfl (fun h=>absurd rfl (of_decide_eq_true h)) (fun h=>?_)
 clear h
 (repeat (first|refine FW.seq ?_|refine FW.region ?_|refine FW.block ?_|refine FW.skip ?_|refine zc.nil ?_|refine zb rfl rfl rfl ?_))
 refine FW.loop (fun j:Nat=>⟨[(2,.ptr 102 0 0 0),(3,.ptr 103 0 0 0),(5,.int .i64 j)],[(102,⟨0,.own,36,5,[[.int .i64 ck,.int .i64 cls,.int .i64 arg,.list 1 X,.list 3 (E.map EdC.fv)]]⟩),(103,⟨0,.own,36,5,[[.int .i64 ck,.int .i64 cls,.int .i64 arg,.list 1 X,.list 3 (E.map EdC.fv)]]⟩)]⟩) (fun j=>j≤n) (fun j=>n - j) 0 (Nat.zero_le _) (FLe.cv [⟨102,some 2,0+1,⟨0,.own,36,5,[[.int .i64 ck,.int .i64 cls,.int .i64 arg,.list 1 X,.list 3 (E.map EdC.fv)]]⟩⟩,⟨103,some 3,0+1,⟨0,.own,36,5,[[.int .i64 ck,.int .i64 cls,.int .i64 arg,.list 1 X,.list 3 (E.map EdC.fv)]]⟩⟩] (by repeat (first|exact .nil|refine .old rfl (by decide) rfl ?_)) (by repeat (first|exact .nil|refine .cons (.plain rfl rfl rfl) ?_|refine .cons (.ptr rfl (.head _) rfl) ?_|refine .cons (.ptr rfl (.tail _ (.head _)) rfl) ?_))) ?_
 intro j hj
 (repeat (first|refine FW.seq ?_|refine FW.region ?_|refine zc.nil ?_|refine zj rfl rfl rfl rfl rfl rfl (by decide) rfl rfl ?_|refine zw rfl rfl rfl rfl rfl (by simp;done) rfl rfl rfl rfl rfl ?_|refine za rfl rfl rfl ?_|refine zu rfl rfl (by first|exact List.length_map _|rfl|(simp;done)) rfl rfl ?_|refine zX rfl rfl rfl rfl ?_))
 refine FW.cond rfl (fun h=>?_) (fun h=>?_)
 ·have hlt:j<E.length:=by simpa using h
  (repeat (first|refine FW.seq ?_|refine FW.block ?_|refine FW.skip ?_|refine FW.draw ?_|refine xt rfl rfl rfl rfl rfl rfl (by decide) rfl rfl ?_|refine yE rfl rfl rfl rfl rfl (by first|(simp;omega)|(simp;done)) (by first|exact zg (by omega)|rfl) rfl rfl rfl rfl ?_|refine zic rfl rfl rfl (by decide) (by first|(simp;omega)|(simp;done)) (by first|exact zg (by omega)|rfl) rfl rfl rfl ?_|refine zR rfl rfl rfl ?_|refine ZD rfl rfl rfl rfl rfl rfl (by first|(simp;omega)|(simp;done)) rfl rfl ?_))
  refine zlg rfl rfl rfl rfl (zi8 (nth E j)) rfl rfl ?_
  (repeat (first|refine zF.nil ?_))
  refine ⟨by kernel_rfl,?_⟩
  (repeat (first|refine FW.region ?_|refine FW.skip ?_|refine FW.condF rfl ?_|refine zc.nil ?_|refine zb rfl rfl rfl ?_|refine za rfl rfl rfl ?_|refine zq rfl rfl (by omega) rfl rfl ?_))
  exact ⟨j+1,by omega,by omega,(FLe.cv [⟨102,some 102,0,⟨0,.own,36,5,[[.int .i64 ck,.int .i64 cls,.int .i64 arg,.list 1 X,.list 3 (E.map EdC.fv)]]⟩⟩,⟨103,some 103,0,⟨0,.own,36,5,[[.int .i64 ck,.int .i64 cls,.int .i64 arg,.list 1 X,.list 3 (E.map EdC.fv)]]⟩⟩] (by repeat (first|exact .nil|refine .old rfl (by decide) rfl ?_)) (by repeat (first|exact .nil|refine .cons (.plain rfl rfl rfl) ?_|refine .cons (.ptr rfl (.head _) rfl) ?_|refine .cons (.ptr rfl (.tail _ (.head _)) rfl) ?_)))⟩
 ·(repeat (first|refine FW.seq ?_|refine FW.region ?_|refine FW.exit ?_|refine zc.nil ?_|refine zb rfl rfl rfl ?_))
  exact FW.ret ⟨.inl rfl,yb rfl rfl rfl rfl⟩
end Go.Proofs.Ytmnmakhpjgjdaaa
/-
 simprooflaw23.lives.
-/
namespace Go.Proofs.Ytmnmakhpjgjdaaa
set_option linter.unusedVariables false
open Go.RowKit

def zko:List OpV:=[⟨0,1,3,1,0,0,1,true⟩,⟨0,0,3,0,0,2,3,true⟩]
theorem zlA:zha zko=⟨5,8,3,[0,1],[(0,1,1)]⟩:=by decide +kernel
theorem zlz:ziE zko=⟨6,9,3,[0,1],[]⟩:=by decide +kernel
theorem zk3:YJ zko=0:=by decide +kernel
theorem zhQ:∀ o∈zko,Uc o:=fun o ho=>by simp only [zko,List.mem_cons,List.not_mem_nil,or_false] at ho;rcases ho with rfl|rfl <;> (unfold Uc I64;decide)
set_option maxHeartbeats 4000000 in
theorem zdk:yl Try.prog 15 [] .fr (.bool true):=by
 have hA:=XZ zko (by decide) zhQ
 have hB:=YB zko (by decide) zhQ
 rw [zlA,zk3] at hA
 rw [zlz,zk3] at hB
 change yl _ _ [.list 8 [OpV.fv ⟨0,1,3,1,0,0,1,true⟩,OpV.fv ⟨0,0,3,0,0,2,3,true⟩]] _ (.tup [.agg [.int .i64 5,.int .i64 8,.int .i64 3,.list 1 ([0,1].map zy),.list 3 [[.int .i64 0,.int .i64 1,.int .i64 1]]],.int .i64 0]) at hA
 change yl _ _ [.list 8 [OpV.fv ⟨0,1,3,1,0,0,1,true⟩,OpV.fv ⟨0,0,3,0,0,2,3,true⟩]] _ (.tup [.agg [.int .i64 6,.int .i64 9,.int .i64 3,.list 1 ([0,1].map zy),.list 3 []],.int .i64 0]) at hB
 have s1:=YF ⟨5,8,3,[0,1],[(0,1,1)]⟩ (by decide) (by decide)
 have s2:=YF ⟨6,9,3,[0,1],[]⟩ (by decide) (by decide)
 change yl _ _ [.agg [.int .i64 5,.int .i64 8,.int .i64 3,.list 1 ([0,1].map zy),.list 3 [[.int .i64 0,.int .i64 1,.int .i64 1]]],.agg [.int .i64 5,.int .i64 8,.int .i64 3,.list 1 ([0,1].map zy),.list 3 [[.int .i64 0,.int .i64 1,.int .i64 1]]]] _ _ at s1
 change yl _ _ [.agg [.int .i64 6,.int .i64 9,.int .i64 3,.list 1 ([0,1].map zy),.list 3 []],.agg [.int .i64 6,.int .i64 9,.int .i64 3,.list 1 ([0,1].map zy),.list 3 []]] _ _ at s2
 refine yl.of_body (c:=(ZJ Try.prog zH zB 45)) ⟨Try.func15,rfl,Try.ntmps15,by kernel_rfl⟩ (by simp [FV.hand]) (by exact Nat.le_of_ble_eq_true rfl) rfl ?_
 change FW _ _ _ ⟨[],[]⟩
 (repeat (first|refine FW.seq ?_|refine FW.region ?_|refine zc.nil ?_|refine zb rfl rfl rfl ?_|refine zS rfl rfl rfl rfl ?_|refine zU.nil ?_|refine zU.one rfl rfl rfl rfl rfl ?_))
 refine WL (es:=[OpV.fv ⟨0,1,3,1,0,0,1,true⟩,OpV.fv ⟨0,0,3,0,0,2,3,true⟩]) rfl rfl rfl (by refine xJ.agg rfl rfl rfl ?_;refine xJ.agg rfl rfl rfl ?_;exact xJ.nil) rfl rfl rfl rfl rfl rfl ?_
 refine zc.le ?_ (FLe.share 10 rfl rfl (by rfl))
 (repeat (first|refine FW.seq ?_|refine FW.region ?_|refine zc.nil ?_|refine zb rfl rfl rfl ?_|refine za rfl rfl rfl ?_))
 refine xi hA (by repeat (first|exact zG.nil|refine zG.cons (by exact Zg.plain rfl rfl) ?_)) rfl rfl ?_
 (repeat (first|refine FW.seq ?_|refine FW.region ?_|refine zc.nil ?_|refine zb rfl rfl rfl ?_|refine za rfl rfl rfl ?_|refine zt rfl rfl rfl rfl rfl ?_|refine zD rfl rfl rfl rfl rfl rfl rfl ?_|refine zi rfl rfl rfl rfl rfl rfl rfl rfl rfl ?_))
 refine xi hB (by repeat (first|exact zG.nil|refine zG.cons (by exact Zg.plain rfl rfl) ?_)) rfl rfl ?_
 (repeat (first|refine FW.seq ?_|refine FW.region ?_|refine zc.nil ?_|refine zb rfl rfl rfl ?_|refine za rfl rfl rfl ?_|refine zt rfl rfl rfl rfl rfl ?_|refine zD rfl rfl rfl rfl rfl rfl rfl ?_|refine zi rfl rfl rfl rfl rfl rfl rfl rfl rfl ?_))
 refine WL (es:=[0,1].map zy) rfl rfl rfl (by refine xJ.int rfl rfl ?_;refine xJ.int rfl rfl ?_;exact xJ.nil) rfl rfl rfl rfl rfl rfl ?_
 refine zc.le ?_ (FLe.share 21 rfl rfl rfl)
 refine zS rfl rfl rfl rfl ?_
 refine zU.one rfl rfl rfl rfl rfl ?_
 refine zU.one rfl rfl rfl rfl rfl ?_
 refine zU.one rfl rfl rfl rfl rfl ?_
 refine zU.nil ?_
 refine WL (es:=[[.int .i64 0,.int .i64 1,.int .i64 1]]) rfl rfl rfl (by refine xJ.agg rfl rfl rfl ?_;exact xJ.nil) rfl rfl rfl rfl rfl rfl ?_
 refine zc.le ?_ (FLe.share 23 rfl rfl rfl)
 (repeat (first|refine FW.seq ?_|refine FW.region ?_|refine zc.nil ?_|refine zS rfl rfl rfl rfl ?_|refine zD rfl rfl rfl rfl rfl rfl rfl ?_|refine zi rfl rfl rfl rfl rfl rfl rfl rfl rfl ?_|refine zU.nil ?_|refine zU.one rfl rfl rfl rfl rfl ?_|refine zU.agg rfl rfl rfl rfl (List.cons_ne_nil _ _) rfl ?_))
 refine WL (es:=[0,1].map zy) rfl rfl rfl (by refine xJ.int rfl rfl ?_;refine xJ.int rfl rfl ?_;exact xJ.nil) rfl rfl rfl rfl rfl rfl ?_
 refine zc.le ?_ (FLe.share 26 rfl rfl rfl)
 (repeat (first|refine FW.seq ?_|refine FW.region ?_|refine zc.nil ?_|refine zS rfl rfl rfl rfl ?_|refine za rfl rfl rfl ?_|refine zD rfl rfl rfl rfl rfl rfl rfl ?_|refine zi rfl rfl rfl rfl rfl rfl rfl rfl rfl ?_|refine yO rfl rfl rfl rfl ?_|refine zI rfl rfl rfl rfl ?_|refine za rfl rfl ⟨_,_,rfl,rfl,rfl⟩ ?_|refine yO rfl rfl rfl ⟨_,_,rfl,rfl,rfl⟩ ?_|refine yG rfl rfl rfl (by decide) rfl rfl (by simp;done) rfl rfl rfl ⟨_,_,rfl,rfl,rfl⟩ ?_|refine zU.nil ?_|refine zU.one rfl rfl rfl rfl rfl ?_|refine zU.agg rfl rfl rfl rfl (List.cons_ne_nil _ _) rfl ?_))
 refine yJ s1 (by repeat (first|exact zG.nil|refine zG.cons (by exact Zg.plain rfl rfl) ?_)) rfl ⟨_,_,rfl,rfl,rfl⟩ ?_
 (repeat (first|refine za rfl rfl rfl ?_|refine zI rfl rfl rfl rfl ?_|refine yG rfl rfl rfl (by decide) rfl rfl (by simp;done) rfl rfl rfl ⟨_,_,rfl,rfl,rfl⟩ ?_))
 refine yJ s2 (by repeat (first|exact zG.nil|refine zG.cons (by first|exact Zg.plain rfl rfl|exact Zg.sub rfl rfl (by repeat (first|exact FV.le.refl _|exact FV.le.nil _|refine FV.le.agg ?_|refine FV.le.tup ?_|exact LeL.nil|refine LeL.cons ?_ ?_|exact FV.le.undef _))) ?_)) rfl ⟨_,_,rfl,rfl,rfl⟩ ?_
 (repeat (first|refine zc.nil ?_|refine zb rfl rfl rfl ?_|refine zI rfl rfl rfl rfl ?_))
 exact FW.ret ⟨.inl rfl,yb rfl rfl rfl rfl⟩
end Go.Proofs.Ytmnmakhpjgjdaaa
/-
 Generated histories and checked ones,by pairs.
-/
namespace Go.Proofs.Ytmnmakhpjgjdaaa
set_option linter.unusedVariables false

theorem zkk {ev:List EvV} {out:List OpV} {opn:List Int} (hg:YP ev) (hl:ev.length≤40) (h:XE ev ev.length out opn) (hc:xn out=0) (h300:out.length≤300) (hw:∀ o∈out,wfB o=true):WFH out∧∀ o∈out,0≤o.p∧o.p<4:=by
 refine ⟨⟨h300,hw,List.pairwise_iff_getElem.2 fun i j hi hj hij=>?_⟩,fun o ho=>?_⟩
 ·rw [← nth_eq hi,← nth_eq hj]
  refine ⟨h.mono i j hij hj,fun hd=>⟨fun e=>?_,fun hd2 e=>h.one i j hij hj hd hd2 e.symm⟩,fun e=>⟨(h.seq i j hij hj e).1,Int.le_of_lt (h.seq i j hij hj e).2⟩⟩
  obtain ⟨r,r1,r2,r3,_⟩:=h.ret i hi hd
  obtain ⟨c,c1,c2,c3,_⟩:=h.call j hj
  have:r=c:=by omega
  subst this
  rw [r3] at c3;cases c3
 ·obtain ⟨j,hj,rfl⟩:=List.getElem_of_mem ho
  rw [← nth_eq hj]
  obtain ⟨c,_,c2,_,c4⟩:=h.call j hj
  rw [c4]
  exact (hg c c2).1
theorem zi3 {l:List OpV} (h:xn l=0):l.length≤300∧∀ o∈l,wfB o=true:=by
 unfold xn at h
 split at h
 ·cases h
 ·refine ⟨by omega,fun o ho=>?_⟩
  have key:∀ (n k:Nat),yc l k n=0→∀ j,k≤j→j<k+n→zcy l j=0:=by
   intro n
   induction n with
   | zero => intro k _ j h1 h2; omega
   | succ n ih=>
    intro k hk j h1 h2
    unfold yc at hk
    split at hk
    ·rename_i he
     rcases Nat.eq_or_lt_of_le h1 with e|e
     ·rw [← e];exact he
     ·exact ih (k+1) hk j e (by omega)
    ·rename_i he;exact absurd hk he
  obtain ⟨j,hj,rfl⟩:=List.getElem_of_mem ho
  have:=key l.length 0 h j (Nat.zero_le _) (by omega)
  rw [← nth_eq hj]
  unfold zcy at this
  by_cases hw:wfB (nth l j)=false
  ·rw [if_pos hw] at this;cases this
  ·simpa using hw
end Go.Proofs.Ytmnmakhpjgjdaaa
/-
 Consistent histories in plain Lean.
-/
namespace Go.Proofs.Ytmnmakhpjgjdaaa
set_option linter.unusedVariables false
open Go.RowKit

theorem zjq {α:Type} [Inhabited α] {l:List α} {i j:Nat} {v:α} (hi:i<l.length):nth (l.set i v) j=if j=i then v else nth l j:=by
 by_cases h:j=i
 ·subst h;rw [if_pos rfl,nth_eq (by simpa using hi)];simp
 ·rw [if_neg h]
  unfold nth
  rw [List.getD_eq_getElem?_getD,List.getD_eq_getElem?_getD,List.getElem?_set_ne (fun e=>h e.symm)]
end Go.Proofs.Ytmnmakhpjgjdaaa
/-
 The generated histories of registers: their domain,and the consistent ones,in plain Lean.
-/
namespace Go.Proofs.Ytmnmakhpjgjdaaa
set_option linter.unusedVariables false
open Go.RowKit

/-! ### histories by pairs -/
theorem zjy (l:List Int) {most:Int} (h0:0≤most) (h1:most≤20):WFH (yn l most):=by
 have hf:=zae l h0 h1
 have hw:=zi3 hf.1
 have hg:=XR l most
 have hl:=WZ l most
 have inv:=WK (Yw l) hg hl _ (Nat.le_refl _)
 exact (zkk hg hl inv.ok hf.1 hw.1 hw.2).1
theorem WFH.likes {l l' : List OpV} (h:WFH l) (hl:l'.length=l.length) (hf:∀ j,j<l.length→(nth l' j).p=(nth l j).p∧(nth l' j).k=(nth l j).k∧(nth l' j).call=(nth l j).call∧(nth l' j).ret=(nth l j).ret∧(nth l' j).done=(nth l j).done∧((nth l j).done=false→(nth l' j).res=(nth l j).res)):WFH l':=by
 refine ⟨by rw [hl];exact h.len,fun o ho=>?_,List.pairwise_iff_getElem.2 fun i j hi hj hij=>?_⟩
 ·obtain ⟨j,hj,rfl⟩:=List.getElem_of_mem ho
  rw [← nth_eq hj]
  obtain ⟨h1,h2,h3,h4,h5,h6⟩:=hf j (by omega)
  have hw:=h.at (i:=j) (by omega)
  simp only [wfB,Bool.and_eq_true,Bool.or_eq_true,decide_eq_true_eq] at hw ⊢
  rw [h1,h2,h3,h4,h5]
  refine ⟨hw.1,?_⟩
  cases hd:(nth l j).done with
  | true => exact .inl rfl
  | false => right; rw [h6 hd]; rw [hd] at hw; simpa using hw.2
 ·rw [← nth_eq hi,← nth_eq hj]
  have hp:=h.pair hij (by omega)
  obtain ⟨a1,_,a3,a4,a5,_⟩:=hf i (by omega)
  obtain ⟨b1,_,b3,b4,b5,_⟩:=hf j (by omega)
  unfold zlt at hp ⊢
  rw [a1,a3,a4,a5,b1,b3,b4,b5]
  exact hp
/-! ### the domain -/
structure zj7 (s:xW):Prop where
 kd:∀ j,j<s.out.length→(nth s.out j).k=0∨((nth s.out j).k=1∧1≤(nth s.out j).arg∧(nth s.out j).arg≤s.ws.length)
 up:∀ i j,i<j→j<s.out.length→(nth s.out i).k=1→(nth s.out j).k=1→(nth s.out i).arg<(nth s.out j).arg
theorem zj7.add {s:xW} (h:zj7 s) {o:OpV} {ws:List Int} {opn lat:List Int} (hw:s.ws.length≤ws.length) (hk:o.k=0∨(o.k=1∧o.arg=(s.ws.length:Int)+1∧s.ws.length+1≤ws.length)):zj7 ⟨s.out++[o],ws,opn,lat⟩:=by
 have old:∀ i,i<s.out.length→nth (s.out++[o]) i=nth s.out i:=fun i hi=>ym hi
 have new:nth (s.out++[o]) s.out.length=o:=yI
 refine ⟨fun j hj=>?_,fun i j hij hj h1 h2=>?_⟩
 ·dsimp only at hj ⊢
  rw [List.length_append,List.length_singleton] at hj
  by_cases e:j<s.out.length
  ·rw [old j e];have:=h.kd j e;omega
  ·obtain rfl:j=s.out.length:=by omega
   rw [new];omega
 ·dsimp only at hj h1 h2 ⊢
  rw [List.length_append,List.length_singleton] at hj
  rw [old i (by omega)] at h1 ⊢
  have hi:=h.kd i (by omega)
  by_cases e:j<s.out.length
  ·rw [old j e] at h2 ⊢;exact h.up i j hij e h1 h2
  ·obtain rfl:j=s.out.length:=by omega
   rw [new] at h2 ⊢;omega
theorem zj7.put {s:xW} (h:zj7 s) {j:Nat} {o:OpV} (h1:o.k=(nth s.out j).k) (h2:o.arg=(nth s.out j).arg):zj7 { s with out:=s.out.set j o }:=by
 have key:∀ i,i<s.out.length→(nth (s.out.set j o) i).k=(nth s.out i).k∧(nth (s.out.set j o) i).arg=(nth s.out i).arg:=fun i hi=>by
  by_cases e:j=i
  ·subst e;rw [zE hi];exact ⟨h1,h2⟩
  ·rw [zK e];exact ⟨rfl,rfl⟩
 refine ⟨fun i hi=>?_,fun a b hab hb h3 h4=>?_⟩
 ·dsimp only at hi ⊢
  rw [List.length_set] at hi
  rw [(key i hi).1,(key i hi).2];exact h.kd i hi
 ·dsimp only at hb h3 h4 ⊢
  rw [List.length_set] at hb
  rw [(key a (by omega)).1] at h3
  rw [(key b hb).1] at h4
  rw [(key a (by omega)).2,(key b hb).2]
  exact h.up a b hab hb h3 h4
theorem zdB (ev:List EvV) (fresh:Bool):∀ k,zj7 (xR ev fresh k)
 | 0 => ⟨fun j hj => absurd hj (Nat.not_lt_zero _), fun i j _ hj => absurd hj (Nat.not_lt_zero _)⟩
 | k+1=>by
  have ih:=zdB ev fresh k
  have hs:xR ev fresh (k+1)=Xc ev fresh k (xR ev fresh k):=rfl
  rw [hs]
  generalize xR ev fresh k=s at ih
  unfold Xc
  split
  ·unfold zad
   split
   ·exact ih.add (by simp) (.inr ⟨rfl,rfl,by simp⟩)
   ·exact ih.add (Nat.le_refl _) (.inl rfl)
  ·unfold zfm
   exact ih.put rfl rfl
theorem zjx (l:List Int) (most:Int):YT (yn l most):=fun i hi=>by
 have h:=zdB (xb l most) (Yw l) (xb l most).length
 change i<(xR (xb l most) (Yw l) (xb l most).length).out.length at hi
 unfold okW
 show _∨_
 unfold yn
 generalize xR (xb l most) (Yw l) (xb l most).length=s at *
 rcases h.kd i hi with h1|h1
 ·exact .inl h1
 ·refine .inr ⟨h1.1,by omega,fun j hj=>?_⟩
  cases hb:wOf (nth s.out i).key (nth s.out i).arg (nth s.out j) with
  | false => rfl
  | true =>
   obtain ⟨w1,_,w3⟩:=zaB.1 hb
   have:=h.up j i hj hi w1 h1.1
   omega
theorem zed {l l' : List OpV} (h:YT l) (hl:l'.length=l.length) (hf:∀ j,j<l.length→(nth l' j).k=(nth l j).k∧(nth l' j).key=(nth l j).key∧(nth l' j).arg=(nth l j).arg):YT l':=fun i hi=>by
 have hi' : i<l.length:=by omega
 obtain ⟨h1,h2,h3⟩:=hf i hi'
 unfold okW
 rw [h1,h2,h3]
 rcases h i hi' with h4|⟨h4,h5,h6⟩
 ·exact .inl h4
 ·refine .inr ⟨h4,h5,fun j hj=>?_⟩
  have h7:=h6 j hj
  obtain ⟨g1,g2,g3⟩:=hf j (by omega)
  unfold wOf at h7 ⊢
  rw [g1,g2,g3];exact h7
/-! ### the consistent ones -/
end Go.Proofs.Ytmnmakhpjgjdaaa
/-
 The times do not matter: a history whose calls and returns are moved has the same verdicts.
-/
namespace Go.Proofs.Ytmnmakhpjgjdaaa
set_option linter.unusedVariables false
open Go.RowKit

structure Lk (l l' : List OpV):Prop where
 len:l'.length=l.length
 at_:∀ j,(nth l' j).p=(nth l j).p∧(nth l' j).k=(nth l j).k∧(nth l' j).key=(nth l j).key∧(nth l' j).arg=(nth l j).arg∧(nth l' j).res=(nth l j).res∧(nth l' j).done=(nth l j).done
section
variable {l l' : List OpV} (h:Lk l l')
include h
theorem Lk.incl (i:Nat):xM l' i=xM l i:=by
 obtain ⟨_,a2,a3,a4,_,a6⟩:=h.at_ i
 have hany:l'.any (zju (nth l i).key (nth l i).arg)=l.any (zju (nth l i).key (nth l i).arg):=by
  rw [Bool.eq_iff_iff,zdZ,zdZ,h.len]
  refine exists_congr fun j=>and_congr_right fun _=>?_
  obtain ⟨_,b2,b3,_,b5,b6⟩:=h.at_ j
  rw [zfk,zfk,b2,b3,b5,b6]
 unfold xM
 rw [a2,a3,a4,a6,hany]
theorem Lk.inclN:inclN l' l'.length=inclN l l.length:=by
 unfold Ytmnmakhpjgjdaaa.inclN
 rw [h.len]
 congr 1
 funext i;exact h.incl i
theorem Lk.wo (a b:Int) (j:Nat):wOf a b (nth l' j)=wOf a b (nth l j):=by
 obtain ⟨_,b2,b3,b4,_,_⟩:=h.at_ j
 unfold wOf;rw [b2,b3,b4]
theorem Lk.cIx (a b:Int):cIx l' a b=cIx l a b:=by
 unfold Ytmnmakhpjgjdaaa.cIx
 rw [h.len]
 congr 1
 funext j;rw [h.wo,h.incl]
theorem Lk.fromC (i:Nat):fromC l' i=fromC l i:=by
 obtain ⟨_,b2,b3,_,b5,_⟩:=h.at_ i
 unfold Ytmnmakhpjgjdaaa.fromC
 rw [b2,b3,b5,h.cIx]
theorem Lk.nextIn (X:List Nat) (i:Nat):nextIn l' X i=nextIn l X i:=by
 unfold Ytmnmakhpjgjdaaa.nextIn
 congr 1
 funext k;rw [(h.at_ k).1,(h.at_ i).1]
theorem Lk.KC:KC l'=KC l:=by
 funext q
 unfold Ytmnmakhpjgjdaaa.KC zaJ
 rw [h.inclN]
 congr 2
 rw [h.nextIn]
 have e:(fun k=>decide (Ytmnmakhpjgjdaaa.fromC l' k=some q∧Ytmnmakhpjgjdaaa.nextIn l (Ytmnmakhpjgjdaaa.inclN l l.length) q≠some k))=(fun k=>decide (Ytmnmakhpjgjdaaa.fromC l k=some q∧Ytmnmakhpjgjdaaa.nextIn l (Ytmnmakhpjgjdaaa.inclN l l.length) q≠some k)):=by
  funext k;rw [h.fromC]
 rw [e]
theorem Lk.edC:edC l'=edC l:=by unfold Ytmnmakhpjgjdaaa.edC;rw [h.KC,h.len]
theorem Lk.labC:labC l'=labC l:=by funext a b;unfold Ytmnmakhpjgjdaaa.labC;rw [h.KC]
theorem Lk.pthC (x y:Nat):pthC l' x y=pthC l x y:=by unfold Ytmnmakhpjgjdaaa.pthC;rw [h.labC,h.edC,h.len]
theorem Lk.thinK:thinK l'=thinK l:=by
 unfold Ytmnmakhpjgjdaaa.thinK
 rw [h.inclN]
 congr 1
 funext i
 unfold WP
 obtain ⟨_,b2,_,_,b5,_⟩:=h.at_ i
 rw [b2,b5,h.fromC]
theorem Lk.cycC:cycC l'=cycC l:=by unfold Ytmnmakhpjgjdaaa.cycC;rw [h.edC,h.len]
theorem Lk.cycEd (c:List Int) (m:Nat):cycEd l' c m=cycEd l c m:=by unfold Ytmnmakhpjgjdaaa.cycEd;rw [h.labC]
theorem Lk.overC:overC l'=overC l:=by
 unfold Ytmnmakhpjgjdaaa.overC
 rw [h.inclN]
 congr 1
 funext i
 unfold Yd
 rw [h.fromC,h.inclN]
 congr 1
 funext w1
 congr 2
 funext w2
 unfold zcb
 rw [h.pthC,h.pthC,(h.at_ w2).2.1,(h.at_ w2).2.2.1,(h.at_ i).2.2.1]
theorem Lk.initC:initC l'=initC l:=by
 unfold Ytmnmakhpjgjdaaa.initC
 rw [h.inclN]
 congr 1
 funext i
 unfold ZX
 rw [(h.at_ i).2.1,(h.at_ i).2.2.2.2.1,h.inclN]
 congr 3
 funext w
 unfold zb1
 rw [h.pthC,(h.at_ w).2.1,(h.at_ w).2.2.1,(h.at_ i).2.2.1]
theorem Lk.ordK:ordK l'=ordK l:=by
 unfold Ytmnmakhpjgjdaaa.ordK
 rw [h.len,h.edC]
 congr 1
 funext x;rw [h.incl]
theorem Lk.cauR:cauR l'=cauR l:=by
 unfold Ytmnmakhpjgjdaaa.cauR
 rw [h.thinK,h.cycC,h.overC,h.initC,h.ordK]
 cases hth:Ytmnmakhpjgjdaaa.thinK l with
 | some i => dsimp only; rw [(h.at_ i).2.2.1]
 | none=>
  dsimp only
  rw [h.cycEd]
  by_cases hc:Ytmnmakhpjgjdaaa.cycC l≠[]
  ·rw [if_pos hc,if_pos hc]
  ·rw [if_neg hc,if_neg hc]
   cases Ytmnmakhpjgjdaaa.overC l with
   | some x => obtain ⟨w1, w2, i⟩ := x; dsimp only; rw [h.pthC, h.pthC, (h.at_ w2).2.2.1]
   | none =>
    dsimp only
    cases Ytmnmakhpjgjdaaa.initC l with
    | some x => obtain ⟨w, i⟩ := x; dsimp only; rw [h.pthC, (h.at_ w).2.2.1]
    | none => rfl
theorem Lk.olderB (key v u:Int):olderB l' key v u=olderB l key v u:=by
 unfold Ytmnmakhpjgjdaaa.olderB
 rw [h.cIx,h.cIx]
 split
 ·rfl
 ·cases Ytmnmakhpjgjdaaa.cIx l key v with
  | none => rfl
  | some a =>
   cases Ytmnmakhpjgjdaaa.cIx l key u with
   | none => rfl
   | some b => dsimp only; rw [(h.at_ a).1, (h.at_ b).1]
theorem Lk.sessC:sessC l'=sessC l:=by
 have hb:∀ i r,Ytmnmakhpjgjdaaa.sessB l' i r=Ytmnmakhpjgjdaaa.sessB l i r:=fun i r=>by
  funext k
  unfold sessB
  obtain ⟨a1,a2,a3,a4,a5,_⟩:=h.at_ k
  obtain ⟨b1,b2,b3,b4,b5,_⟩:=h.at_ i
  rw [h.olderB,a1,a2,a3,a4,a5,b1,b3,b5]
 unfold Ytmnmakhpjgjdaaa.sessC
 rw [h.inclN]
 congr 1
 funext i
 unfold Yj
 rw [(h.at_ i).2.1,h.inclN,hb,hb]
theorem Lk.sesR:sesR l'=sesR l:=by
 unfold Ytmnmakhpjgjdaaa.sesR
 rw [h.sessC]
 cases Ytmnmakhpjgjdaaa.sessC l with
 | none => rfl
 | some x => obtain ⟨r, k, i⟩ := x; dsimp only; rw [(h.at_ i).2.2.1]
end
/-! ### the moved history -/
def zg0 (i:Nat) (o:OpV):OpV:={ o with call:=2 * (i:Int),ret:=if o.done=true then 2 * (i:Int)+1 else 1000 }
def zge (h:List OpV):Nat→List OpV
 | 0 => h
 | k+1 => (zge h k).set k (zg0 k (nth (zge h k) k))
theorem Yz (h:List OpV):∀ k,(zge h k).length=h.length
 | 0 => rfl
 | k+1 => by show ((zge h k).set _ _).length=_; rw [List.length_set, Yz h k]
theorem US (h:List OpV):∀ k,k≤h.length→∀ j,nth (zge h k) j=if j<k then zg0 j (nth h j) else nth h j
 | 0, _, j => by rw [if_neg (Nat.not_lt_zero _)]; rfl
 | k+1,hk,j=>by
  have ih:=US h k (by omega)
  show nth ((zge h k).set k (zg0 k (nth (zge h k) k))) j=_
  have hkk:=ih k
  rw [if_neg (Nat.lt_irrefl k)] at hkk
  rw [hkk,zjq (by rw [Yz];omega)]
  by_cases e:j=k
  ·subst e;rw [if_pos rfl,if_pos (by omega)]
  ·rw [if_neg e,ih j]
   by_cases e2:j<k
   ·rw [if_pos e2,if_pos (by omega)]
   ·rw [if_neg e2,if_neg (by omega)]
def YN (h:List OpV):List OpV:=zge h h.length
theorem zjn (h:List OpV):Lk h (YN h):=⟨Yz h _,fun j=>by
 unfold YN
 rw [US h _ (Nat.le_refl _) j]
 split
 ·exact ⟨rfl,rfl,rfl,rfl,rfl,rfl⟩
 ·exact ⟨rfl,rfl,rfl,rfl,rfl,rfl⟩⟩
theorem zhR {h:List OpV} (hw:WFH h) (hl:h.length≤14):WFH (YN h):=by
 have hlen:(YN h).length=h.length:=Yz h _
 have hat:∀ j,j<h.length→nth (YN h) j=zg0 j (nth h j):=fun j hj=>by
  unfold YN;rw [US h _ (Nat.le_refl _) j,if_pos hj]
 refine ⟨by rw [hlen];exact hw.len,fun o ho=>?_,List.pairwise_iff_getElem.2 fun i j hi hj hij=>?_⟩
 ·obtain ⟨j,hj,rfl⟩:=List.getElem_of_mem ho
  rw [← nth_eq hj,hat j (by omega)]
  have h1:=hw.at (i:=j) (by omega)
  unfold zg0
  simp only [wfB,Bool.and_eq_true,Bool.or_eq_true,decide_eq_true_eq] at h1 ⊢
  refine ⟨⟨⟨⟨⟨h1.1.1.1.1.1,h1.1.1.1.1.2⟩,h1.1.1.1.2⟩,by omega⟩,?_⟩,h1.2⟩
  split <;> omega
 ·rw [← nth_eq hi,← nth_eq hj,hat i (by omega),hat j (by omega)]
  have hp:=hw.pair hij (by omega)
  unfold zlt at hp ⊢
  unfold zg0
  dsimp only
  refine ⟨by omega,fun hd=>⟨by rw [if_pos hd];omega,fun hd2=>by rw [if_pos hd,if_pos hd2];omega⟩,fun e=>?_⟩
  have h3:=(hp.2.2 e).1
  exact ⟨h3,by rw [if_pos h3];omega⟩
theorem zff {h:List OpV} (hin:∀ o∈h,Uc o) (hl:h.length≤14):∀ o∈YN h,Uc o:=fun o ho=>by
 obtain ⟨j,hj,rfl⟩:=List.getElem_of_mem ho
 have hlen:(YN h).length=h.length:=Yz h _
 rw [← nth_eq hj]
 unfold YN
 rw [US h _ (Nat.le_refl _) j,if_pos (by omega)]
 obtain ⟨q1,q2,q3,q4,q5,q6,q7⟩:=hin _ (zC (l:=h) (i:=j) (by omega))
 unfold zg0
 refine ⟨q1,q2,q3,q4,q5,by unfold I64;dsimp only;omega,?_⟩
 dsimp only
 split <;> (unfold I64;omega)
theorem zgc {h:List OpV} (hw:WFH h) (hd:YT h) (hl:h.length≤14):YJ h=0∧YJ (YN h)=0∧zha (YN h)=zha h∧ziE (YN h)=ziE h:=by
 have hL:=zjn h
 have hd2:YT (YN h):=zed hd hL.len fun j _=>⟨(hL.at_ j).2.1,(hL.at_ j).2.2.1,(hL.at_ j).2.2.2.1⟩
 have e1:YJ h=0:=by unfold YJ;rw [hw.check,if_neg (by decide),if_pos hd]
 have e2:YJ (YN h)=0:=by unfold YJ;rw [(zhR hw hl).check,if_neg (by decide),if_pos hd2]
 refine ⟨e1,e2,?_,?_⟩
 ·unfold zha;rw [e1,e2,hL.cauR]
 ·unfold ziE;rw [e1,e2,hL.sesR]
end Go.Proofs.Ytmnmakhpjgjdaaa
/-
 simprooflaw23.CausalTimes answers true for every input (walked on plain values).
-/
namespace Go.Proofs.Ytmnmakhpjgjdaaa
set_option linter.unusedVariables false
open Go.RowKit

theorem zlG {L:List OpV} {k:Nat} (hk:k<L.length) (X:List FV) (o' : OpV) (hX:X=o'.fv):∃ L2:List OpV,(L.map OpV.fv).set k X=L2.map OpV.fv∧L2.length=L.length∧nth L2 k=o'∧L2=L.set k o':=
 ⟨L.set k o',by rw [hX,List.map_set],by simp,zE hk,rfl⟩
set_option maxHeartbeats 4000000 in
theorem VI (l:List Int) (hl:∀ x∈l,I64 x) (hlen:l.length≤9223372036854775807):yl Try.prog 8 [.list 1 (l.map zy)] .fr (.bool true):=by
 obtain ⟨_,hin,hsm,hn⟩:=zae l (most:=14) (by omega) (by omega)
 have hC:=zeE l 14 hl hlen (by unfold I64;omega)
 have hd:=zjx l 14
 have hw:=zjy l (most:=14) (by omega) (by omega)
 generalize yn l 14=H at *
 have hn:H.length≤14:=by omega
 obtain ⟨e1,e2,ev,ew⟩:=zgc hw hd hn
 have hml:(YN H).length=H.length:=Yz H _
 have h1:=XZ H hn hin
 have h2:=YB H (by omega) hin
 have h3:=XZ (YN H) (by omega) (zff hin hn)
 have h4:=YB (YN H) (by omega) (zff hin hn)
 have hvl:=zi1 H hn
 have hwl:=zjI H
 rw [e1] at h1 h2
 rw [e2,ev] at h3
 rw [e2,ew] at h4
 clear e1 e2 ev ew
 obtain ⟨V,hV⟩:∃ V,zha H=V:=⟨_,rfl⟩
 obtain ⟨W,hW⟩:∃ W,ziE H=W:=⟨_,rfl⟩
 rw [hV] at h1 h3 hvl
 rw [hW] at h2 h4 hwl
 have s1:=YF V hvl.1 hvl.2
 have s2:=YF W hwl.1 hwl.2
 have hlv:=zdk
 clear hV hW
 have hat:=US H
 have hln:=Yz H
 have hst:∀ k,zge H (k+1)=(zge H k).set k (zg0 k (nth (zge H k) k)):=fun _=>rfl
 have h0:zge H 0=H:=rfl
 unfold YN at h3 h4
 obtain ⟨n,hnn⟩:∃ n,H.length=n:=⟨_,rfl⟩
 rw [hnn] at h3 h4
 generalize zge H=M at *
 unfold ziP.fv at *
 refine yl.of_body (c:=(ZJ Try.prog zH zB 95)) ⟨Try.func8,rfl,Try.ntmps8,by kernel_rfl⟩ (by simp [FV.hand]) (by exact Nat.le_of_ble_eq_true rfl) rfl ?_
 change FW _ _ _ ⟨[(0,.list 1 (l.map zy))],[]⟩
 (repeat (first|refine FW.seq ?_|refine FW.region ?_|refine zc.nil ?_|refine zb rfl rfl rfl ?_|refine za rfl rfl rfl ?_))
 refine VX hC (by repeat (first|exact zG.nil|refine zG.cons (by exact Zg.plain rfl rfl) ?_)) (List.length_map _) rfl rfl rfl ?_
 refine zc.le ?_ (FLe.share 15 rfl rfl (by rw [List.length_map]))
 (repeat (first|refine FW.seq ?_|refine FW.region ?_|refine FW.block ?_|refine zc.nil ?_|refine zb rfl rfl rfl ?_|refine za rfl rfl rfl ?_|refine zbv rfl rfl rfl rfl rfl rfl ?_|refine Wa rfl rfl (by first|rfl|(simp;omega)) rfl rfl rfl (by decide) (by exact Yq.list rfl) (by simp;omega) (by simp;omega) rfl rfl rfl ?_))
 rw [List.nil_append,List.length_map,hnn]
 refine FW.loop (fun k:Nat=>⟨[(0,.list 1 (l.map zy)),(3,.list 8 (H.map OpV.fv)),(4,.own 100 0 0 n),(5,.int .i64 k)],[(100,⟨0,.own,43,8,(M k).map OpV.fv⟩)]⟩) (fun k=>k≤n) (fun k=>n - k) 0 (Nat.zero_le _) ?_ ?_
 ·rw [h0]
  exact (FLe.cv [⟨100,some 18,0+1,⟨0,.own,43,8,H.map OpV.fv⟩⟩] (by repeat (first|exact .nil|refine .old rfl (by decide) rfl ?_)) (by repeat (first|exact .nil|refine .cons (.plain rfl rfl rfl) ?_|refine .cons (.own rfl (.head _) rfl rfl) ?_)))
 intro k hk
 have hMl:=hln k
 have hsk:=hst k
 obtain ⟨T,hT⟩:∃ T,M k=T:=⟨_,rfl⟩
 rw [hT] at hMl hsk ⊢
 (repeat (first|refine FW.seq ?_|refine FW.region ?_|refine zc.nil ?_|refine za rfl rfl rfl ?_|refine yF rfl rfl rfl (by decide) rfl rfl ?_|refine zX rfl rfl rfl rfl ?_))
 refine FW.cond rfl (fun h=>?_) (fun h=>?_)
 ·have hlt:k<n:=by simpa using h
  clear h
  have hkT:k<T.length:=by omega
  refine FW.skip ?_
  refine FW.seq ?_
  refine FW.block ?_
  refine FW.seq ?_
  refine FW.region ?_
  (repeat (first|refine zc.nil ?_|refine za rfl rfl rfl ?_|refine ziv rfl rfl (by omega) rfl rfl ?_|refine zO rfl rfl rfl rfl rfl rfl (by decide) rfl (by first|omega|(simp;omega)) rfl rfl ?_|refine zj rfl rfl rfl rfl rfl rfl (by decide) rfl rfl ?_|refine xD rfl rfl rfl rfl rfl rfl (by first|omega|(simp;omega)) (by first|exact zg (by omega)|rfl) rfl rfl rfl ?_))
  obtain ⟨L1,e1,l1,n1,s1⟩:=zlG hkT ((nth T k).fv.set (0+5) (.int .i64 (2 * (k:Int)))) { nth T k with call:=2 * (k:Int) } rfl
  rw [e1]
  have hk1:k<L1.length:=by omega
  refine FW.seq ?_
  refine FW.region ?_
  (repeat (first|refine zc.nil ?_|refine za rfl rfl rfl ?_|refine ziv rfl rfl (by omega) rfl rfl ?_|refine zO rfl rfl rfl rfl rfl rfl (by decide) rfl (by first|omega|(simp;omega)) rfl rfl ?_|refine zj rfl rfl rfl rfl rfl rfl (by decide) rfl rfl ?_|refine xD rfl rfl rfl rfl rfl rfl (by first|omega|(simp;omega)) (by first|exact zg (by omega)|rfl) rfl rfl rfl ?_|refine zq rfl rfl (by omega) rfl rfl ?_))
  obtain ⟨L2,e2,l2,n2,s2⟩:=zlG hk1 ((nth L1 k).fv.set (0+6) (.int .i64 (2 * (k:Int)+1))) { nth L1 k with ret:=2 * (k:Int)+1 } rfl
  rw [e2]
  have hk2:k<L2.length:=by omega
  have hd2:(nth L2 k).done=(nth T k).done:=by rw [n2,n1]
  (repeat (first|refine FW.seq ?_|refine FW.region ?_|refine zc.nil ?_|refine za rfl rfl rfl ?_|refine zO rfl rfl rfl rfl rfl rfl (by decide) rfl (by first|omega|(simp;omega)) rfl rfl ?_|refine zj rfl rfl rfl rfl rfl rfl (by decide) rfl rfl ?_|refine zw rfl rfl rfl rfl rfl (by first|omega|(simp;omega)) (by first|exact zg (by omega)|rfl) rfl rfl rfl rfl ?_|refine YL rfl rfl rfl ?_))
  refine FW.cond rfl (fun h=>?_) (fun h=>?_)
  ·have hf:(nth T k).done=false:=by rw [← hd2];simpa using h
   refine FW.region ?_
   (repeat (first|refine zc.nil ?_|refine za rfl rfl rfl ?_|refine zO rfl rfl rfl rfl rfl rfl (by decide) rfl (by first|omega|(simp;omega)) rfl rfl ?_|refine zj rfl rfl rfl rfl rfl rfl (by decide) rfl rfl ?_|refine xD rfl rfl rfl rfl rfl rfl (by first|omega|(simp;omega)) (by first|exact zg (by omega)|rfl) rfl rfl rfl ?_))
   obtain ⟨L3,e3,l3,n3,s3⟩:=zlG hk2 ((nth L2 k).fv.set (0+6) (.int .i64 1000)) { nth L2 k with ret:=1000 } rfl
   rw [e3]
   have hL3:L3=T.set k (zg0 k (nth T k)):=by
    rw [s3,n2,s2,n1,s1]
    simp only [List.set_set]
    unfold zg0
    rw [hf];rfl
   (repeat (first|refine FW.region ?_|refine zc.nil ?_|refine zb rfl rfl rfl ?_|refine za rfl rfl rfl ?_|refine zq rfl rfl (by omega) rfl rfl ?_))
   refine ⟨k+1,by omega,by omega,?_⟩
   rw [hsk,← hL3]
   exact (FLe.cv [⟨100,some 100,0,⟨0,.own,43,8,L3.map OpV.fv⟩⟩] (by repeat (first|exact .nil|refine .old rfl (by decide) rfl ?_)) (by repeat (first|exact .nil|refine .cons (.plain rfl rfl rfl) ?_|refine .cons (.own rfl (.head _) rfl rfl) ?_)))
  ·have hf:(nth T k).done=true:=by rw [← hd2];simpa using h
   have hL2:L2=T.set k (zg0 k (nth T k)):=by
    rw [s2,n1,s1]
    simp only [List.set_set]
    unfold zg0
    rw [hf];rfl
   (repeat (first|refine FW.region ?_|refine FW.skip ?_|refine zc.nil ?_|refine zb rfl rfl rfl ?_|refine za rfl rfl rfl ?_|refine zq rfl rfl (by omega) rfl rfl ?_))
   refine ⟨k+1,by omega,by omega,?_⟩
   rw [hsk,← hL2]
   exact (FLe.cv [⟨100,some 100,0,⟨0,.own,43,8,L2.map OpV.fv⟩⟩] (by repeat (first|exact .nil|refine .old rfl (by decide) rfl ?_)) (by repeat (first|exact .nil|refine .cons (.plain rfl rfl rfl) ?_|refine .cons (.own rfl (.head _) rfl rfl) ?_)))
 ·have hk:k=n:=by simp at h;omega
  rw [hk] at hT
  rw [hT] at h3 h4
  have hTl:T.length=n:=by omega
  refine FW.le ?_ (FLe.share 4 rfl rfl (by rw [List.length_map,hTl]))
  (repeat (first|refine FW.seq ?_|refine FW.region ?_|refine FW.exit ?_|refine za rfl rfl rfl ?_))
  refine xi h1 (by repeat (first|exact zG.nil|refine zG.cons (by exact Zg.plain rfl rfl) ?_)) rfl rfl ?_
  (repeat (first|refine FW.seq ?_|refine FW.region ?_|refine zc.nil ?_|refine zb rfl rfl rfl ?_|refine za rfl rfl rfl ?_|refine zi rfl rfl rfl rfl rfl rfl rfl rfl rfl ?_|refine zt rfl rfl rfl rfl rfl ?_|refine zD rfl rfl rfl rfl rfl rfl rfl ?_))
  refine xi h3 (by repeat (first|exact zG.nil|refine zG.cons (by exact Zg.plain rfl rfl) ?_)) rfl rfl ?_
  (repeat (first|refine FW.seq ?_|refine FW.region ?_|refine zc.nil ?_|refine zb rfl rfl rfl ?_|refine za rfl rfl rfl ?_|refine zi rfl rfl rfl rfl rfl rfl rfl rfl rfl ?_|refine zt rfl rfl rfl rfl rfl ?_|refine zD rfl rfl rfl rfl rfl rfl rfl ?_))
  refine xi h2 (by repeat (first|exact zG.nil|refine zG.cons (by exact Zg.plain rfl rfl) ?_)) rfl rfl ?_
  (repeat (first|refine FW.seq ?_|refine FW.region ?_|refine zc.nil ?_|refine zb rfl rfl rfl ?_|refine za rfl rfl rfl ?_|refine zi rfl rfl rfl rfl rfl rfl rfl rfl rfl ?_|refine zt rfl rfl rfl rfl rfl ?_|refine zD rfl rfl rfl rfl rfl rfl rfl ?_))
  refine xi h4 (by repeat (first|exact zG.nil|refine zG.cons (by exact Zg.plain rfl rfl) ?_)) rfl rfl ?_
  (repeat (first|refine FW.seq ?_|refine FW.region ?_|refine zc.nil ?_|refine zb rfl rfl rfl ?_|refine za rfl rfl rfl ?_|refine zi rfl rfl rfl rfl rfl rfl rfl rfl rfl ?_|refine zt rfl rfl rfl rfl rfl ?_|refine zD rfl rfl rfl rfl rfl rfl rfl ?_|refine yO rfl rfl rfl rfl ?_|refine zI rfl rfl rfl rfl ?_|refine za rfl rfl ⟨_,_,rfl,rfl,rfl⟩ ?_|refine yO rfl rfl rfl ⟨_,_,rfl,rfl,rfl⟩ ?_|refine yG rfl rfl rfl (by decide) rfl rfl (by simp;done) rfl rfl rfl ⟨_,_,rfl,rfl,rfl⟩ ?_))
  refine yJ s1 (by repeat (first|exact zG.nil|refine zG.cons (by exact Zg.plain rfl rfl) ?_)) rfl ⟨_,_,rfl,rfl,rfl⟩ ?_
  (repeat (first|refine za rfl rfl rfl ?_|refine zI rfl rfl rfl rfl ?_|refine yG rfl rfl rfl (by decide) rfl rfl (by simp;done) rfl rfl rfl ⟨_,_,rfl,rfl,rfl⟩ ?_))
  refine yJ s2 (by repeat (first|exact zG.nil|refine zG.cons (by exact Zg.plain rfl rfl) ?_)) rfl ⟨_,_,rfl,rfl,rfl⟩ ?_
  (repeat (first|refine za rfl rfl rfl ?_|refine zI rfl rfl rfl rfl ?_))
  refine yJ hlv (by repeat (first|exact zG.nil)) rfl ⟨_,_,rfl,rfl,rfl⟩ ?_
  (repeat (first|refine zc.nil ?_|refine zb rfl rfl rfl ?_|refine zI rfl rfl rfl rfl ?_))
  exact FW.ret ⟨.inl rfl,yb rfl rfl rfl rfl⟩
end Go.Proofs.Ytmnmakhpjgjdaaa
