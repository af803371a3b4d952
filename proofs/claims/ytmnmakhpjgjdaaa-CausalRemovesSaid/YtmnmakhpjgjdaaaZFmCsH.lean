/-
  Some texts as one: FmCsH, FmCs1, FmCs2, WfGen, ConsPlain, CauGen, CauImp, CauRem, LawCausalRemoves.
-/
import Derived.Test.YtmnmakhpjgjdaaaZD
import Derived.Test.YtmnmakhpjgjdaaaZF
import Derived.Test.YtmnmakhpjgjdaaaZFmCauE
import Derived.Test.YtmnmakhpjgjdaaaZR
import Derived.Test.YtmnmakhpjgjdaaaZFmW
import Derived.Test.YtmnmakhpjgjdaaaZOrderPlain
/-
 The generated histories of layer 20 one by one,at plain values.
-/
namespace Go.Proofs.Ytmnmakhpjgjdaaa
set_option linter.unusedVariables false
open Go.RowKit

theorem ze2 (l:List Int) (most:Int) (hl:∀ x∈l,I64 x) (hlen:l.length≤9223372036854775807) (hm:I64 most):yn Try.prog 10 [.list 1 (l.map zy),.int .i64 most] (.ow 43 8) (.list 8 ((yj l most).map OpV.fv)) where
 go:=by kernel_rfl
 hand:=rfl
 calls w I vs hI hv:=by
  obtain ⟨_,_,rfl,e1,e2⟩:=hv.inv2
  obtain ⟨A,c,rfl,_,hs⟩:=zeg.of e1 hI
  rw [e2.int_inv]
  refine (zcy A c l most w hs hl hlen hm).mono ?_
  rintro e w' ⟨A1,c1,rfl,ho,hb⟩
  exact ⟨_,rfl,hb,opT.res ho⟩
/-! ### what the registers are -/
theorem Wm (l:List Int) {most:Int} (h0:0≤most) (h1:most≤20):xw (yj l most)=0∧(∀ o∈yj l most,zaW o)∧(∀ o∈yj l most,zkz o)∧((yj l most).length:Int)≤most:=by
 have hg:=Wc l most
 have hl:=Vq l most
 have hi:=zeF l (most:=most) h0
 have inv:=Vb (YI l) hg hl _ (Nat.le_refl _)
 exact ⟨(zfw hg hl inv.ok inv.sm).1,(zfw hg hl inv.ok inv.sm).2,inv.sm,by have:=inv.ok.len;unfold yj;omega⟩
end Go.Proofs.Ytmnmakhpjgjdaaa
/-
 Verdicts of layer 23 in plain Lean;simproofref23.SameVerdict,simprooflaw23.same.
-/
namespace Go.Proofs.Ytmnmakhpjgjdaaa
set_option linter.unusedVariables false
open Go.RowKit

structure zhl where
 check:Int
 cls:Int
 arg:Int
 ord:List Int
 ed:List EdC
 deriving DecidableEq,Inhabited
def zhl.fv (v:zhl):List FV:=[.int .i64 v.check,.int .i64 v.cls,.int .i64 v.arg,.list 1 (v.ord.map zy),.list 3 (v.ed.map EdC.fv)]
def Vl (L:List Nat):List Int:=L.map fun i:Nat=>(i:Int)
def zlo (l:List OpV):zhl:=match Ug l with
 | some i => ⟨5, 2, (nth l i).key, Vl [i], []⟩
 | none=>if YU l≠[] then ⟨5,6,0,[],Xa l (YU l) (YU l).length⟩ else match WY l with
  | some (w1, w2, i) => ⟨5, 7, (nth l w2).key, Vl [w1, w2, i], ZT l w1 w2 ++ ZT l w2 i⟩
  | none => match WQ l with
   | some (w, i) => ⟨5, 8, (nth l w).key, Vl [w, i], ZT l w i⟩
   | none => ⟨5, 0, 0, zl4 l, []⟩
def zeq (l:List OpV):zhl:=if YG l≠0 then ⟨0,0,0,[],[]⟩ else zlo l
def zmj (l:List OpV):zhl:=match zi6 l with
 | some (r, k, i) => ⟨6, 9+r, (nth l i).key, Vl [k, i], []⟩
 | none => ⟨6, 0, 0, [], []⟩
def zl5 (l:List OpV):zhl:=if YG l≠0 then ⟨0,0,0,[],[]⟩ else zmj l
theorem zik (sz:Nat) (es:List (List FV)):FV.le (zkS sz es) (.list sz es):=by
 cases es with
 | nil => exact .nil sz
 | cons e es => exact .refl _
theorem zjP (L:List Nat):L.map yK=(Vl L).map zy:=by unfold Vl;rw [List.map_map];rfl
theorem zl2 {c k a:Int} {f g:FV} {o:List Int} {e:List EdC} (h1:FV.le f (.list 1 (o.map zy))) (h2:FV.le g (.list 3 (e.map EdC.fv))):FV.le (.agg [.int .i64 c,.int .i64 k,.int .i64 a,f,g]) (.agg (zhl.fv ⟨c,k,a,o,e⟩)):=
 .agg (.cons (.refl _) (.cons (.refl _) (.cons (.refl _) (.cons h1 (.cons h2 .nil)))))
theorem zaQ (c k a:Int) (o:List Nat) (e:List EdC):FV.le (.agg (VW c k a o e)) (.agg (zhl.fv ⟨c,k,a,Vl o,e⟩)):=by
 unfold VW
 refine zl2 ?_ (zik 3 _)
 rw [zjP];exact zik 1 _
theorem zhB (l:List OpV):FV.le (.agg (WC l)) (.agg (zlo l).fv):=by
 unfold WC zlo
 cases Ug l with
 | some i => exact zaQ 5 2 _ [i] []
 | none=>
  dsimp only
  by_cases h:YU l≠[]
  ·rw [if_pos h,if_pos h];exact zl2 (.nil 1) (.refl _)
  ·rw [if_neg h,if_neg h]
   cases WY l with
   | some x =>
    obtain ⟨w1,w2,i⟩:=x
    exact zaQ 5 7 _ [w1,w2,i] _
   | none=>
    dsimp only
    cases WQ l with
    | some x =>
     obtain ⟨w,i⟩:=x
     exact zaQ 5 8 _ [w,i] _
    | none => exact zl2 (.refl _) (.nil 3)
theorem zi5 (l:List OpV):FV.le (.agg (zbT l)) (.agg (zmj l).fv):=by
 unfold zbT zmj
 cases zi6 l with
 | some x =>
  obtain ⟨r,k,i⟩:=x
  exact zaQ 6 (9+r) _ [k,i] []
 | none => exact zaQ 6 0 0 [] []
theorem zkG (l:List OpV):FV.le (zkF l) (.tup [.agg (zeq l).fv,.int .i64 (YG l)]):=by
 unfold zkF zeq
 by_cases h:YG l≠0
 ·rw [if_pos h,if_pos h]
  exact .tup (.cons (zl2 (.nil 1) (.nil 3)) (.cons (.refl _) .nil))
 ·rw [if_neg h,if_neg h,show YG l=0 by simpa using h]
  exact .tup (.cons (zhB l) (.cons (.refl _) .nil))
theorem zlb (l:List OpV):FV.le (zla l) (.tup [.agg (zl5 l).fv,.int .i64 (YG l)]):=by
 unfold zla zl5
 by_cases h:YG l≠0
 ·rw [if_pos h,if_pos h]
  exact .tup (.cons (zl2 (.nil 1) (.nil 3)) (.cons (.refl _) .nil))
 ·rw [if_neg h,if_neg h,show YG l=0 by simpa using h]
  exact .tup (.cons (zi5 l) (.cons (.refl _) .nil))
theorem zjs (l:List OpV) (hl:l.length≤14):(zeq l).ord.length≤1000∧(zeq l).ed.length≤1000:=by
 unfold zeq
 split
 ·exact ⟨by simp,by simp⟩
 unfold zlo
 split
 ·exact ⟨by simp [Vl],by simp⟩
 ·split
  ·have:=zfo l
   exact ⟨by simp,by simp [Xa];omega⟩
  ·rename_i hc
   split
   ·rename_i w1 w2 i _
    have h1:=@XH l w1 w2
    have h2:=@XH l w2 i
    exact ⟨by simp [Vl],by simp;omega⟩
   ·split
    ·rename_i w i _
     have h1:=@XH l w i
     exact ⟨by simp [Vl],by dsimp only;omega⟩
    ·have hc:YU l=[]:=by simpa using hc
     have h2:=(YL (Yd l) hc).2.len
     have h3:(zl4 l).length≤(yU l.length (edC l)).length:=List.length_filter_le _ _
     exact ⟨by dsimp only;omega,by simp⟩
theorem Wl (l:List OpV) (hl:l.length≤14) (hin:∀ o∈l,zaW o):yn Try.prog 18 [.list 8 (l.map OpV.fv)] .sh (.tup [.agg (zeq l).fv,.int .i64 (YG l)]):=yn.le (zep l hl hin) (zkG l) rfl
theorem zcu (l:List OpV) (hl:l.length≤1000) (hin:∀ o∈l,zaW o):yn Try.prog 19 [.list 8 (l.map OpV.fv)] .sh (.tup [.agg (zl5 l).fv,.int .i64 (YG l)]):=yn.le (zb6 l hl hin) (zlb l) rfl
theorem zjz (x:EdC):zjl Try.prog 46 x.fv x.fv true:=by
 refine ⟨by kernel_rfl,fun w=>?_⟩
 obtain ⟨a1,a2,a3⟩:=x
 show (Op.equalIn 10000 46 (.agg #[.int .i64 (a1:Int),.int .i64 (a2:Int),.int .i64 (a3:Int)]) (.agg #[.int .i64 (a1:Int),.int .i64 (a2:Int),.int .i64 (a3:Int)])).run Try.prog w=_
 have hS:Try.prog.underlying 46=some (.struct (Try.prog.fieldsOf 46)):=by kernel_rfl
 have hp:Try.prog.stoodInHeld 46=false:=by kernel_rfl
 rw [show (10000:Nat)=9999+1 from rfl,run_equalIn_agg w 9999 46 _ _ hS hp]
 simp only [Program.fieldsOf,Try.underlying46]
 simp [go_sem]
set_option maxHeartbeats 4000000 in
theorem zaH (V:zhl) (h1:V.ord.length≤1000) (h2:V.ed.length≤1000):yn Try.prog 22 [.agg V.fv,.agg V.fv] .fr (.bool true):=by
 have hs1:=zcF V.ord V.ord (by omega) (by omega)
 rw [decide_eq_true rfl] at hs1
 obtain ⟨ck,cls,arg,O,E⟩:=V
 dsimp only at h1 h2 hs1
 obtain ⟨n,hn⟩:∃ n,E.length=n:=⟨_,rfl⟩
 obtain ⟨X,hX⟩:∃ X,O.map zy=X:=⟨_,rfl⟩
 show yn _ _ [.agg [.int .i64 ck,.int .i64 cls,.int .i64 arg,.list 1 (O.map zy),.list 3 (E.map EdC.fv)],.agg [.int .i64 ck,.int .i64 cls,.int .i64 arg,.list 1 (O.map zy),.list 3 (E.map EdC.fv)]] _ _
 rw [hX] at hs1 ⊢
 refine yn.of_body (c:=(ZO Try.prog zI zA 67)) ⟨Try.func22,rfl,Try.ntmps22,by kernel_rfl⟩ (by simp [FV.hand]) (by exact Nat.le_of_ble_eq_true rfl) rfl ?_
 change FW _ _ _ ⟨[(0,.agg [.int .i64 ck,.int .i64 cls,.int .i64 arg,.list 1 X,.list 3 (E.map EdC.fv)]),(1,.agg [.int .i64 ck,.int .i64 cls,.int .i64 arg,.list 1 X,.list 3 (E.map EdC.fv)])],[]⟩
 (repeat (first|refine FW.seq ?_|refine FW.region ?_|refine zc.nil ?_|refine zk3 rfl rfl rfl rfl rfl rfl rfl ?_|refine zb rfl rfl rfl ?_|refine zi rfl rfl rfl rfl rfl rfl (by decide) rfl rfl ?_|refine zq rfl rfl rfl rfl rfl (by simp;done) rfl rfl rfl rfl rfl ?_|refine xt rfl rfl rfl rfl ?_|refine za rfl rfl rfl ?_))
 refine yc (fun h=>absurd rfl (of_decide_eq_true h)) (fun h=>?_)
 (repeat (first|refine za rfl rfl rfl ?_|refine zK rfl rfl rfl rfl ?_|refine zi rfl rfl rfl rfl rfl rfl (by decide) rfl ⟨_,_,rfl,rfl,rfl⟩ ?_|refine zq rfl rfl rfl rfl rfl (by simp;done) rfl rfl rfl rfl ⟨_,_,rfl,rfl,rfl⟩ ?_|refine xt rfl rfl rfl ⟨_,_,rfl,rfl,rfl⟩ ?_))
 refine yc (fun h=>absurd rfl (of_decide_eq_true h)) (fun h=>?_)
 (repeat (first|refine za rfl rfl rfl ?_|refine zK rfl rfl rfl rfl ?_|refine zi rfl rfl rfl rfl rfl rfl (by decide) rfl ⟨_,_,rfl,rfl,rfl⟩ ?_|refine zq rfl rfl rfl rfl rfl (by simp;done) rfl rfl rfl rfl ⟨_,_,rfl,rfl,rfl⟩ ?_|refine xt rfl rfl rfl ⟨_,_,rfl,rfl,rfl⟩ ?_))
 refine yc (fun h=>absurd rfl (of_decide_eq_true h)) (fun h=>?_)
 (repeat (first|refine zi rfl rfl rfl rfl rfl rfl (by decide) rfl ⟨_,_,rfl,rfl,rfl⟩ ?_|refine zq rfl rfl rfl rfl rfl (by simp;done) rfl rfl rfl rfl ⟨_,_,rfl,rfl,rfl⟩ ?_))
 refine yu hs1 (by repeat (first|exact zG.nil|refine zG.cons (by exact Zq.plain rfl rfl) ?_)) rfl ⟨_,_,rfl,rfl,rfl⟩ ?_
 (repeat (first|refine zc.nil ?_|refine za rfl rfl rfl ?_|refine zK rfl rfl rfl rfl ?_|refine zi rfl rfl rfl rfl rfl rfl (by decide) rfl ⟨_,_,rfl,rfl,rfl⟩ ?_|refine zq rfl rfl rfl rfl rfl (by simp;done) rfl rfl rfl rfl ⟨_,_,rfl,rfl,rfl⟩ ?_|refine xt rfl rfl rfl ⟨_,_,rfl,rfl,rfl⟩ ?_|refine Xn rfl rfl ⟨_,_,rfl,rfl,rfl⟩ ?_|refine zp rfl rfl (by first|exact List.length_map _|rfl|(simp;done)) rfl ⟨_,_,rfl,rfl,rfl⟩ ?_))
 refine FW.cond rfl (fun h=>absurd rfl (of_decide_eq_true h)) (fun h=>?_)
 clear h
 (repeat (first|refine FW.seq ?_|refine FW.region ?_|refine FW.block ?_|refine FW.skip ?_|refine zc.nil ?_|refine zb rfl rfl rfl ?_))
 refine FW.loop (fun j:Nat=>⟨[(2,.ptr 102 0 0 0),(3,.ptr 103 0 0 0),(5,.int .i64 j)],[(102,⟨0,.own,36,5,[[.int .i64 ck,.int .i64 cls,.int .i64 arg,.list 1 X,.list 3 (E.map EdC.fv)]]⟩),(103,⟨0,.own,36,5,[[.int .i64 ck,.int .i64 cls,.int .i64 arg,.list 1 X,.list 3 (E.map EdC.fv)]]⟩)]⟩) (fun j=>j≤n) (fun j=>n - j) 0 (Nat.zero_le _) (FLe.cv [⟨102,some 2,0+1,⟨0,.own,36,5,[[.int .i64 ck,.int .i64 cls,.int .i64 arg,.list 1 X,.list 3 (E.map EdC.fv)]]⟩⟩,⟨103,some 3,0+1,⟨0,.own,36,5,[[.int .i64 ck,.int .i64 cls,.int .i64 arg,.list 1 X,.list 3 (E.map EdC.fv)]]⟩⟩] (by repeat (first|exact .nil|refine .old rfl (by decide) rfl ?_)) (by repeat (first|exact .nil|refine .cons (.plain rfl rfl rfl) ?_|refine .cons (.ptr rfl (.head _) rfl) ?_|refine .cons (.ptr rfl (.tail _ (.head _)) rfl) ?_))) ?_
 intro j hj
 (repeat (first|refine FW.seq ?_|refine FW.region ?_|refine zc.nil ?_|refine zi rfl rfl rfl rfl rfl rfl (by decide) rfl rfl ?_|refine zq rfl rfl rfl rfl rfl (by simp;done) rfl rfl rfl rfl rfl ?_|refine za rfl rfl rfl ?_|refine zp rfl rfl (by first|exact List.length_map _|rfl|(simp;done)) rfl rfl ?_|refine zX rfl rfl rfl rfl ?_))
 refine FW.cond rfl (fun h=>?_) (fun h=>?_)
 ·have hlt:j<E.length:=by simpa using h
  (repeat (first|refine FW.seq ?_|refine FW.block ?_|refine FW.skip ?_|refine FW.draw ?_|refine xA rfl rfl rfl rfl rfl rfl (by decide) rfl rfl ?_|refine yJ rfl rfl rfl rfl rfl (by first|(simp;omega)|(simp;done)) (by first|exact zf (by omega)|rfl) rfl rfl rfl rfl ?_|refine ziD rfl rfl rfl (by decide) (by first|(simp;omega)|(simp;done)) (by first|exact zf (by omega)|rfl) rfl rfl rfl ?_|refine zS rfl rfl rfl ?_|refine ZI rfl rfl rfl rfl rfl rfl (by first|(simp;omega)|(simp;done)) rfl rfl ?_))
  refine zlP rfl rfl rfl rfl (zjz (nth E j)) rfl rfl ?_
  (repeat (first|refine zF.nil ?_))
  refine ⟨by kernel_rfl,?_⟩
  (repeat (first|refine FW.region ?_|refine FW.skip ?_|refine FW.condF rfl ?_|refine zc.nil ?_|refine zb rfl rfl rfl ?_|refine za rfl rfl rfl ?_|refine zu rfl rfl (by omega) rfl rfl ?_))
  exact ⟨j+1,by omega,by omega,(FLe.cv [⟨102,some 102,0,⟨0,.own,36,5,[[.int .i64 ck,.int .i64 cls,.int .i64 arg,.list 1 X,.list 3 (E.map EdC.fv)]]⟩⟩,⟨103,some 103,0,⟨0,.own,36,5,[[.int .i64 ck,.int .i64 cls,.int .i64 arg,.list 1 X,.list 3 (E.map EdC.fv)]]⟩⟩] (by repeat (first|exact .nil|refine .old rfl (by decide) rfl ?_)) (by repeat (first|exact .nil|refine .cons (.plain rfl rfl rfl) ?_|refine .cons (.ptr rfl (.head _) rfl) ?_|refine .cons (.ptr rfl (.tail _ (.head _)) rfl) ?_)))⟩
 ·(repeat (first|refine FW.seq ?_|refine FW.region ?_|refine FW.exit ?_|refine zc.nil ?_|refine zb rfl rfl rfl ?_))
  exact FW.ret ⟨.inl rfl,zU rfl rfl rfl rfl⟩
end Go.Proofs.Ytmnmakhpjgjdaaa
/-
 simprooflaw23.lives.
-/
namespace Go.Proofs.Ytmnmakhpjgjdaaa
set_option linter.unusedVariables false
open Go.RowKit

def zkQ:List OpV:=[⟨0,1,3,1,0,0,1,true⟩,⟨0,0,3,0,0,2,3,true⟩]
theorem zmc:zeq zkQ=⟨5,8,3,[0,1],[(0,1,1)]⟩:=by decide +kernel
theorem zmb:zl5 zkQ=⟨6,9,3,[0,1],[]⟩:=by decide +kernel
theorem zlC:YG zkQ=0:=by decide +kernel
theorem zih:∀ o∈zkQ,zaW o:=fun o ho=>by simp only [zkQ,List.mem_cons,List.not_mem_nil,or_false] at ho;rcases ho with rfl|rfl <;> (unfold zaW I64;decide)
set_option maxHeartbeats 4000000 in
theorem zdD:yn Try.prog 15 [] .fr (.bool true):=by
 have hA:=Wl zkQ (by decide) zih
 have hB:=zcu zkQ (by decide) zih
 rw [zmc,zlC] at hA
 rw [zmb,zlC] at hB
 change yn _ _ [.list 8 [OpV.fv ⟨0,1,3,1,0,0,1,true⟩,OpV.fv ⟨0,0,3,0,0,2,3,true⟩]] _ (.tup [.agg [.int .i64 5,.int .i64 8,.int .i64 3,.list 1 ([0,1].map zy),.list 3 [[.int .i64 0,.int .i64 1,.int .i64 1]]],.int .i64 0]) at hA
 change yn _ _ [.list 8 [OpV.fv ⟨0,1,3,1,0,0,1,true⟩,OpV.fv ⟨0,0,3,0,0,2,3,true⟩]] _ (.tup [.agg [.int .i64 6,.int .i64 9,.int .i64 3,.list 1 ([0,1].map zy),.list 3 []],.int .i64 0]) at hB
 have s1:=zaH ⟨5,8,3,[0,1],[(0,1,1)]⟩ (by decide) (by decide)
 have s2:=zaH ⟨6,9,3,[0,1],[]⟩ (by decide) (by decide)
 change yn _ _ [.agg [.int .i64 5,.int .i64 8,.int .i64 3,.list 1 ([0,1].map zy),.list 3 [[.int .i64 0,.int .i64 1,.int .i64 1]]],.agg [.int .i64 5,.int .i64 8,.int .i64 3,.list 1 ([0,1].map zy),.list 3 [[.int .i64 0,.int .i64 1,.int .i64 1]]]] _ _ at s1
 change yn _ _ [.agg [.int .i64 6,.int .i64 9,.int .i64 3,.list 1 ([0,1].map zy),.list 3 []],.agg [.int .i64 6,.int .i64 9,.int .i64 3,.list 1 ([0,1].map zy),.list 3 []]] _ _ at s2
 refine yn.of_body (c:=(ZO Try.prog zI zA 45)) ⟨Try.func15,rfl,Try.ntmps15,by kernel_rfl⟩ (by simp [FV.hand]) (by exact Nat.le_of_ble_eq_true rfl) rfl ?_
 change FW _ _ _ ⟨[],[]⟩
 (repeat (first|refine FW.seq ?_|refine FW.region ?_|refine zc.nil ?_|refine zb rfl rfl rfl ?_|refine zT rfl rfl rfl rfl ?_|refine zV.nil ?_|refine zV.one rfl rfl rfl rfl rfl ?_))
 refine Vc (es:=[OpV.fv ⟨0,1,3,1,0,0,1,true⟩,OpV.fv ⟨0,0,3,0,0,2,3,true⟩]) rfl rfl rfl (by refine xQ.agg rfl rfl rfl ?_;refine xQ.agg rfl rfl rfl ?_;exact xQ.nil) rfl rfl rfl rfl rfl rfl ?_
 refine zc.le ?_ (FLe.share 10 rfl rfl (by rfl))
 (repeat (first|refine FW.seq ?_|refine FW.region ?_|refine zc.nil ?_|refine zb rfl rfl rfl ?_|refine za rfl rfl rfl ?_))
 refine xJ hA (by repeat (first|exact zG.nil|refine zG.cons (by exact Zq.plain rfl rfl) ?_)) rfl rfl ?_
 (repeat (first|refine FW.seq ?_|refine FW.region ?_|refine zc.nil ?_|refine zb rfl rfl rfl ?_|refine za rfl rfl rfl ?_|refine zw rfl rfl rfl rfl rfl ?_|refine zD rfl rfl rfl rfl rfl rfl rfl ?_|refine zm rfl rfl rfl rfl rfl rfl rfl rfl rfl ?_))
 refine xJ hB (by repeat (first|exact zG.nil|refine zG.cons (by exact Zq.plain rfl rfl) ?_)) rfl rfl ?_
 (repeat (first|refine FW.seq ?_|refine FW.region ?_|refine zc.nil ?_|refine zb rfl rfl rfl ?_|refine za rfl rfl rfl ?_|refine zw rfl rfl rfl rfl rfl ?_|refine zD rfl rfl rfl rfl rfl rfl rfl ?_|refine zm rfl rfl rfl rfl rfl rfl rfl rfl rfl ?_))
 refine Vc (es:=[0,1].map zy) rfl rfl rfl (by refine xQ.int rfl rfl ?_;refine xQ.int rfl rfl ?_;exact xQ.nil) rfl rfl rfl rfl rfl rfl ?_
 refine zc.le ?_ (FLe.share 21 rfl rfl rfl)
 refine zT rfl rfl rfl rfl ?_
 refine zV.one rfl rfl rfl rfl rfl ?_
 refine zV.one rfl rfl rfl rfl rfl ?_
 refine zV.one rfl rfl rfl rfl rfl ?_
 refine zV.nil ?_
 refine Vc (es:=[[.int .i64 0,.int .i64 1,.int .i64 1]]) rfl rfl rfl (by refine xQ.agg rfl rfl rfl ?_;exact xQ.nil) rfl rfl rfl rfl rfl rfl ?_
 refine zc.le ?_ (FLe.share 23 rfl rfl rfl)
 (repeat (first|refine FW.seq ?_|refine FW.region ?_|refine zc.nil ?_|refine zT rfl rfl rfl rfl ?_|refine zD rfl rfl rfl rfl rfl rfl rfl ?_|refine zm rfl rfl rfl rfl rfl rfl rfl rfl rfl ?_|refine zV.nil ?_|refine zV.one rfl rfl rfl rfl rfl ?_|refine zV.agg rfl rfl rfl rfl (List.cons_ne_nil _ _) rfl ?_))
 refine Vc (es:=[0,1].map zy) rfl rfl rfl (by refine xQ.int rfl rfl ?_;refine xQ.int rfl rfl ?_;exact xQ.nil) rfl rfl rfl rfl rfl rfl ?_
 refine zc.le ?_ (FLe.share 26 rfl rfl rfl)
 (repeat (first|refine FW.seq ?_|refine FW.region ?_|refine zc.nil ?_|refine zT rfl rfl rfl rfl ?_|refine za rfl rfl rfl ?_|refine zD rfl rfl rfl rfl rfl rfl rfl ?_|refine zm rfl rfl rfl rfl rfl rfl rfl rfl rfl ?_|refine yG rfl rfl rfl rfl ?_|refine zJ rfl rfl rfl rfl ?_|refine za rfl rfl ⟨_,_,rfl,rfl,rfl⟩ ?_|refine yG rfl rfl rfl ⟨_,_,rfl,rfl,rfl⟩ ?_|refine yX rfl rfl rfl (by decide) rfl rfl (by simp;done) rfl rfl rfl ⟨_,_,rfl,rfl,rfl⟩ ?_|refine zV.nil ?_|refine zV.one rfl rfl rfl rfl rfl ?_|refine zV.agg rfl rfl rfl rfl (List.cons_ne_nil _ _) rfl ?_))
 refine yu s1 (by repeat (first|exact zG.nil|refine zG.cons (by exact Zq.plain rfl rfl) ?_)) rfl ⟨_,_,rfl,rfl,rfl⟩ ?_
 (repeat (first|refine za rfl rfl rfl ?_|refine zJ rfl rfl rfl rfl ?_|refine yX rfl rfl rfl (by decide) rfl rfl (by simp;done) rfl rfl rfl ⟨_,_,rfl,rfl,rfl⟩ ?_))
 refine yu s2 (by repeat (first|exact zG.nil|refine zG.cons (by first|exact Zq.plain rfl rfl|exact Zq.sub rfl rfl (by repeat (first|exact FV.le.refl _|exact FV.le.nil _|refine FV.le.agg ?_|refine FV.le.tup ?_|exact LeL.nil|refine LeL.cons ?_ ?_|exact FV.le.undef _))) ?_)) rfl ⟨_,_,rfl,rfl,rfl⟩ ?_
 (repeat (first|refine zc.nil ?_|refine zb rfl rfl rfl ?_|refine zJ rfl rfl rfl rfl ?_))
 exact FW.ret ⟨.inl rfl,zU rfl rfl rfl rfl⟩
end Go.Proofs.Ytmnmakhpjgjdaaa
/-
 Generated histories and checked ones,by pairs.
-/
namespace Go.Proofs.Ytmnmakhpjgjdaaa
set_option linter.unusedVariables false

theorem zkL {ev:List EvV} {out:List OpV} {opn:List Int} (hg:YY ev) (hl:ev.length≤40) (h:XM ev ev.length out opn) (hc:xw out=0) (h300:out.length≤300) (hw:∀ o∈out,wfB o=true):WFH out∧∀ o∈out,0≤o.p∧o.p<4:=by
 refine ⟨⟨h300,hw,List.pairwise_iff_getElem.2 fun i j hi hj hij=>?_⟩,fun o ho=>?_⟩
 ·rw [← nth_eq hi,← nth_eq hj]
  refine ⟨h.mono i j hij hj,fun hd=>⟨fun e=>?_,fun hd2 e=>h.one i j hij hj hd hd2 e.symm⟩,fun e=>⟨(h.seq i j hij hj e).1,Int.le_of_lt (h.seq i j hij hj e).2⟩⟩
  obtain ⟨r,r1,r2,r3,_⟩:=h.ret i hi hd
  obtain ⟨c,c1,c2,c3,_⟩:=h.call j hj
  have:r=c:=by omega
  subst this
  rw [r3] at c3;cases c3
 ·obtain ⟨j,hj,rfl⟩:=List.getElem_of_mem ho
  rw [← nth_eq hj]
  obtain ⟨c,_,c2,_,c4⟩:=h.call j hj
  rw [c4]
  exact (hg c c2).1
theorem zju {l:List OpV} (h:xw l=0):l.length≤300∧∀ o∈l,wfB o=true:=by
 unfold xw at h
 split at h
 ·cases h
 ·refine ⟨by omega,fun o ho=>?_⟩
  have key:∀ (n k:Nat),yf l k n=0→∀ j,k≤j→j<k+n→zcQ l j=0:=by
   intro n
   induction n with
   | zero => intro k _ j h1 h2; omega
   | succ n ih=>
    intro k hk j h1 h2
    unfold yf at hk
    split at hk
    ·rename_i he
     rcases Nat.eq_or_lt_of_le h1 with e|e
     ·rw [← e];exact he
     ·exact ih (k+1) hk j e (by omega)
    ·rename_i he;exact absurd hk he
  obtain ⟨j,hj,rfl⟩:=List.getElem_of_mem ho
  have:=key l.length 0 h j (Nat.zero_le _) (by omega)
  rw [← nth_eq hj]
  unfold zcQ at this
  by_cases hw:wfB (nth l j)=false
  ·rw [if_pos hw] at this;cases this
  ·simpa using hw
end Go.Proofs.Ytmnmakhpjgjdaaa
/-
 Consistent histories in plain Lean.
-/
namespace Go.Proofs.Ytmnmakhpjgjdaaa
set_option linter.unusedVariables false
open Go.RowKit

end Go.Proofs.Ytmnmakhpjgjdaaa
/-
 The generated histories of registers: their domain,and the consistent ones,in plain Lean.
-/
namespace Go.Proofs.Ytmnmakhpjgjdaaa
set_option linter.unusedVariables false
open Go.RowKit

/-! ### histories by pairs -/
theorem zjY (l:List Int) {most:Int} (h0:0≤most) (h1:most≤20):WFH (yj l most):=by
 have hf:=Wm l h0 h1
 have hw:=zju hf.1
 have hg:=Wc l most
 have hl:=Vq l most
 have inv:=Vb (YI l) hg hl _ (Nat.le_refl _)
 exact (zkL hg hl inv.ok hf.1 hw.1 hw.2).1
/-! ### the domain -/
structure zky (s:Zd):Prop where
 kd:∀ j,j<s.out.length→(nth s.out j).k=0∨((nth s.out j).k=1∧1≤(nth s.out j).arg∧(nth s.out j).arg≤s.ws.length)
 up:∀ i j,i<j→j<s.out.length→(nth s.out i).k=1→(nth s.out j).k=1→(nth s.out i).arg<(nth s.out j).arg
theorem zky.add {s:Zd} (h:zky s) {o:OpV} {ws:List Int} {opn lat:List Int} (hw:s.ws.length≤ws.length) (hk:o.k=0∨(o.k=1∧o.arg=(s.ws.length:Int)+1∧s.ws.length+1≤ws.length)):zky ⟨s.out++[o],ws,opn,lat⟩:=by
 have old:∀ i,i<s.out.length→nth (s.out++[o]) i=nth s.out i:=fun i hi=>yq hi
 have new:nth (s.out++[o]) s.out.length=o:=yL
 refine ⟨fun j hj=>?_,fun i j hij hj h1 h2=>?_⟩
 ·dsimp only at hj ⊢
  rw [List.length_append,List.length_singleton] at hj
  by_cases e:j<s.out.length
  ·rw [old j e];have:=h.kd j e;omega
  ·obtain rfl:j=s.out.length:=by omega
   rw [new];omega
 ·dsimp only at hj h1 h2 ⊢
  rw [List.length_append,List.length_singleton] at hj
  rw [old i (by omega)] at h1 ⊢
  have hi:=h.kd i (by omega)
  by_cases e:j<s.out.length
  ·rw [old j e] at h2 ⊢;exact h.up i j hij e h1 h2
  ·obtain rfl:j=s.out.length:=by omega
   rw [new] at h2 ⊢;omega
theorem zky.put {s:Zd} (h:zky s) {j:Nat} {o:OpV} (h1:o.k=(nth s.out j).k) (h2:o.arg=(nth s.out j).arg):zky { s with out:=s.out.set j o }:=by
 have key:∀ i,i<s.out.length→(nth (s.out.set j o) i).k=(nth s.out i).k∧(nth (s.out.set j o) i).arg=(nth s.out i).arg:=fun i hi=>by
  by_cases e:j=i
  ·subst e;rw [zH hi];exact ⟨h1,h2⟩
  ·rw [zM e];exact ⟨rfl,rfl⟩
 refine ⟨fun i hi=>?_,fun a b hab hb h3 h4=>?_⟩
 ·dsimp only at hi ⊢
  rw [List.length_set] at hi
  rw [(key i hi).1,(key i hi).2];exact h.kd i hi
 ·dsimp only at hb h3 h4 ⊢
  rw [List.length_set] at hb
  rw [(key a (by omega)).1] at h3
  rw [(key b hb).1] at h4
  rw [(key a (by omega)).2,(key b hb).2]
  exact h.up a b hab hb h3 h4
theorem zdU (ev:List EvV) (fresh:Bool):∀ k,zky (xX ev fresh k)
 | 0 => ⟨fun j hj => absurd hj (Nat.not_lt_zero _), fun i j _ hj => absurd hj (Nat.not_lt_zero _)⟩
 | k+1=>by
  have ih:=zdU ev fresh k
  have hs:xX ev fresh (k+1)=Xk ev fresh k (xX ev fresh k):=rfl
  rw [hs]
  generalize xX ev fresh k=s at ih
  unfold Xk
  split
  ·unfold zar
   split
   ·exact ih.add (by simp) (.inr ⟨rfl,rfl,by simp⟩)
   ·exact ih.add (Nat.le_refl _) (.inl rfl)
  ·unfold zfK
   exact ih.put rfl rfl
theorem zfM (l:List Int) (most:Int):YV (yj l most):=fun i hi=>by
 have h:=zdU (xi l most) (YI l) (xi l most).length
 change i<(xX (xi l most) (YI l) (xi l most).length).out.length at hi
 unfold okW
 show _∨_
 unfold yj
 generalize xX (xi l most) (YI l) (xi l most).length=s at *
 rcases h.kd i hi with h1|h1
 ·exact .inl h1
 ·refine .inr ⟨h1.1,by omega,fun j hj=>?_⟩
  cases hb:wOf (nth s.out i).key (nth s.out i).arg (nth s.out j) with
  | false => rfl
  | true =>
   obtain ⟨w1,_,w3⟩:=Ye.1 hb
   have:=h.up j i hj hi w1 h1.1
   omega
theorem ziL (l:List Int) {most:Int} (h0:0≤most) (h1:most≤20):YG (yj l most)=0:=by
 unfold YG
 rw [(Wm l h0 h1).1,if_neg (by decide),if_pos (zfM l most)]
/-! ### the consistent ones -/
end Go.Proofs.Ytmnmakhpjgjdaaa
/-
 A violation of the sessions is one of causal consistency,in plain Lean.
-/
namespace Go.Proofs.Ytmnmakhpjgjdaaa
set_option linter.unusedVariables false
open Go.RowKit

theorem zge {X:List Nat} (hX:X.Pairwise (· < ·)) {p:Nat→Bool} {b:Nat} (hb:b∈X) (hp:p b=true):∃ c,X.find? p=some c∧c≤b:=by
 cases h:X.find? p with
 | none => have := List.find?_eq_none.1 h b hb; exact absurd hp this
 | some c=>
  refine ⟨c,rfl,?_⟩
  obtain ⟨_,ua,ub,e,hn⟩:=List.find?_eq_some_iff_append.1 h
  rw [e] at hb hX
  rcases List.mem_append.1 hb with h1|h1
  ·have:=hn b h1;rw [hp] at this;cases this
  ·rcases List.mem_cons.1 h1 with rfl|h1
   ·exact Nat.le_refl _
   ·exact Nat.le_of_lt ((List.pairwise_cons.1 (List.pairwise_append.1 hX).2.1).1 b h1)
theorem zeb {l:List OpV} {b:Nat} (hb:b∈zE l l.length):∀ (m a:Nat),b - a≤m→a∈zE l l.length→a<b→(nth l a).p=(nth l b).p→∃ k,wkB (edC l) b (k+1) a=true
 | 0, a, hm, _, hab, _ => by omega
 | m+1,a,hm,ha,hab,hp=>by
  obtain ⟨c,hc,hcb⟩:=zge (UZ l l.length) (p:=fun k=>decide (a<k) && decide ((nth l k).p=(nth l a).p)) hb (by simp [hab,hp])
  have hc:yp l (zE l l.length) a=some c:=hc
  obtain ⟨h1,h2,h3⟩:=Yn hc
  have he:(a,c)∈edC l:=Wb.2 ⟨ha,h1,.inl hc⟩
  by_cases hcb2:c=b
  ·subst hcb2
   exact ⟨0,xB.2 ⟨c,he,Zb.2 rfl⟩⟩
  ·obtain ⟨k,hk⟩:=zeb hb m c (by omega) h1 (by omega) (h3.trans hp)
   exact ⟨k+1,xB.2 ⟨c,he,hk⟩⟩
theorem zkn (l:List OpV):∀ e∈edC l,e.1<l.length:=fun e he=>(zbk l e he).1
theorem zeX {l:List OpV} {x t k:Nat} (ht:t<l.length) (hxt:x≠t) (h:wkB (edC l) t k x=true):ZT l x t≠[]:=by
 rw [zeY]
 exact (zkV (zkn l) ht hxt).2 ⟨k,h⟩
theorem Vw {α:Type} {L:List α} (h:L≠[]):(!L.isEmpty)=true:=by cases L with
 | nil => exact absurd rfl h
 | cons _ _ => rfl
theorem zhO {α:Type} {X:List α} {p:α→Bool} {b:α} (hb:b∈X) (hp:p b=true):X.find? p≠none:=fun h=>by
 have:=List.find?_eq_none.1 h b hb;exact this hp
theorem zkU {l:List OpV} {w1 w2 i k1 k2:Nat} (hi:i∈zE l l.length) (hf:xh l i=some w1) (h2:w2∈zE l l.length) (hk:(nth l w2).k=1) (hkey:(nth l w2).key=(nth l i).key) (hne:w2≠w1) (hp1:wkB (edC l) w2 k1 w1=true) (hp2:wkB (edC l) i k2 w2=true):WY l≠none:=by
 intro h
 unfold WY at h
 rw [List.findSome?_eq_none_iff] at h
 have h3:=h i hi
 unfold ZZ at h3
 rw [hf,Option.bind_some,Option.map_eq_none_iff] at h3
 obtain ⟨_,k0,_⟩:=WL hf
 refine zhO h2 ?_ h3
 unfold zba
 rw [decide_eq_true hk,decide_eq_true hkey,decide_eq_true hne,Vw (zeX (yT h2) (fun e=>hne e.symm) hp1),Vw (zeX (yT hi) (fun e=>by rw [e] at hk;omega) hp2)]
 rfl
theorem zkM {l:List OpV} {w i k:Nat} (hi:i∈zE l l.length) (h0:(nth l i).k=0) (hr:(nth l i).res=0) (h2:w∈zE l l.length) (hk:(nth l w).k=1) (hkey:(nth l w).key=(nth l i).key) (hp:wkB (edC l) i k w=true):WQ l≠none:=by
 intro h
 unfold WQ at h
 rw [List.findSome?_eq_none_iff] at h
 have h3:=h i hi
 unfold ZY at h3
 rw [if_neg (by simp [h0,hr]),Option.map_eq_none_iff] at h3
 refine zhO h2 ?_ h3
 unfold za8
 rw [decide_eq_true hk,decide_eq_true hkey,Vw (zeX (yT hi) (fun e=>by rw [e] at hk;omega) hp)]
 rfl
theorem zjd {l:List OpV} (h:Ug l=none) {i:Nat} (hi:i∈zE l l.length) (h0:(nth l i).k=0) (hr:(nth l i).res≠0):∃ w,xh l i=some w:=by
 have h1:=List.find?_eq_none.1 h i hi
 unfold XW at h1
 rw [decide_eq_true h0,decide_eq_true hr] at h1
 cases hf:xh l i with
 | none => rw [hf] at h1; exact absurd rfl h1
 | some w => exact ⟨w, rfl⟩
theorem zh5 {l:List OpV} (he:YG l=0):(zeq l).cls=0↔Ug l=none∧YU l=[]∧WY l=none∧WQ l=none:=by
 unfold zeq
 rw [if_neg (by simp [he])]
 unfold zlo
 cases Ug l with
 | some i => simp
 | none=>
  by_cases hc:YU l=[]
  ·rw [if_neg (by simp [hc])]
   cases WY l with
   | some x => simp
   | none =>
    cases WQ l with
    | some x => simp
    | none => simp [hc]
  ·rw [if_pos hc];simp [hc]
end Go.Proofs.Ytmnmakhpjgjdaaa
/-
 An unused read can go: what violates causal consistency stays,in plain Lean.
-/
namespace Go.Proofs.Ytmnmakhpjgjdaaa
set_option linter.unusedVariables false
open Go.RowKit

def skp (k i:Nat):Nat:=if i<k then i else i+1
theorem zkw {k i j:Nat}:skp k i<skp k j↔i<j:=by unfold skp;split <;> split <;> omega
theorem zaM {k i j:Nat} (h:skp k i=skp k j):i=j:=by unfold skp at h;split at h <;> split at h <;> omega
theorem zlV {k x n:Nat} (hx:x<n+1) (hk:k<n+1) (h:x≠k):∃ i,i<n∧skp k i=x:=by
 by_cases hlt:x<k
 ·exact ⟨x,by omega,by unfold skp;rw [if_pos hlt]⟩
 ·exact ⟨x - 1,by omega,by unfold skp;rw [if_neg (by omega)];omega⟩
structure Rm (l l' : List OpV) (k:Nat):Prop where
 hk:k<l.length
 len:l.length=l'.length+1
 at_:∀ i,i<l'.length→nth l' i=nth l (skp k i)
 rd:(nth l k).k=0
theorem zhP {l:List OpV} {b a:Nat} (h:xh l b=some a) (hb:yC l b=true):(nth l b).k=0∧(nth l b).res≠0∧(nth l b).done=true∧(nth l a).k=1∧(nth l a).key=(nth l b).key∧(nth l a).arg=(nth l b).res∧zjT (nth l a).key (nth l a).arg (nth l b)=true∧a<l.length:=by
 obtain ⟨h1,h2,h3,h4,_⟩:=WL h
 obtain ⟨d1,d2,d3⟩:=Ye.1 h4
 have hd:=zbu h2 hb
 exact ⟨h2,h3,hd,d1,d2,d3,zjU.2 ⟨h2,hd,d2.symm,d3.symm⟩,h1⟩
section
variable {l l' : List OpV} {k:Nat} (R:Rm l l' k) (W:WFH l) (D:YV l)
include R
theorem Rm.rng {i:Nat} (hi:i<l'.length):skp k i<l.length:=by have:=R.len;unfold skp;split <;> omega
theorem Rm.ex {x:Nat} (hx:x<l.length) (h:x≠k):∃ i,i<l'.length∧skp k i=x:=zlV (by rw [← R.len];exact hx) (by rw [← R.len];exact R.hk) h
theorem Rm.up {i:Nat} (hi:i<l'.length) (h:yC l' i=true):yC l (skp k i)=true:=by
 unfold yC at h ⊢
 rw [R.at_ i hi] at h
 simp only [Bool.or_eq_true,Bool.and_eq_true,zel] at h ⊢
 refine h.imp id fun h=>⟨h.1,?_⟩
 obtain ⟨j,hj,hr⟩:=h.2
 exact ⟨skp k j,R.rng hj,by rw [← R.at_ j hj];exact hr⟩
theorem Rm.done {i:Nat} (hi:i<l'.length) (h:(nth l (skp k i)).done=true):yC l' i=true:=zgt (by rw [R.at_ i hi];exact h)
theorem Rm.read {i j:Nat} (hi:i<l'.length) (hj:j<l'.length) (h1:(nth l (skp k i)).k=1) (h:zjT (nth l (skp k i)).key (nth l (skp k i)).arg (nth l (skp k j))=true):yC l' i=true:=by
 unfold yC
 rw [R.at_ i hi]
 simp only [Bool.or_eq_true,Bool.and_eq_true,zel]
 exact .inr ⟨decide_eq_true h1,j,hj,by rw [R.at_ j hj];exact h⟩
include D in
theorem Rm.dom:YV l':=fun i hi=>by
 unfold okW
 rw [R.at_ i hi]
 rcases D (skp k i) (R.rng hi) with h|⟨h1,h2,h3⟩
 ·exact .inl h
 ·refine .inr ⟨h1,h2,fun j hj=>?_⟩
  rw [R.at_ j (by omega)]
  exact h3 _ (zkw.2 hj)
include D in
theorem Rm.from {a b:Nat} (ha:a<l'.length) (hb:b<l'.length) (h:xh l (skp k b)=some (skp k a)) (hi:yC l (skp k b)=true):xh l' b=some a∧yC l' a=true∧yC l' b=true:=by
 obtain ⟨h1,h2,h3,h4,h5,h6,h7,_⟩:=zhP h hi
 have hinc:=R.read ha hb h4 h7
 refine ⟨?_,hinc,R.done hb h3⟩
 unfold xh
 rw [R.at_ b hb,if_neg (by simp [h1,h2])]
 exact zfk (R.dom D) ha (Ye.2 (by rw [R.at_ a ha];exact ⟨h4,h5,h6⟩)) hinc
include W D in
theorem Rm.fst {a b:Nat} (ha:a<l'.length) (hb:b<l'.length) (h:(skp k a,skp k b)∈edC l):yC l' a=true:=by
 obtain ⟨h1,h2,h3⟩:=Wb.1 h
 rcases h3 with h3|h3
 ·obtain ⟨_,g2,g3⟩:=Yn h3
  exact R.done ha ((W.pair g2 (R.rng hb)).2.2 g3.symm).1
 ·exact (R.from D ha hb h3 (xj.1 h2).2).2.1
include W D in
theorem Rm.edge {a b:Nat} (ha:a<l'.length) (hb:b<l'.length) (h:(skp k a,skp k b)∈edC l) (hi:yC l' b=true):∃ q,wkB (edC l') b (q+1) a=true:=by
 have hia:=R.fst W D ha hb h
 obtain ⟨h1,h2,h3⟩:=Wb.1 h
 have ma:a∈zE l' l'.length:=xj.2 ⟨ha,hia⟩
 have mb:b∈zE l' l'.length:=xj.2 ⟨hb,hi⟩
 rcases h3 with h3|h3
 ·obtain ⟨_,g2,g3⟩:=Yn h3
  exact zeb mb _ a (Nat.le_refl _) ma (zkw.1 g2) (by rw [R.at_ a ha,R.at_ b hb];exact g3.symm)
 ·have h4:=(R.from D ha hb h3 (xj.1 h2).2).1
  exact ⟨0,xB.2 ⟨b,Wb.2 ⟨ma,mb,.inr h4⟩,Zb.2 rfl⟩⟩
include W D in
theorem Rm.chn {lab:Nat→Nat→Nat} {t:Nat} (ht:t<l'.length) (hit:yC l' t=true):∀ (L:List Nat) (s:Nat),Chn (edC l) L→(∀ e∈xe lab L,e.1≠k∧e.2.1≠k)→s<l'.length→L.head? = some (skp k s)→L.getLast? = some (skp k t)→yC l' s=true∧∃ q,wkB (edC l') t q s=true∧L.length≤q+1
 | [], _, _, _, _, h, _ => by cases h
 | [a], s, _, _, _, h1, h2 => by
  have h1:a=skp k s:=by simpa using h1
  have h2:a=skp k t:=by simpa using h2
  have:s=t:=zaM (by rw [← h1,← h2])
  subst this
  exact ⟨hit,0,Zb.2 rfl,Nat.le_refl _⟩
 | a :: b :: r, s, hc, he, hs, h1, h2 => by
  injection h1 with h1
  subst h1
  have h3:(skp k s,b)∈edC l:=hc.1
  have hbk:b≠k:=(he (skp k s,b,lab (skp k s) b) (by unfold xe;exact List.mem_cons_self)).2
  have hbl:=yT (Wb.1 h3).2.1
  obtain ⟨c,hcl,rfl⟩:=R.ex hbl hbk
  obtain ⟨g1,q,g2,g3⟩:=Rm.chn ht hit (skp k c::r) c hc.2 (fun e h=>he e (by unfold xe;exact List.mem_cons_of_mem _ h)) hcl rfl (by rw [← h2,List.getLast?_cons_cons])
  obtain ⟨m,hm⟩:=R.edge W D hs hcl h3 g1
  refine ⟨R.fst W D hs hcl h3,m+1+q,zjh hm g2,?_⟩
  simp only [List.length_cons] at g3 ⊢;omega
include W D in
theorem Rm.path {x t:Nat} (ht:t<l'.length) (hit:yC l' t=true) (h:ZT l x (skp k t)≠[]) (hu:∀ e∈ZT l x (skp k t),e.1≠k∧e.2.1≠k):∃ s,s<l'.length∧skp k s=x∧yC l' s=true∧∃ q,wkB (edC l') t (q+1) s=true:=by
 have hp:=zeY.1 h
 cases hd:dsV (edC l) (skp k t) l.length x with
 | none => exact absurd (zkW.2 hd) hp
 | some m=>
  obtain ⟨_,hw,_⟩:=Uj hd
  obtain ⟨c1,c2,c3,c4⟩:=zii (n:=l.length) (fun e he=>(zbk l e he).2) _ _ hw
  have hpt:ZT l x (skp k t)=xe (zkp l) (lwV (edC l) (skp k t) l.length (m+1) x):=by unfold ZT ptV;rw [hd]
  rw [hpt] at hu
  generalize lwV (edC l) (skp k t) l.length (m+1) x=L at *
  cases L with
  | nil => cases c2
  | cons a r=>
   injection c2 with c2
   subst c2
   cases r with
   | nil => simp at c4
   | cons b r =>
    have hxk:a≠k:=(hu (a,b,zkp l a b) (by unfold xe;exact List.mem_cons_self)).1
    have hxl:=zkn l _ c1.1
    obtain ⟨s,hs,rfl⟩:=R.ex hxl hxk
    obtain ⟨g1,q,g2,g3⟩:=R.chn W D ht hit _ s c1 hu hs rfl c3
    simp only [List.length_cons] at g3
    obtain ⟨q',rfl⟩:∃ q',q=q'+1:=⟨q - 1,by omega⟩
    exact ⟨s,hs,rfl,g1,q',g2⟩
end
theorem zfU {E:List (Nat×Nat)} {f:Nat→Nat} (hf:∀ e∈E,f e.1<f e.2) {t:Nat}:∀ {m x:Nat},wkB E t (m+1) x=true→f x<f t
 | 0, x, h => by
  obtain ⟨y,h1,h2⟩:=xB.1 h
  rw [Zb] at h2
  subst h2;exact hf _ h1
 | m+1, x, h => by
  obtain ⟨y,h1,h2⟩:=xB.1 h
  exact Nat.lt_trans (hf _ h1) (zfU hf h2)
theorem Rm.cyc {l l' : List OpV} {k:Nat} (R:Rm l l' k) (W:WFH l) (D:YV l) (h:YU l≠[]) (hu:∀ e∈Xa l (YU l) (YU l).length,e.1≠k∧e.2.1≠k):YU l'≠[]:=by
 intro h0
 obtain ⟨f,hf⟩:=zah (Yd l') h0
 have hce:=zc6 (Yd l) h
 change ∀ i,i<(YU l).length→∃ a b:Nat,nth (YU l) i=a∧nth (YU l) ((i+1) % (YU l).length)=b∧(a,b)∈edC l at hce
 generalize YU l=c at *
 have hn:0<c.length:=by cases c with
  | nil => exact absurd rfl h
  | cons _ _ => simp
 have hv:∀ i,i<c.length→∃ a b,a<l'.length∧b<l'.length∧nth c i=(skp k a:Nat)∧nth c ((i+1) % c.length)=(skp k b:Nat)∧(skp k a,skp k b)∈edC l:=fun i hi=>by
  obtain ⟨a,b,h1,h2,h3⟩:=hce i hi
  have hm:(a,b,zkp l a b)∈Xa l c c.length:=by
   unfold Xa
   refine List.mem_map.2 ⟨i,List.mem_range.2 hi,?_⟩
   rw [h1,h2];rfl
  obtain ⟨n1,n2⟩:=hu _ hm
  obtain ⟨a',g1,rfl⟩:=R.ex (zbk l _ h3).1 n1
  obtain ⟨b',g2,rfl⟩:=R.ex (zbk l _ h3).2 n2
  exact ⟨a',b',g1,g2,h1,h2,h3⟩
 have hstep:∀ i a b:Nat,i<c.length→a<l'.length→b<l'.length→nth c i=(skp k a:Nat)→nth c ((i+1) % c.length)=(skp k b:Nat)→f a<f b:=fun i a b hi ha hb h1 h2=>by
  obtain ⟨a',b',g1,g2,g3,g4,g5⟩:=hv i hi
  have e1:a'=a:=zaM (k:=k) (by rw [g3] at h1;omega)
  have e2:b'=b:=zaM (k:=k) (by rw [g4] at h2;omega)
  subst e1;subst e2
  have hib:yC l' b'=true:=by
   obtain ⟨x,y,x1,x2,x3,x4,x5⟩:=hv ((i+1) % c.length) (Nat.mod_lt _ hn)
   have e3:x=b':=zaM (k:=k) (by rw [g4] at x3;omega)
   subst e3
   exact R.fst W D x1 x2 x5
  obtain ⟨q,hq⟩:=R.edge W D g1 g2 g5 hib
  exact zfU hf hq
 have hall:∀ i,i<c.length→∃ a,a<l'.length∧nth c i=(skp k a:Nat):=fun i hi=>by
  obtain ⟨a,_,h1,_,h3,_⟩:=hv i hi
  exact ⟨a,h1,h3⟩
 obtain ⟨a0,h1,h2⟩:=hall 0 hn
 have hgrow:∀ i,i<c.length→∀ a,a<l'.length→nth c i=(skp k a:Nat)→f a0≤f a:=by
  intro i
  induction i with
  | zero =>
   intro _ a ha e
   have:a=a0:=zaM (k:=k) (by rw [h2] at e;omega)
   rw [this];exact Nat.le_refl _
  | succ i ih =>
   intro hi a ha e
   obtain ⟨b,hb,e2⟩:=hall i (by omega)
   have h3:=ih (by omega) b hb e2
   have h4:=hstep i b a (by omega) hb ha e2 (by rw [Nat.mod_eq_of_lt hi];exact e)
   omega
 obtain ⟨z,hz,e⟩:=hall (c.length - 1) (by omega)
 have h3:=hgrow (c.length - 1) (by omega) z hz e
 have h4:=hstep (c.length - 1) z a0 (by omega) hz h1 e (by rw [show c.length - 1+1=c.length by omega,Nat.mod_self];exact h2)
 omega
def zle (v:zhl) (k:Nat):Prop:=(k:Int)∉v.ord∧∀ e∈v.ed,e.1≠k∧e.2.1≠k
theorem zkZ {l l' : List OpV} {k:Nat} (R:Rm l l' k) (W:WFH l) (D:YV l) (e1:YG l=0) (e2:YG l'=0) (hu:zle (zeq l) k) (h:(zeq l).cls≠0):(zeq l').cls≠0:=by
 intro h0
 obtain ⟨hth,hcy,hov,hin⟩:=(zh5 e2).1 h0
 unfold zeq at hu h
 rw [if_neg (by simp [e1])] at hu h
 unfold zlo at hu h
 have hD:=R.dom D
 have hread:∀ i,i∈zE l l.length→(nth l i).k=0→i≠k→∃ j,j<l'.length∧skp k j=i∧yC l' j=true∧j∈zE l' l'.length:=fun i hi h0 hik=>by
  obtain ⟨i1,i2⟩:=xj.1 hi
  obtain ⟨j,hj,rfl⟩:=R.ex i1 hik
  have:=R.done hj (zbu h0 i2)
  exact ⟨j,hj,rfl,this,xj.2 ⟨hj,this⟩⟩
 cases ht:Ug l with
 | some i=>
  rw [ht] at hu
  have hi:i∈zE l l.length:=List.mem_of_find?_eq_some ht
  have hb:=List.find?_some ht
  unfold XW at hb
  simp only [Bool.and_eq_true,decide_eq_true_eq] at hb
  have hik:i≠k:=fun e=>hu.1 (by rw [e];simp [Vl])
  obtain ⟨j,hj,rfl,g1,g2⟩:=hread i hi hb.1.1 hik
  obtain ⟨w,hw⟩:=zjd hth g2 (by rw [R.at_ j hj];exact hb.1.1) (by rw [R.at_ j hj];exact hb.1.2)
  obtain ⟨w1,_,_,w4,w5⟩:=WL hw
  rw [R.at_ j hj,R.at_ w w1] at w4
  have hf:xh l (skp k j)=some (skp k w):=by
   unfold xh
   rw [if_neg (by simp [hb.1.1,hb.1.2])]
   exact zfk D (R.rng w1) w4 (R.up w1 w5)
  rw [hf] at hb
  cases hb.2
 | none=>
  rw [ht] at hu h
  dsimp only at hu h
  by_cases hc:YU l≠[]
  ·rw [if_pos hc] at hu
   exact R.cyc W D hc hu.2 hcy
  ·rw [if_neg hc] at hu h
   cases ho:WY l with
   | some x =>
    obtain ⟨w1,w2,i⟩:=x
    rw [ho] at hu
    dsimp only at hu
    unfold WY at ho
    obtain ⟨_,i',_,ei,ho,_⟩:=List.findSome?_eq_some_iff.1 ho
    have hi' : i'∈zE l l.length:=by rw [ei];simp
    clear ei
    unfold ZZ at ho
    obtain ⟨a,ha,ho⟩:=Option.bind_eq_some_iff.1 ho
    obtain ⟨q,hq,eq⟩:=Option.map_eq_some_iff.1 ho
    injection eq with q1 q2
    injection q2 with q2 q3
    subst q1;subst q2;subst q3
    have hb:=List.find?_some hq
    unfold zba at hb
    simp only [Bool.and_eq_true,decide_eq_true_eq] at hb
    obtain ⟨⟨⟨⟨b1,b2⟩,b3⟩,b4⟩,b5⟩:=hb
    have n4:ZT l a q≠[]:=by rintro e;rw [e] at b4;cases b4
    have n5:ZT l q i'≠[]:=by rintro e;rw [e] at b5;cases b5
    obtain ⟨_,f2,_,_,_⟩:=WL ha
    have hik:i'≠k:=fun e=>hu.1 (by rw [e];simp [Vl])
    obtain ⟨j,hj,rfl,g1,g2⟩:=hread i' hi' f2 hik
    obtain ⟨s2,s3,rfl,s4,m2,s5⟩:=R.path W D hj g1 n5 fun e he=>hu.2 e (List.mem_append_right _ he)
    obtain ⟨s1,r3,rfl,r4,m1,r5⟩:=R.path W D s3 s4 n4 fun e he=>hu.2 e (List.mem_append_left _ he)
    have hf:=(R.from D r3 hj ha (xj.1 hi').2).1
    exact zkU g2 hf (xj.2 ⟨s3,s4⟩) (by rw [R.at_ s2 s3];exact b1) (by rw [R.at_ s2 s3,R.at_ j hj];exact b2) (fun e=>b3 (by rw [e])) r5 s5 hov
   | none=>
    rw [ho] at hu h
    dsimp only at hu h
    cases hn:WQ l with
    | some x=>
     obtain ⟨w,i⟩:=x
     rw [hn] at hu
     dsimp only at hu
     unfold WQ at hn
     obtain ⟨_,i',_,ei,hn,_⟩:=List.findSome?_eq_some_iff.1 hn
     have hi' : i'∈zE l l.length:=by rw [ei];simp
     clear ei
     unfold ZY at hn
     split at hn
     ·cases hn
     ·rename_i hcc
      simp only [not_or,Classical.not_not] at hcc
      obtain ⟨q,hq,eq⟩:=Option.map_eq_some_iff.1 hn
      injection eq with q1 q2
      subst q1;subst q2
      have hb:=List.find?_some hq
      unfold za8 at hb
      simp only [Bool.and_eq_true,decide_eq_true_eq] at hb
      obtain ⟨⟨b1,b2⟩,b3⟩:=hb
      have n3:ZT l q i'≠[]:=by rintro e;rw [e] at b3;cases b3
      have hik:i'≠k:=fun e=>hu.1 (by rw [e];simp [Vl])
      obtain ⟨j,hj,rfl,g1,g2⟩:=hread i' hi' hcc.1 hik
      obtain ⟨s2,s3,rfl,s4,m2,s5⟩:=R.path W D hj g1 n3 hu.2
      exact zkM g2 (by rw [R.at_ j hj];exact hcc.1) (by rw [R.at_ j hj];exact hcc.2) (xj.2 ⟨s3,s4⟩) (by rw [R.at_ s2 s3];exact b1) (by rw [R.at_ s2 s3,R.at_ j hj];exact b2) s5 hin
    | none => rw [hn] at h; exact h rfl
end Go.Proofs.Ytmnmakhpjgjdaaa
/-
 simprooflaw23.CausalRemoves answers true for every input (walked on plain values).
-/
namespace Go.Proofs.Ytmnmakhpjgjdaaa
set_option linter.unusedVariables false
open Go.RowKit

def zaP (E:List EdC) (k j:Nat):Bool:=(E.take j).any fun e=>decide (e.1=k) || decide (e.2.1=k)
theorem zhi {E:List EdC} {k j:Nat} (hj:j<E.length):zaP E k (j+1)=(zaP E k j || (decide ((nth E j).1=k) || decide ((nth E j).2.1=k))):=by
 unfold zaP
 rw [List.take_succ_eq_append_getElem hj,List.any_append,nth_eq hj]
 simp
theorem zmi {l:List OpV} {k:Nat} (hk:k<l.length) (h:(nth l k).k=0):Rm l (l.take k++l.drop (k+1)) k:=by
 have hlen:(l.take k++l.drop (k+1)).length+1=l.length:=by rw [List.length_append,List.length_take,List.length_drop];omega
 refine ⟨hk,hlen.symm,fun i hi=>?_,h⟩
 unfold skp nth
 rw [List.getD_eq_getElem?_getD,List.getD_eq_getElem?_getD]
 congr 1
 by_cases hik:i<k
 ·rw [if_pos hik,List.getElem?_append_left (by rw [List.length_take];omega),List.getElem?_take_of_lt hik]
 ·rw [if_neg hik,List.getElem?_append_right (by rw [List.length_take];omega),List.length_take,List.getElem?_drop]
  congr 1;omega
set_option maxHeartbeats 4000000 in
theorem WD (l:List Int) (a:Int) (hl:∀ x∈l,I64 x) (hlen:l.length≤9223372036854775807) (ha:I64 a):yn Try.prog 9 [.list 1 (l.map zy),.int .i64 a] .fr (.bool true):=by
 obtain ⟨_,hin,hsm,hn⟩:=Wm l (most:=14) (by omega) (by omega)
 have hC:=ze2 l 14 hl hlen (by unfold I64;omega)
 have hd:=zfM l 14
 have hw:=zjY l (most:=14) (by omega) (by omega)
 have he:=ziL l (most:=14) (by omega) (by omega)
 generalize yj l 14=H at *
 have hn:H.length≤14:=by omega
 have h1:=Wl H hn hin
 have hvl:=zjs H hn
 have hrm:=fun k (R:Rm H (H.take k++H.drop (k+1)) k) e2 hu hc=>zkZ R hw hd he e2 hu hc
 rw [he] at h1
 obtain ⟨V,hV⟩:∃ V,zeq H=V:=⟨_,rfl⟩
 rw [hV] at h1 hvl hrm
 have hlv:=zdD
 clear hV
 obtain ⟨n,hnn⟩:∃ n,H.length=n:=⟨_,rfl⟩
 obtain ⟨v0,v1,v2,v3,v4⟩:=V
 unfold zhl.fv at h1
 dsimp only at h1 hvl hrm
 refine yn.of_body (c:=(ZO Try.prog zI zA 108)) ⟨Try.func9,rfl,Try.ntmps9,by kernel_rfl⟩ (by simp [FV.hand]) (by exact Nat.le_of_ble_eq_true rfl) rfl ?_
 change FW _ _ _ ⟨[(0,.list 1 (l.map zy)),(1,.int .i64 a)],[]⟩
 (repeat (first|refine FW.seq ?_|refine FW.region ?_|refine zc.nil ?_|refine zb rfl rfl rfl ?_|refine za rfl rfl rfl ?_))
 refine Uq hC (by repeat (first|exact zG.nil|refine zG.cons (by exact Zq.plain rfl rfl) ?_)) (List.length_map _) rfl rfl rfl ?_
 refine zc.le ?_ (FLe.share 15 rfl rfl (by rw [List.length_map]))
 (repeat (first|refine FW.seq ?_|refine FW.region ?_|refine zc.nil ?_|refine zb rfl rfl rfl ?_|refine za rfl rfl rfl ?_))
 refine xJ h1 (by repeat (first|exact zG.nil|refine zG.cons (by exact Zq.plain rfl rfl) ?_)) rfl rfl ?_
 (repeat (first|refine FW.seq ?_|refine FW.region ?_|refine FW.skip ?_|refine FW.condF rfl ?_|refine zc.nil ?_|refine zb rfl rfl rfl ?_|refine za rfl rfl rfl ?_|refine zw rfl rfl rfl rfl rfl ?_|refine zD rfl rfl rfl rfl rfl rfl rfl ?_|refine zm rfl rfl rfl rfl rfl rfl rfl rfl rfl ?_|refine xt rfl rfl rfl rfl ?_|refine zi rfl rfl rfl rfl rfl rfl (by decide) rfl rfl ?_|refine zq rfl rfl rfl rfl rfl (by simp;done) rfl rfl rfl rfl rfl ?_|refine yG rfl rfl rfl rfl ?_))
 refine yc (fun h=>?_) (fun h=>?_)
 ·(repeat (first|refine FW.seq ?_|refine FW.region ?_|refine FW.condT rfl ?_|refine zc.nil ?_|refine zJ rfl rfl rfl rfl ?_|refine yd rfl rfl ⟨_,_,rfl,rfl,rfl⟩ ?_))
  refine yu hlv (by repeat (first|exact zG.nil)) rfl rfl ?_
  (repeat (first|refine zc.nil ?_|refine zb rfl rfl rfl ?_))
  exact FW.ret ⟨.inl rfl,zU rfl rfl rfl rfl⟩
 have hv1:v1≠0:=by simpa using h
 clear h
 (repeat (first|refine zc.nil ?_|refine zK rfl rfl rfl rfl ?_|refine za rfl rfl ⟨_,_,rfl,rfl,rfl⟩ ?_|refine zp rfl rfl (by exact List.length_map _) rfl ⟨_,_,rfl,rfl,rfl⟩ ?_|refine yG rfl rfl rfl ⟨_,_,rfl,rfl,rfl⟩ ?_))
 rw [hnn]
 refine FW.cond rfl (fun h=>?_) (fun h=>?_)
 ·(repeat (first|refine FW.seq ?_|refine FW.region ?_))
  refine yu hlv (by repeat (first|exact zG.nil)) rfl rfl ?_
  (repeat (first|refine zc.nil ?_|refine zb rfl rfl rfl ?_))
  exact FW.ret ⟨.inl rfl,zU rfl rfl rfl rfl⟩
 have hpos:0<n:=by simp at h;omega
 clear h
 have hA:=zem a n ha (by omega) (by omega)
 obtain ⟨k,hk⟩:∃ k:Nat,xN a n=k:=⟨(xN a n).toNat,(Int.toNat_of_nonneg (Wz (by omega))).symm⟩
 have hkn:k<n:=by have:=Wy (n:=a) (most:=n) (by omega);omega
 rw [hk] at hA
 clear hk
 have hhas:=zjJ v3 k (by omega)
 (repeat (first|refine FW.seq ?_|refine FW.region ?_|refine FW.skip ?_|refine za rfl rfl rfl ?_|refine zp rfl rfl (by exact List.length_map _) rfl rfl ?_))
 rw [hnn]
 refine yu hA (by repeat (first|exact zG.nil|refine zG.cons (by exact Zq.plain rfl rfl) ?_)) rfl rfl ?_
 (repeat (first|refine FW.seq ?_|refine FW.region ?_|refine zc.nil ?_|refine zb rfl rfl rfl ?_|refine za rfl rfl rfl ?_|refine zi rfl rfl rfl rfl rfl rfl (by decide) rfl rfl ?_|refine zq rfl rfl rfl rfl rfl (by simp;done) rfl rfl rfl rfl rfl ?_))
 refine yu hhas (by repeat (first|exact zG.nil|refine zG.cons (by exact Zq.plain rfl rfl) ?_)) rfl rfl ?_
 (repeat (first|refine FW.seq ?_|refine FW.region ?_|refine FW.block ?_|refine zc.nil ?_|refine zb rfl rfl rfl ?_))
 refine FW.loop (fun j:Nat=>⟨[(1,.int .i64 a),(5,.list 8 (H.map OpV.fv)),(6,.ptr 106 0 0 0),(8,.int .i64 k),(9,.bool (zef v3 k || zaP v4 k j)),(10,.int .i64 j)],[(106,⟨0,.own,36,5,[[.int .i64 v0,.int .i64 v1,.int .i64 v2,.list 1 (v3.map zy),.list 3 (v4.map EdC.fv)]]⟩)]⟩) (fun j=>j≤v4.length) (fun j=>v4.length - j) 0 (Nat.zero_le _) ?_ ?_
 ·rw [show zaP v4 k 0=false from rfl,Bool.or_false]
  exact (FLe.cv [⟨106,some 6,0+1,⟨0,.own,36,5,[[.int .i64 v0,.int .i64 v1,.int .i64 v2,.list 1 (v3.map zy),.list 3 (v4.map EdC.fv)]]⟩⟩] (by repeat (first|exact .nil|refine .old rfl (by decide) rfl ?_)) (by repeat (first|exact .nil|refine .cons (.plain rfl rfl rfl) ?_|refine .cons (.ptr rfl (.head _) rfl) ?_)))
 intro j hj
 (repeat (first|refine FW.seq ?_|refine FW.region ?_|refine zc.nil ?_|refine za rfl rfl rfl ?_|refine zi rfl rfl rfl rfl rfl rfl (by decide) rfl rfl ?_|refine zq rfl rfl rfl rfl rfl (by simp;done) rfl rfl rfl rfl rfl ?_|refine zp rfl rfl (by first|exact List.length_map _|rfl|(simp;done)) rfl rfl ?_|refine zX rfl rfl rfl rfl ?_))
 refine FW.cond rfl (fun h=>?_) (fun h=>?_)
 ·have hlt:j<v4.length:=by simpa using h
  clear h
  have hsu:=zhi (k:=k) hlt
  obtain ⟨e,he⟩:∃ e,nth v4 j=e:=⟨_,rfl⟩
  rw [he] at hsu
  have hnx:(zef v3 k || zaP v4 k (j+1))=(zef v3 k || zaP v4 k j || (decide (e.1=k) || decide (e.2.1=k))):=by rw [hsu,Bool.or_assoc]
  clear hsu
  obtain ⟨B,hB⟩:∃ B,(zef v3 k || zaP v4 k j)=B:=⟨_,rfl⟩
  rw [hB] at hnx ⊢
  clear hB
  cases B with
  | true =>
   rw [Bool.true_or] at hnx
   (repeat (first|refine FW.seq ?_|refine FW.region ?_|refine FW.block ?_|refine FW.skip ?_|refine zc.nil ?_|refine zb rfl rfl rfl ?_|refine za rfl rfl rfl ?_|refine zJ rfl rfl rfl rfl ?_|refine zu rfl rfl (by omega) rfl rfl ?_|refine yd rfl rfl ⟨_,_,rfl,rfl,rfl⟩ ?_))
   refine ⟨j+1,by omega,by omega,?_⟩
   rw [hnx]
   exact (FLe.cv [⟨106,some 106,0,⟨0,.own,36,5,[[.int .i64 v0,.int .i64 v1,.int .i64 v2,.list 1 (v3.map zy),.list 3 (v4.map EdC.fv)]]⟩⟩] (by repeat (first|exact .nil|refine .old rfl (by decide) rfl ?_)) (by repeat (first|exact .nil|refine .cons (.plain rfl rfl rfl) ?_|refine .cons (.ptr rfl (.head _) rfl) ?_)))
  | false=>
   rw [Bool.false_or] at hnx
   (repeat (first|refine FW.seq ?_|refine FW.region ?_|refine FW.block ?_|refine FW.skip ?_|refine za rfl rfl rfl ?_|refine zK rfl rfl rfl rfl ?_|refine za rfl rfl ⟨_,_,rfl,rfl,rfl⟩ ?_|refine yG rfl rfl rfl ⟨_,_,rfl,rfl,rfl⟩ ?_|refine zQ rfl rfl rfl rfl rfl rfl ⟨_,_,rfl,rfl,rfl⟩ ?_|refine zi rfl rfl rfl rfl rfl rfl (by decide) rfl ⟨_,_,rfl,rfl,rfl⟩ ?_|refine zj rfl rfl rfl (by first|(simp;omega)|(simp;done)) (by first|exact zf (by omega)|rfl) rfl rfl rfl ⟨_,_,rfl,rfl,rfl⟩ ?_|refine zq rfl rfl rfl rfl rfl (by first|(simp;omega)|(simp;done)) (by first|exact zf (by omega)|rfl) rfl rfl rfl ⟨_,_,rfl,rfl,rfl⟩ ?_|refine zn rfl rfl rfl rfl rfl rfl (by first|(simp;omega)|(simp;done)) rfl ⟨_,_,rfl,rfl,rfl⟩ ?_))
   rw [he]
   refine yc (fun h1=>?_) (fun h1=>?_)
   ·have h1:decide (e.1=k)=true:=by simp at h1 ⊢;omega
    rw [h1,Bool.true_or] at hnx
    (repeat (first|refine FW.region ?_|refine zc.nil ?_|refine zb rfl rfl rfl ?_|refine za rfl rfl rfl ?_|refine zJ rfl rfl rfl rfl ?_|refine zu rfl rfl (by omega) rfl rfl ?_|refine yd rfl rfl ⟨_,_,rfl,rfl,rfl⟩ ?_))
    refine ⟨j+1,by omega,by omega,?_⟩
    rw [hnx]
    exact (FLe.cv [⟨106,some 106,0,⟨0,.own,36,5,[[.int .i64 v0,.int .i64 v1,.int .i64 v2,.list 1 (v3.map zy),.list 3 (v4.map EdC.fv)]]⟩⟩] (by repeat (first|exact .nil|refine .old rfl (by decide) rfl ?_)) (by repeat (first|exact .nil|refine .cons (.plain rfl rfl rfl) ?_|refine .cons (.ptr rfl (.head _) rfl) ?_)))
   ·have h1:decide (e.1=k)=false:=by simp at h1 ⊢;omega
    rw [h1,Bool.false_or] at hnx
    (repeat (first|refine FW.region ?_|refine zc.nil ?_|refine zb rfl rfl rfl ?_|refine za rfl rfl rfl ?_|refine zK rfl rfl rfl rfl ?_|refine zu rfl rfl (by omega) rfl rfl ?_|refine za rfl rfl ⟨_,_,rfl,rfl,rfl⟩ ?_|refine yG rfl rfl rfl ⟨_,_,rfl,rfl,rfl⟩ ?_|refine zQ rfl rfl rfl rfl rfl rfl ⟨_,_,rfl,rfl,rfl⟩ ?_|refine zi rfl rfl rfl rfl rfl rfl (by decide) rfl ⟨_,_,rfl,rfl,rfl⟩ ?_|refine zj rfl rfl rfl (by first|(simp;omega)|(simp;done)) (by first|exact zf (by omega)|rfl) rfl rfl rfl ⟨_,_,rfl,rfl,rfl⟩ ?_|refine zq rfl rfl rfl rfl rfl (by first|(simp;omega)|(simp;done)) (by first|exact zf (by omega)|rfl) rfl rfl rfl ⟨_,_,rfl,rfl,rfl⟩ ?_|refine zn rfl rfl rfl rfl rfl rfl (by first|(simp;omega)|(simp;done)) rfl ⟨_,_,rfl,rfl,rfl⟩ ?_))
    rw [he]
    skip
    refine ⟨j+1,by omega,by omega,?_⟩
    rw [hnx,show decide (e.2.1=k)=decide ((e.2.1:Int)=(k:Int)) from decide_eq_decide.2 (by omega)]
    exact (FLe.cv [⟨106,some 106,0,⟨0,.own,36,5,[[.int .i64 v0,.int .i64 v1,.int .i64 v2,.list 1 (v3.map zy),.list 3 (v4.map EdC.fv)]]⟩⟩] (by repeat (first|exact .nil|refine .old rfl (by decide) rfl ?_)) (by repeat (first|exact .nil|refine .cons (.plain rfl rfl rfl) ?_|refine .cons (.ptr rfl (.head _) rfl) ?_)))
 ·have hj:j=v4.length:=by simp at h;omega
  clear h
  have hR:=zmi (l:=H) (k:=k) (by omega)
  have hB:∀ B,(zef v3 k || zaP v4 k j)=B→B=false→(k:Int)∉v3∧∀ e∈v4,e.1≠k∧e.2.1≠k:=fun B h1 h2=>by
   rw [h2,hj,Bool.or_eq_false_iff] at h1
   refine ⟨of_decide_eq_false h1.1,fun e hm=>?_⟩
   have h3:=h1.2
   unfold zaP at h3
   rw [List.take_length,List.any_eq_false] at h3
   have:=h3 e hm
   simpa using this
  obtain ⟨B,hBe⟩:∃ B,(zef v3 k || zaP v4 k j)=B:=⟨_,rfl⟩
  replace hB:=hB B hBe
  rw [hBe]
  clear hBe
  cases B with
  | true =>
   (repeat (first|refine FW.seq ?_|refine FW.region ?_|refine FW.exit ?_|refine FW.condT rfl ?_|refine zc.nil ?_|refine za rfl rfl rfl ?_|refine zJ rfl rfl rfl rfl ?_|refine yd rfl rfl ⟨_,_,rfl,rfl,rfl⟩ ?_))
   refine yu hlv (by repeat (first|exact zG.nil)) rfl rfl ?_
   (repeat (first|refine zc.nil ?_|refine zb rfl rfl rfl ?_))
   exact FW.ret ⟨.inl rfl,zU rfl rfl rfl rfl⟩
  | false=>
   have hB:=hB rfl
   (repeat (first|refine FW.seq ?_|refine FW.region ?_|refine FW.exit ?_|refine zc.nil ?_|refine za rfl rfl rfl ?_|refine zK rfl rfl rfl rfl ?_|refine za rfl rfl ⟨_,_,rfl,rfl,rfl⟩ ?_|refine zQ rfl rfl rfl rfl rfl rfl ⟨_,_,rfl,rfl,rfl⟩ ?_|refine zj rfl rfl rfl (by simp;omega) (by first|exact zf (by omega)|rfl) rfl rfl rfl ⟨_,_,rfl,rfl,rfl⟩ ?_|refine zn rfl rfl rfl rfl rfl rfl (by simp;omega) rfl ⟨_,_,rfl,rfl,rfl⟩ ?_|refine xt rfl rfl rfl ⟨_,_,rfl,rfl,rfl⟩ ?_))
   refine FW.cond rfl (fun h=>?_) (fun h=>?_)
   ·(repeat (first|refine FW.seq ?_|refine FW.region ?_))
    refine yu hlv (by repeat (first|exact zG.nil)) rfl rfl ?_
    (repeat (first|refine zc.nil ?_|refine zb rfl rfl rfl ?_))
    exact FW.ret ⟨.inl rfl,zU rfl rfl rfl rfl⟩
   have h0:(nth H k).k=0:=by simpa using h
   clear h
   have hR:=hR h0
   have e2:YG (H.take k++H.drop (k+1))=0:=by
    unfold YG
    rw [(hw.sub (l':=H.take k++H.drop (k+1)) (by
     have:H.take k++H.drop k=H:=List.take_append_drop k H
     conv=>rhs;rw [← this]
     exact List.Sublist.append_left (by rw [List.drop_eq_getElem_cons (show k<H.length by omega)];exact List.sublist_cons_self _ _) _)).check,if_neg (by decide),if_pos (hR.dom hd)]
   have hcls:=hrm k hR e2 hB hv1
   have hGl:(H.take k++H.drop (k+1)).length≤14:=by have:=hR.len;omega
   have h2:=Wl (H.take k++H.drop (k+1)) hGl fun o ho=>by
    rcases List.mem_append.1 ho with h|h
    ·exact hin o (List.mem_of_mem_take h)
    ·exact hin o (List.mem_of_mem_drop h)
   rw [e2] at h2
   (repeat (first|refine FW.seq ?_|refine FW.region ?_|refine FW.skip ?_|refine zc.nil ?_|refine zb rfl rfl rfl ?_|refine za rfl rfl rfl ?_|refine zu rfl rfl (by omega) rfl rfl ?_|refine ziZ rfl rfl rfl rfl (by first|exact LoR.none|exact LoR.some rfl) (by first|exact HiR.none|exact HiR.some rfl) (by first|omega|(simp;omega)) (by first|omega|(simp;omega)) rfl rfl ?_|refine zk1 rfl rfl rfl rfl (by decide) (by exact Yg.list rfl) (by first|omega|(simp;omega)) (by first|omega|(simp;omega)) rfl rfl rfl ?_|refine Wn rfl rfl (by first|rfl|omega|(simp;omega)) rfl rfl rfl (by decide) (by exact Yg.list rfl) (by first|omega|(simp;omega)) (by first|omega|(simp;omega)) rfl rfl rfl ?_))
   have hcut:List.take (k - 0) (List.drop 0 (List.map OpV.fv H))++List.take ((List.map OpV.fv H).length - (k+1)) (List.drop (k+1) (List.map OpV.fv H))=(H.take k++H.drop (k+1)).map OpV.fv:=by
    rw [List.drop_zero,Nat.sub_zero,← List.map_take,← List.map_drop,List.map_append]
    congr 1
    rw [List.take_of_length_le]
    simp
   rw [hcut]
   generalize H.take k++H.drop (k+1)=G at *
   refine zc.le ?_ (FLe.share 94 rfl rfl rfl)
   obtain ⟨W,hW⟩:∃ W,zeq G=W:=⟨_,rfl⟩
   rw [hW] at h2 hcls
   obtain ⟨w0,w1,w2,w3,w4⟩:=W
   unfold zhl.fv at h2
   dsimp only at h2 hcls
   refine xJ h2 (by repeat (first|exact zG.nil|refine zG.cons (by exact Zq.plain rfl rfl) ?_)) rfl rfl ?_
   (repeat (first|refine FW.seq ?_|refine FW.region ?_|refine zc.nil ?_|refine zb rfl rfl rfl ?_|refine za rfl rfl rfl ?_|refine zw rfl rfl rfl rfl rfl ?_|refine zD rfl rfl rfl rfl rfl rfl rfl ?_|refine zm rfl rfl rfl rfl rfl rfl rfl rfl rfl ?_|refine yG rfl rfl rfl rfl ?_|refine zJ rfl rfl rfl rfl ?_|refine zi rfl rfl rfl rfl rfl rfl (by decide) rfl ⟨_,_,rfl,rfl,rfl⟩ ?_|refine zq rfl rfl rfl rfl rfl (by simp;done) rfl rfl rfl rfl ⟨_,_,rfl,rfl,rfl⟩ ?_|refine xt rfl rfl rfl ⟨_,_,rfl,rfl,rfl⟩ ?_))
   refine yc (fun h=>?_) (fun h=>absurd hcls (by simpa using h))
   skip
   refine yu hlv (by repeat (first|exact zG.nil)) rfl ⟨_,_,rfl,rfl,rfl⟩ ?_
   (repeat (first|refine zc.nil ?_|refine zb rfl rfl rfl ?_|refine zJ rfl rfl rfl rfl ?_))
   exact FW.ret ⟨.inl rfl,zU rfl rfl rfl rfl⟩
end Go.Proofs.Ytmnmakhpjgjdaaa
