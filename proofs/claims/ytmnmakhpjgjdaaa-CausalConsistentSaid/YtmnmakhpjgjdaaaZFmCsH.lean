/-
  Some texts as one: FmCsH, FmCs1, ConsPlain, FmCs2, FmCs3, WfGen, CauGen, CauCons, LawCausalConsistent.
-/
import Derived.Test.YtmnmakhpjgjdaaaZD
import Derived.Test.YtmnmakhpjgjdaaaZF
import Derived.Test.YtmnmakhpjgjdaaaZFmCauE
import Derived.Test.YtmnmakhpjgjdaaaZR
import Derived.Test.YtmnmakhpjgjdaaaZFmW
import Derived.Test.YtmnmakhpjgjdaaaZOrderPlain
/-
 The generated histories of layer 20 one by one,at plain values.
-/
namespace Go.Proofs.Ytmnmakhpjgjdaaa
set_option linter.unusedVariables false
open Go.RowKit

theorem ze4 (l:List Int) (most:Int) (hl:∀ x∈l,I64 x) (hlen:l.length≤9223372036854775807) (hm:I64 most):yn Try.prog 10 [.list 1 (l.map zA),.int .i64 most] (.ow 43 8) (.list 8 ((zT l most).map OpV.fv)) where
 go:=by kernel_rfl
 hand:=rfl
 calls w I vs hI hv:=by
  obtain ⟨_,_,rfl,e1,e2⟩:=hv.inv2
  obtain ⟨A,c,rfl,_,hs⟩:=zej.of e1 hI
  rw [e2.int_inv]
  refine (zcG A c l most w hs hl hlen hm).mono ?_
  rintro e w' ⟨A1,c1,rfl,ho,hb⟩
  exact ⟨_,rfl,hb,opT.res ho⟩
/-! ### what the registers are -/
theorem YP (l:List Int) {most:Int} (h0:0≤most) (h1:most≤20):xr (zT l most)=0∧(∀ o∈zT l most,Ul o)∧(∀ o∈zT l most,za2 o)∧((zT l most).length:Int)≤most:=by
 have hg:=Wj l most
 have hl:=Vr l most
 have hi:=zeI l (most:=most) h0
 have inv:=Vb (YL l) hg hl _ (Nat.le_refl _)
 exact ⟨(zfy hg hl inv.ok inv.sm).1,(zfy hg hl inv.ok inv.sm).2,inv.sm,by have:=inv.ok.len;unfold zT;omega⟩
end Go.Proofs.Ytmnmakhpjgjdaaa
/-
 Verdicts of layer 23 in plain Lean;simproofref23.SameVerdict,simprooflaw23.same.
-/
namespace Go.Proofs.Ytmnmakhpjgjdaaa
set_option linter.unusedVariables false
open Go.RowKit

structure zjm where
 check:Int
 cls:Int
 arg:Int
 ord:List Int
 ed:List EdC
 deriving DecidableEq,Inhabited
def zjm.fv (v:zjm):List FV:=[.int .i64 v.check,.int .i64 v.cls,.int .i64 v.arg,.list 1 (v.ord.map zA),.list 3 (v.ed.map EdC.fv)]
def zeq (L:List Nat):List Int:=L.map fun i:Nat=>(i:Int)
def zl4 (l:List OpV):zjm:=match zbj l with
 | some i => ⟨5, 2, (nth l i).key, zeq [i], []⟩
 | none=>if Uf l≠[] then ⟨5,6,0,[],Vp l (Uf l) (Uf l).length⟩ else match zbg l with
  | some (w1, w2, i) => ⟨5, 7, (nth l w2).key, zeq [w1, w2, i], YZ l w1 w2 ++ YZ l w2 i⟩
  | none => match zbe l with
   | some (w, i) => ⟨5, 8, (nth l w).key, zeq [w, i], YZ l w i⟩
   | none => ⟨5, 0, 0, zmh l, []⟩
def zkr (l:List OpV):zjm:=if Xc l≠0 then ⟨0,0,0,[],[]⟩ else zl4 l
def zl5 (l:List OpV):zjm:=match ze9 l with
 | some (r, k, i) => ⟨6, 9+r, (nth l i).key, zeq [k, i], []⟩
 | none => ⟨6, 0, 0, [], []⟩
def zkC (l:List OpV):zjm:=if Xc l≠0 then ⟨0,0,0,[],[]⟩ else zl5 l
theorem zir (sz:Nat) (es:List (List FV)):FV.le (zkW sz es) (.list sz es):=by
 cases es with
 | nil => exact .nil sz
 | cons e es => exact .refl _
theorem zjW (L:List Nat):L.map yI=(zeq L).map zA:=by unfold zeq;rw [List.map_map];rfl
theorem zl2 {c k a:Int} {f g:FV} {o:List Int} {e:List EdC} (h1:FV.le f (.list 1 (o.map zA))) (h2:FV.le g (.list 3 (e.map EdC.fv))):FV.le (.agg [.int .i64 c,.int .i64 k,.int .i64 a,f,g]) (.agg (zjm.fv ⟨c,k,a,o,e⟩)):=
 .agg (.cons (.refl _) (.cons (.refl _) (.cons (.refl _) (.cons h1 (.cons h2 .nil)))))
theorem zaW (c k a:Int) (o:List Nat) (e:List EdC):FV.le (.agg (Ua c k a o e)) (.agg (zjm.fv ⟨c,k,a,zeq o,e⟩)):=by
 unfold Ua
 refine zl2 ?_ (zir 3 _)
 rw [zjW];exact zir 1 _
theorem zhC (l:List OpV):FV.le (.agg (WF l)) (.agg (zl4 l).fv):=by
 unfold WF zl4
 cases zbj l with
 | some i => exact zaW 5 2 _ [i] []
 | none=>
  dsimp only
  by_cases h:Uf l≠[]
  ·rw [if_pos h,if_pos h];exact zl2 (.nil 1) (.refl _)
  ·rw [if_neg h,if_neg h]
   cases zbg l with
   | some x =>
    obtain ⟨w1,w2,i⟩:=x
    exact zaW 5 7 _ [w1,w2,i] _
   | none=>
    dsimp only
    cases zbe l with
    | some x =>
     obtain ⟨w,i⟩:=x
     exact zaW 5 8 _ [w,i] _
    | none => exact zl2 (.refl _) (.nil 3)
theorem zja (l:List OpV):FV.le (.agg (zbW l)) (.agg (zl5 l).fv):=by
 unfold zbW zl5
 cases ze9 l with
 | some x =>
  obtain ⟨r,k,i⟩:=x
  exact zaW 6 (9+r) _ [k,i] []
 | none => exact zaW 6 0 0 [] []
theorem zkL (l:List OpV):FV.le (zkK l) (.tup [.agg (zkr l).fv,.int .i64 (Xc l)]):=by
 unfold zkK zkr
 by_cases h:Xc l≠0
 ·rw [if_pos h,if_pos h]
  exact .tup (.cons (zl2 (.nil 1) (.nil 3)) (.cons (.refl _) .nil))
 ·rw [if_neg h,if_neg h,show Xc l=0 by simpa using h]
  exact .tup (.cons (zhC l) (.cons (.refl _) .nil))
theorem zlc (l:List OpV):FV.le (zlb l) (.tup [.agg (zkC l).fv,.int .i64 (Xc l)]):=by
 unfold zlb zkC
 by_cases h:Xc l≠0
 ·rw [if_pos h,if_pos h]
  exact .tup (.cons (zl2 (.nil 1) (.nil 3)) (.cons (.refl _) .nil))
 ·rw [if_neg h,if_neg h,show Xc l=0 by simpa using h]
  exact .tup (.cons (zja l) (.cons (.refl _) .nil))
theorem zap (l:List OpV) (hl:l.length≤14) (hin:∀ o∈l,Ul o):yn Try.prog 18 [.list 8 (l.map OpV.fv)] .sh (.tup [.agg (zkr l).fv,.int .i64 (Xc l)]):=yn.le (zep l hl hin) (zkL l) rfl
theorem WZ (l:List OpV) (hl:l.length≤1000) (hin:∀ o∈l,Ul o):yn Try.prog 19 [.list 8 (l.map OpV.fv)] .sh (.tup [.agg (zkC l).fv,.int .i64 (Xc l)]):=yn.le (zca l hl hin) (zlc l) rfl
theorem zjF (x:EdC):zjq Try.prog 46 x.fv x.fv true:=by
 refine ⟨by kernel_rfl,fun w=>?_⟩
 obtain ⟨a1,a2,a3⟩:=x
 show (Op.equalIn 10000 46 (.agg #[.int .i64 (a1:Int),.int .i64 (a2:Int),.int .i64 (a3:Int)]) (.agg #[.int .i64 (a1:Int),.int .i64 (a2:Int),.int .i64 (a3:Int)])).run Try.prog w=_
 have hS:Try.prog.underlying 46=some (.struct (Try.prog.fieldsOf 46)):=by kernel_rfl
 have hp:Try.prog.stoodInHeld 46=false:=by kernel_rfl
 rw [show (10000:Nat)=9999+1 from rfl,run_equalIn_agg w 9999 46 _ _ hS hp]
 simp only [Program.fieldsOf,Try.underlying46]
 simp [go_sem]
set_option maxHeartbeats 4000000 in
theorem zaP (V:zjm) (h1:V.ord.length≤1000) (h2:V.ed.length≤1000):yn Try.prog 22 [.agg V.fv,.agg V.fv] .fr (.bool true):=by
 have hs1:=zcM V.ord V.ord (by omega) (by omega)
 rw [decide_eq_true rfl] at hs1
 obtain ⟨ck,cls,arg,O,E⟩:=V
 dsimp only at h1 h2 hs1
 obtain ⟨n,hn⟩:∃ n,E.length=n:=⟨_,rfl⟩
 obtain ⟨X,hX⟩:∃ X,O.map zA=X:=⟨_,rfl⟩
 show yn _ _ [.agg [.int .i64 ck,.int .i64 cls,.int .i64 arg,.list 1 (O.map zA),.list 3 (E.map EdC.fv)],.agg [.int .i64 ck,.int .i64 cls,.int .i64 arg,.list 1 (O.map zA),.list 3 (E.map EdC.fv)]] _ _
 rw [hX] at hs1 ⊢
 refine yn.of_body (c:=(ZW Try.prog zH zB 67)) ⟨Try.func22,rfl,Try.ntmps22,by kernel_rfl⟩ (by simp [FV.hand]) (by exact Nat.le_of_ble_eq_true rfl) rfl ?_
 change FW _ _ _ ⟨[(0,.agg [.int .i64 ck,.int .i64 cls,.int .i64 arg,.list 1 X,.list 3 (E.map EdC.fv)]),(1,.agg [.int .i64 ck,.int .i64 cls,.int .i64 arg,.list 1 X,.list 3 (E.map EdC.fv)])],[]⟩
 (repeat (first|refine FW.seq ?_|refine FW.region ?_|refine zc.nil ?_|refine zk4 rfl rfl rfl rfl rfl rfl rfl ?_|refine zb rfl rfl rfl ?_|refine zi rfl rfl rfl rfl rfl rfl (by decide) rfl rfl ?_|refine zp rfl rfl rfl rfl rfl (by simp;done) rfl rfl rfl rfl rfl ?_|refine xJ rfl rfl rfl rfl ?_|refine za rfl rfl rfl ?_))
 refine yg (fun h=>absurd rfl (of_decide_eq_true h)) (fun h=>?_)
 (repeat (first|refine za rfl rfl rfl ?_|refine zR rfl rfl rfl rfl ?_|refine zi rfl rfl rfl rfl rfl rfl (by decide) rfl ⟨_,_,rfl,rfl,rfl⟩ ?_|refine zp rfl rfl rfl rfl rfl (by simp;done) rfl rfl rfl rfl ⟨_,_,rfl,rfl,rfl⟩ ?_|refine xJ rfl rfl rfl ⟨_,_,rfl,rfl,rfl⟩ ?_))
 refine yg (fun h=>absurd rfl (of_decide_eq_true h)) (fun h=>?_)
 (repeat (first|refine za rfl rfl rfl ?_|refine zR rfl rfl rfl rfl ?_|refine zi rfl rfl rfl rfl rfl rfl (by decide) rfl ⟨_,_,rfl,rfl,rfl⟩ ?_|refine zp rfl rfl rfl rfl rfl (by simp;done) rfl rfl rfl rfl ⟨_,_,rfl,rfl,rfl⟩ ?_|refine xJ rfl rfl rfl ⟨_,_,rfl,rfl,rfl⟩ ?_))
 refine yg (fun h=>absurd rfl (of_decide_eq_true h)) (fun h=>?_)
 (repeat (first|refine zi rfl rfl rfl rfl rfl rfl (by decide) rfl ⟨_,_,rfl,rfl,rfl⟩ ?_|refine zp rfl rfl rfl rfl rfl (by simp;done) rfl rfl rfl rfl ⟨_,_,rfl,rfl,rfl⟩ ?_))
 refine yS hs1 (by repeat (first|exact zI.nil|refine zI.cons (by exact Zr.plain rfl rfl) ?_)) rfl ⟨_,_,rfl,rfl,rfl⟩ ?_
 (repeat (first|refine zc.nil ?_|refine za rfl rfl rfl ?_|refine zR rfl rfl rfl rfl ?_|refine zi rfl rfl rfl rfl rfl rfl (by decide) rfl ⟨_,_,rfl,rfl,rfl⟩ ?_|refine zp rfl rfl rfl rfl rfl (by simp;done) rfl rfl rfl rfl ⟨_,_,rfl,rfl,rfl⟩ ?_|refine xJ rfl rfl rfl ⟨_,_,rfl,rfl,rfl⟩ ?_|refine Xt rfl rfl ⟨_,_,rfl,rfl,rfl⟩ ?_|refine zu rfl rfl (by first|exact List.length_map _|rfl|(simp;done)) rfl ⟨_,_,rfl,rfl,rfl⟩ ?_))
 refine FW.cond rfl (fun h=>absurd rfl (of_decide_eq_true h)) (fun h=>?_)
 clear h
 (repeat (first|refine FW.seq ?_|refine FW.region ?_|refine FW.block ?_|refine FW.skip ?_|refine zc.nil ?_|refine zb rfl rfl rfl ?_))
 refine FW.loop (fun j:Nat=>⟨[(2,.ptr 102 0 0 0),(3,.ptr 103 0 0 0),(5,.int .i64 j)],[(102,⟨0,.own,36,5,[[.int .i64 ck,.int .i64 cls,.int .i64 arg,.list 1 X,.list 3 (E.map EdC.fv)]]⟩),(103,⟨0,.own,36,5,[[.int .i64 ck,.int .i64 cls,.int .i64 arg,.list 1 X,.list 3 (E.map EdC.fv)]]⟩)]⟩) (fun j=>j≤n) (fun j=>n - j) 0 (Nat.zero_le _) (FLe.cv [⟨102,some 2,0+1,⟨0,.own,36,5,[[.int .i64 ck,.int .i64 cls,.int .i64 arg,.list 1 X,.list 3 (E.map EdC.fv)]]⟩⟩,⟨103,some 3,0+1,⟨0,.own,36,5,[[.int .i64 ck,.int .i64 cls,.int .i64 arg,.list 1 X,.list 3 (E.map EdC.fv)]]⟩⟩] (by repeat (first|exact .nil|refine .old rfl (by decide) rfl ?_)) (by repeat (first|exact .nil|refine .cons (.plain rfl rfl rfl) ?_|refine .cons (.ptr rfl (.head _) rfl) ?_|refine .cons (.ptr rfl (.tail _ (.head _)) rfl) ?_))) ?_
 intro j hj
 (repeat (first|refine FW.seq ?_|refine FW.region ?_|refine zc.nil ?_|refine zi rfl rfl rfl rfl rfl rfl (by decide) rfl rfl ?_|refine zp rfl rfl rfl rfl rfl (by simp;done) rfl rfl rfl rfl rfl ?_|refine za rfl rfl rfl ?_|refine zu rfl rfl (by first|exact List.length_map _|rfl|(simp;done)) rfl rfl ?_|refine zZ rfl rfl rfl rfl ?_))
 refine FW.cond rfl (fun h=>?_) (fun h=>?_)
 ·have hlt:j<E.length:=by simpa using h
  (repeat (first|refine FW.seq ?_|refine FW.block ?_|refine FW.skip ?_|refine FW.draw ?_|refine xj rfl rfl rfl rfl rfl rfl (by decide) rfl rfl ?_|refine yC rfl rfl rfl rfl rfl (by first|(simp;omega)|(simp;done)) (by first|exact zf (by omega)|rfl) rfl rfl rfl rfl ?_|refine ziL rfl rfl rfl (by decide) (by first|(simp;omega)|(simp;done)) (by first|exact zf (by omega)|rfl) rfl rfl rfl ?_|refine zS rfl rfl rfl ?_|refine ZM rfl rfl rfl rfl rfl rfl (by first|(simp;omega)|(simp;done)) rfl rfl ?_))
  refine zlQ rfl rfl rfl rfl (zjF (nth E j)) rfl rfl ?_
  (repeat (first|refine zG.nil ?_))
  refine ⟨by kernel_rfl,?_⟩
  (repeat (first|refine FW.region ?_|refine FW.skip ?_|refine FW.condF rfl ?_|refine zc.nil ?_|refine zb rfl rfl rfl ?_|refine za rfl rfl rfl ?_|refine zt rfl rfl (by omega) rfl rfl ?_))
  exact ⟨j+1,by omega,by omega,(FLe.cv [⟨102,some 102,0,⟨0,.own,36,5,[[.int .i64 ck,.int .i64 cls,.int .i64 arg,.list 1 X,.list 3 (E.map EdC.fv)]]⟩⟩,⟨103,some 103,0,⟨0,.own,36,5,[[.int .i64 ck,.int .i64 cls,.int .i64 arg,.list 1 X,.list 3 (E.map EdC.fv)]]⟩⟩] (by repeat (first|exact .nil|refine .old rfl (by decide) rfl ?_)) (by repeat (first|exact .nil|refine .cons (.plain rfl rfl rfl) ?_|refine .cons (.ptr rfl (.head _) rfl) ?_|refine .cons (.ptr rfl (.tail _ (.head _)) rfl) ?_)))⟩
 ·(repeat (first|refine FW.seq ?_|refine FW.region ?_|refine FW.exit ?_|refine zc.nil ?_|refine zb rfl rfl rfl ?_))
  exact FW.ret ⟨.inl rfl,yd rfl rfl rfl rfl⟩
end Go.Proofs.Ytmnmakhpjgjdaaa
/-
 Consistent histories in plain Lean.
-/
namespace Go.Proofs.Ytmnmakhpjgjdaaa
set_option linter.unusedVariables false
open Go.RowKit

def YH (i:Nat) (s:List OpV×List Int):List OpV×List Int:=
 if (nth s.1 i).k=1 then (s.1,s.2.set (nth s.1 i).key.toNat (nth s.1 i).arg)
 else if (nth s.1 i).done=true then (s.1.set i { nth s.1 i with res:=nth s.2 (nth s.1 i).key.toNat },s.2) else s
def YW (h:List OpV):Nat→List OpV×List Int
 | 0 => (h, [0, 0, 0])
 | k+1 => YH k (YW h k)
def xy (h:List OpV):List OpV:=(YW h h.length).1
structure zlr (h:List OpV) (k:Nat) (s:List OpV×List Int):Prop where
 len:s.1.length=h.length
 now:s.2.length=3
 sm:∀ x∈s.2,0≤x∧x≤40
 old:∀ j,k≤j→nth s.1 j=nth h j
 same:∀ j,nth s.1 j={ nth h j with res:=(nth s.1 j).res }
 res:∀ j,(nth s.1 j).res=(nth h j).res∨(0≤(nth s.1 j).res∧(nth s.1 j).res≤40)
theorem zcy {α:Type} [Inhabited α] {l:List α} {i j:Nat} {v:α} (hi:i<l.length):nth (l.set i v) j=if j=i then v else nth l j:=by
 by_cases h:j=i
 ·subst h;rw [if_pos rfl,nth_eq (by simpa using hi)];simp
 ·rw [if_neg h]
  unfold nth
  rw [List.getD_eq_getElem?_getD,List.getD_eq_getElem?_getD,List.getElem?_set_ne (fun e=>h e.symm)]
theorem Zw {h:List OpV} (hs:∀ o∈h,za2 o):∀ k,k≤h.length→zlr h k (YW h k)
 | 0, _ => ⟨rfl, rfl, fun x hx => by have hx:x ∈ [0, 0, 0] := hx; simp at hx; omega, fun _ _ => rfl, fun _ => rfl, fun _ => .inl rfl⟩
 | k + 1,hk=>by
  have ih:=Zw hs k (by omega)
  show zlr h (k+1) (YH k (YW h k))
  generalize YW h k=s at ih
  have hkn:nth s.1 k=nth h k:=ih.old k (Nat.le_refl _)
  have hsm:=hs _ (zx (l:=h) (i:=k) (by omega))
  have hks:k<s.1.length:=by rw [ih.len];omega
  unfold YH
  rw [hkn]
  unfold za2 at hsm
  obtain ⟨s1,s2,s3,s4⟩:=hsm
  split
  ·refine ⟨ih.len,by simpa using ih.now,fun x hx=>?_,fun j hj=>ih.old j (by omega),ih.same,ih.res⟩
   rcases Vy hx with h1|h1
   ·exact ih.sm x h1
   ·rw [h1];exact s3
  ·split
   ·have hnow:=ih.sm _ (zx (l:=s.2) (i:=(nth h k).key.toNat) (by rw [ih.now];omega))
    refine ⟨by simpa using ih.len,ih.now,ih.sm,fun j hj=>?_,fun j=>?_,fun j=>?_⟩
    ·rw [zcy hks,if_neg (by omega)];exact ih.old j (by omega)
    ·dsimp only
     rw [zcy hks]
     by_cases hj:j=k
     ·rw [if_pos hj,hj]
     ·rw [if_neg hj];exact ih.same j
    ·dsimp only
     rw [zcy hks]
     by_cases hj:j=k
     ·rw [if_pos hj];exact .inr hnow
     ·rw [if_neg hj];exact ih.res j
   ·exact ⟨ih.len,ih.now,ih.sm,fun j hj=>ih.old j (by omega),ih.same,ih.res⟩
theorem Zv {h:List OpV} (hs:∀ o∈h,za2 o):(xy h).length=h.length:=(Zw hs _ (Nat.le_refl _)).len
theorem ZC {h:List OpV} (hs:∀ o∈h,za2 o) (j:Nat):nth (xy h) j={ nth h j with res:=(nth (xy h) j).res }:=(Zw hs _ (Nat.le_refl _)).same j
theorem zhF {h:List OpV} (hs:∀ o∈h,za2 o):∀ o∈xy h,za2 o:=fun o ho=>by
 obtain ⟨j,hj,rfl⟩:=List.getElem_of_mem ho
 rw [← nth_eq hj]
 have hI:=Zw hs _ (Nat.le_refl _)
 have hjl:j<h.length:=by rw [Zv hs] at hj;exact hj
 have h1:=hs _ (zx hjl)
 have h2:=ZC hs j
 have h3:=hI.res j
 change (nth (xy h) j).res=_∨_ at h3
 rw [h2]
 unfold za2 at h1 ⊢
 refine ⟨h1.1,h1.2.1,h1.2.2.1,?_⟩
 dsimp only
 rcases h3 with h3|h3
 ·rw [h3];exact h1.2.2.2
 ·exact h3
theorem zhE {h:List OpV} (hs:∀ o∈h,za2 o) (hi:∀ o∈h,Ul o):∀ o∈xy h,Ul o:=fun o ho=>by
 have hsm:=zhF hs o ho
 obtain ⟨j,hj,rfl⟩:=List.getElem_of_mem ho
 rw [← nth_eq hj] at hsm ⊢
 have hjl:j<h.length:=by rw [Zv hs] at hj;exact hj
 have h1:=hi _ (zx hjl)
 have h2:=ZC hs j
 rw [h2] at hsm ⊢
 unfold za2 at hsm
 unfold Ul at h1 ⊢
 dsimp only at hsm ⊢
 unfold I64 at *
 omega
end Go.Proofs.Ytmnmakhpjgjdaaa
/-
 simprooflaw23.lives.
-/
namespace Go.Proofs.Ytmnmakhpjgjdaaa
set_option linter.unusedVariables false
open Go.RowKit

def zkU:List OpV:=[⟨0,1,3,1,0,0,1,true⟩,⟨0,0,3,0,0,2,3,true⟩]
theorem zmc:zkr zkU=⟨5,8,3,[0,1],[(0,1,1)]⟩:=by decide +kernel
theorem zmb:zkC zkU=⟨6,9,3,[0,1],[]⟩:=by decide +kernel
theorem zlC:Xc zkU=0:=by decide +kernel
theorem zip:∀ o∈zkU,Ul o:=fun o ho=>by simp only [zkU,List.mem_cons,List.not_mem_nil,or_false] at ho;rcases ho with rfl|rfl <;> (unfold Ul I64;decide)
set_option maxHeartbeats 4000000 in
theorem zdJ:yn Try.prog 15 [] .fr (.bool true):=by
 have hA:=zap zkU (by decide) zip
 have hB:=WZ zkU (by decide) zip
 rw [zmc,zlC] at hA
 rw [zmb,zlC] at hB
 change yn _ _ [.list 8 [OpV.fv ⟨0,1,3,1,0,0,1,true⟩,OpV.fv ⟨0,0,3,0,0,2,3,true⟩]] _ (.tup [.agg [.int .i64 5,.int .i64 8,.int .i64 3,.list 1 ([0,1].map zA),.list 3 [[.int .i64 0,.int .i64 1,.int .i64 1]]],.int .i64 0]) at hA
 change yn _ _ [.list 8 [OpV.fv ⟨0,1,3,1,0,0,1,true⟩,OpV.fv ⟨0,0,3,0,0,2,3,true⟩]] _ (.tup [.agg [.int .i64 6,.int .i64 9,.int .i64 3,.list 1 ([0,1].map zA),.list 3 []],.int .i64 0]) at hB
 have s1:=zaP ⟨5,8,3,[0,1],[(0,1,1)]⟩ (by decide) (by decide)
 have s2:=zaP ⟨6,9,3,[0,1],[]⟩ (by decide) (by decide)
 change yn _ _ [.agg [.int .i64 5,.int .i64 8,.int .i64 3,.list 1 ([0,1].map zA),.list 3 [[.int .i64 0,.int .i64 1,.int .i64 1]]],.agg [.int .i64 5,.int .i64 8,.int .i64 3,.list 1 ([0,1].map zA),.list 3 [[.int .i64 0,.int .i64 1,.int .i64 1]]]] _ _ at s1
 change yn _ _ [.agg [.int .i64 6,.int .i64 9,.int .i64 3,.list 1 ([0,1].map zA),.list 3 []],.agg [.int .i64 6,.int .i64 9,.int .i64 3,.list 1 ([0,1].map zA),.list 3 []]] _ _ at s2
 refine yn.of_body (c:=(ZW Try.prog zH zB 45)) ⟨Try.func15,rfl,Try.ntmps15,by kernel_rfl⟩ (by simp [FV.hand]) (by exact Nat.le_of_ble_eq_true rfl) rfl ?_
 change FW _ _ _ ⟨[],[]⟩
 (repeat (first|refine FW.seq ?_|refine FW.region ?_|refine zc.nil ?_|refine zb rfl rfl rfl ?_|refine zU rfl rfl rfl rfl ?_|refine zW.nil ?_|refine zW.one rfl rfl rfl rfl rfl ?_))
 refine Vc (es:=[OpV.fv ⟨0,1,3,1,0,0,1,true⟩,OpV.fv ⟨0,0,3,0,0,2,3,true⟩]) rfl rfl rfl (by refine xO.agg rfl rfl rfl ?_;refine xO.agg rfl rfl rfl ?_;exact xO.nil) rfl rfl rfl rfl rfl rfl ?_
 refine zc.le ?_ (FLe.share 10 rfl rfl (by rfl))
 (repeat (first|refine FW.seq ?_|refine FW.region ?_|refine zc.nil ?_|refine zb rfl rfl rfl ?_|refine za rfl rfl rfl ?_))
 refine xI hA (by repeat (first|exact zI.nil|refine zI.cons (by exact Zr.plain rfl rfl) ?_)) rfl rfl ?_
 (repeat (first|refine FW.seq ?_|refine FW.region ?_|refine zc.nil ?_|refine zb rfl rfl rfl ?_|refine za rfl rfl rfl ?_|refine zw rfl rfl rfl rfl rfl ?_|refine zD rfl rfl rfl rfl rfl rfl rfl ?_|refine zj rfl rfl rfl rfl rfl rfl rfl rfl rfl ?_))
 refine xI hB (by repeat (first|exact zI.nil|refine zI.cons (by exact Zr.plain rfl rfl) ?_)) rfl rfl ?_
 (repeat (first|refine FW.seq ?_|refine FW.region ?_|refine zc.nil ?_|refine zb rfl rfl rfl ?_|refine za rfl rfl rfl ?_|refine zw rfl rfl rfl rfl rfl ?_|refine zD rfl rfl rfl rfl rfl rfl rfl ?_|refine zj rfl rfl rfl rfl rfl rfl rfl rfl rfl ?_))
 refine Vc (es:=[0,1].map zA) rfl rfl rfl (by refine xO.int rfl rfl ?_;refine xO.int rfl rfl ?_;exact xO.nil) rfl rfl rfl rfl rfl rfl ?_
 refine zc.le ?_ (FLe.share 21 rfl rfl rfl)
 refine zU rfl rfl rfl rfl ?_
 refine zW.one rfl rfl rfl rfl rfl ?_
 refine zW.one rfl rfl rfl rfl rfl ?_
 refine zW.one rfl rfl rfl rfl rfl ?_
 refine zW.nil ?_
 refine Vc (es:=[[.int .i64 0,.int .i64 1,.int .i64 1]]) rfl rfl rfl (by refine xO.agg rfl rfl rfl ?_;exact xO.nil) rfl rfl rfl rfl rfl rfl ?_
 refine zc.le ?_ (FLe.share 23 rfl rfl rfl)
 (repeat (first|refine FW.seq ?_|refine FW.region ?_|refine zc.nil ?_|refine zU rfl rfl rfl rfl ?_|refine zD rfl rfl rfl rfl rfl rfl rfl ?_|refine zj rfl rfl rfl rfl rfl rfl rfl rfl rfl ?_|refine zW.nil ?_|refine zW.one rfl rfl rfl rfl rfl ?_|refine zW.agg rfl rfl rfl rfl (List.cons_ne_nil _ _) rfl ?_))
 refine Vc (es:=[0,1].map zA) rfl rfl rfl (by refine xO.int rfl rfl ?_;refine xO.int rfl rfl ?_;exact xO.nil) rfl rfl rfl rfl rfl rfl ?_
 refine zc.le ?_ (FLe.share 26 rfl rfl rfl)
 (repeat (first|refine FW.seq ?_|refine FW.region ?_|refine zc.nil ?_|refine zU rfl rfl rfl rfl ?_|refine za rfl rfl rfl ?_|refine zD rfl rfl rfl rfl rfl rfl rfl ?_|refine zj rfl rfl rfl rfl rfl rfl rfl rfl rfl ?_|refine yL rfl rfl rfl rfl ?_|refine zM rfl rfl rfl rfl ?_|refine za rfl rfl ⟨_,_,rfl,rfl,rfl⟩ ?_|refine yL rfl rfl rfl ⟨_,_,rfl,rfl,rfl⟩ ?_|refine yV rfl rfl rfl (by decide) rfl rfl (by simp;done) rfl rfl rfl ⟨_,_,rfl,rfl,rfl⟩ ?_|refine zW.nil ?_|refine zW.one rfl rfl rfl rfl rfl ?_|refine zW.agg rfl rfl rfl rfl (List.cons_ne_nil _ _) rfl ?_))
 refine yS s1 (by repeat (first|exact zI.nil|refine zI.cons (by exact Zr.plain rfl rfl) ?_)) rfl ⟨_,_,rfl,rfl,rfl⟩ ?_
 (repeat (first|refine za rfl rfl rfl ?_|refine zM rfl rfl rfl rfl ?_|refine yV rfl rfl rfl (by decide) rfl rfl (by simp;done) rfl rfl rfl ⟨_,_,rfl,rfl,rfl⟩ ?_))
 refine yS s2 (by repeat (first|exact zI.nil|refine zI.cons (by first|exact Zr.plain rfl rfl|exact Zr.sub rfl rfl (by repeat (first|exact FV.le.refl _|exact FV.le.nil _|refine FV.le.agg ?_|refine FV.le.tup ?_|exact LeL.nil|refine LeL.cons ?_ ?_|exact FV.le.undef _))) ?_)) rfl ⟨_,_,rfl,rfl,rfl⟩ ?_
 (repeat (first|refine zc.nil ?_|refine zb rfl rfl rfl ?_|refine zM rfl rfl rfl rfl ?_))
 exact FW.ret ⟨.inl rfl,yd rfl rfl rfl rfl⟩
end Go.Proofs.Ytmnmakhpjgjdaaa
/-
 simproofref23.Consistent,at plain values.
-/
namespace Go.Proofs.Ytmnmakhpjgjdaaa
set_option linter.unusedVariables false
open Go.RowKit

set_option maxHeartbeats 4000000 in
theorem zhH (l:List Int) (hl:∀ x∈l,I64 x) (hlen:l.length≤9223372036854775807):yn Try.prog 11 [.list 1 (l.map zA)] (.ow 43 8) (.list 8 ((xy (zT l 12)).map OpV.fv)):=by
 have hR:=ze4 l 12 hl hlen (by unfold I64;omega)
 obtain ⟨_,hin,hsm,hn⟩:=YP l (most:=12) (by omega) (by omega)
 generalize zT l 12=H at *
 have hI:=fun k hk=>Zw hsm k hk
 unfold xy
 have hst:∀ k,YW H (k+1)=YH k (YW H k):=fun _=>rfl
 have h0:YW H 0=(H,[0,0,0]):=rfl
 generalize YW H=S at *
 refine yn.of_body (c:=(ZW Try.prog zH zB 51)) ⟨Try.func11,rfl,Try.ntmps11,by kernel_rfl⟩ (by simp [FV.hand]) (by exact Nat.le_of_ble_eq_true rfl) rfl ?_
 change FW _ _ _ ⟨[(0,.list 1 (l.map zA))],[]⟩
 (repeat (first|refine FW.seq ?_|refine FW.region ?_|refine zc.nil ?_|refine zb rfl rfl rfl ?_|refine za rfl rfl rfl ?_))
 refine Vd hR (by repeat (first|exact zI.nil|refine zI.cons (by exact Zr.plain rfl rfl) ?_)) (List.length_map _) rfl rfl rfl ?_
 (repeat (first|refine FW.seq ?_|refine FW.region ?_|refine FW.block ?_|refine zc.nil ?_|refine zb rfl rfl rfl ?_|refine zaE rfl rfl rfl rfl rfl rfl rfl rfl (by simp;done) (by simp;done) rfl rfl rfl ?_))
 obtain ⟨n,hnn⟩:∃ n,H.length=n:=⟨_,rfl⟩
 refine FW.loop (fun k:Nat=>⟨[(0,.list 1 (l.map zA)),(3,.own 100 0 0 n),(4,.own 101 0 0 3),(5,.int .i64 k)],[(100,⟨0,.own,43,8,(S k).1.map OpV.fv⟩),(101,⟨0,.own,3,1,(S k).2.map zA⟩)]⟩) (fun k=>k≤n) (fun k=>n - k) 0 (Nat.zero_le _) ?_ ?_
 ·rw [h0,hnn]
  exact (FLe.cv [⟨100,some 7,0+1,⟨0,.own,43,8,H.map OpV.fv⟩⟩,⟨101,some 8,0+1,⟨0,.own,3,1,[0,0,0].map zA⟩⟩] (by repeat (first|exact .nil|refine .old rfl (by decide) rfl ?_)) (by repeat (first|exact .nil|refine .cons (.plain rfl rfl rfl) ?_|refine .cons (.own rfl (.head _) rfl rfl) ?_|refine .cons (.own rfl (.tail _ (.head _)) rfl rfl) ?_)))
 intro k hk
 have hIk:=hI k (by omega)
 have hIn:=hst k
 unfold YH at hIn
 obtain ⟨⟨T,N⟩,hT⟩:∃ T,S k=T:=⟨_,rfl⟩
 rw [hT] at hIk hIn ⊢
 dsimp only at hIn ⊢
 have hTl:T.length=n:=by rw [← hnn];exact hIk.len
 have hNl:N.length=3:=hIk.now
 have hold:=hIk.old
 dsimp only at hold
 (repeat (first|refine FW.seq ?_|refine FW.region ?_|refine zc.nil ?_|refine za rfl rfl rfl ?_|refine yH rfl rfl rfl (by decide) rfl rfl ?_|refine zZ rfl rfl rfl rfl ?_))
 refine FW.cond rfl (fun h=>?_) (fun h=>?_)
 ·have hlt:k<n:=by simpa using h
  clear h
  have hkT:k<T.length:=by omega
  have hs:=hsm _ (zx (l:=H) (i:=k) (by omega))
  rw [← hold k (Nat.le_refl _)] at hs
  obtain ⟨o,ho⟩:∃ o,nth T k=o:=⟨_,rfl⟩
  rw [ho] at hs hIn
  obtain ⟨⟨s1,s2⟩,⟨s3,s4⟩,⟨s5,s6⟩,s7,s8⟩:=hs
  obtain ⟨y,hy⟩:∃ y:Nat,o.key=y:=⟨o.key.toNat,by omega⟩
  have hyN:y<N.length:=by omega
  have hy3:y<3:=by omega
  rw [show o.key.toNat=y by omega] at hIn
  (repeat (first|refine FW.seq ?_|refine FW.region ?_|refine FW.block ?_|refine FW.skip ?_|refine zc.nil ?_|refine za rfl rfl rfl ?_|refine zL rfl rfl rfl rfl rfl rfl (by decide) rfl (by first|omega|(simp;omega)) rfl rfl ?_|refine zi rfl rfl rfl rfl rfl rfl (by decide) rfl rfl ?_|refine zp rfl rfl rfl rfl rfl (by first|omega|(simp;omega)) (by first|exact zf (by omega)|rfl) rfl rfl rfl rfl ?_|refine yL rfl rfl rfl rfl ?_))
  rw [ho]
  skip
  refine FW.cond rfl (fun h=>?_) (fun h=>?_)
  ·have h:o.k=1:=by simpa using h
   rw [if_pos h] at hIn
   (repeat (first|refine FW.draw ?_|refine zS rfl rfl rfl ?_|refine ZN rfl rfl rfl rfl rfl rfl (by decide) rfl (by first|omega|(simp;omega)) rfl rfl ?_|refine xj rfl rfl rfl rfl rfl rfl (by decide) rfl rfl ?_|refine yC rfl rfl rfl rfl rfl (by first|omega|(simp;omega)) (by first|exact zf (by omega)|rfl) rfl rfl rfl rfl ?_))
   refine ZN rfl rfl (by rw [ho];exact hy) rfl rfl rfl (by decide) rfl hy3 rfl rfl ?_
   (repeat (first|refine zG.nil ?_|refine zaw rfl rfl rfl rfl rfl rfl (by simp;omega) (by exact zf (by omega)) rfl rfl rfl ?_))
   refine ⟨by kernel_rfl,?_⟩
   rw [ho]
   (repeat (first|refine FW.region ?_|refine zc.nil ?_|refine zb rfl rfl rfl ?_|refine za rfl rfl rfl ?_|refine zt rfl rfl (by omega) rfl rfl ?_))
   refine ⟨k+1,by omega,by omega,?_⟩
   rw [hIn]
   dsimp only
   rw [List.map_set]
   exact (FLe.cv [⟨100,some 100,0,⟨0,.own,43,8,T.map OpV.fv⟩⟩,⟨101,some 101,0,⟨0,.own,3,1,(N.map zA).set y [.int .i64 o.arg]⟩⟩] (by repeat (first|exact .nil|refine .old rfl (by decide) rfl ?_)) (by repeat (first|exact .nil|refine .cons (.plain rfl rfl rfl) ?_|refine .cons (.own rfl (.head _) rfl rfl) ?_|refine .cons (.own rfl (.tail _ (.head _)) rfl rfl) ?_)))
  ·have h:¬ o.k=1:=by simpa using h
   rw [if_neg h] at hIn
   (repeat (first|refine FW.seq ?_|refine FW.region ?_|refine zc.nil ?_|refine za rfl rfl rfl ?_|refine zL rfl rfl rfl rfl rfl rfl (by decide) rfl (by first|omega|(simp;omega)) rfl rfl ?_|refine zi rfl rfl rfl rfl rfl rfl (by decide) rfl rfl ?_|refine zp rfl rfl rfl rfl rfl (by first|omega|(simp;omega)) (by first|exact zf (by omega)|rfl) rfl rfl rfl rfl ?_))
   rw [ho]
   skip
   refine FW.cond rfl (fun h=>?_) (fun h=>?_)
   ·rw [if_pos h] at hIn
    (repeat (first|refine FW.region ?_|refine za rfl rfl rfl ?_|refine zL rfl rfl rfl rfl rfl rfl (by decide) rfl (by first|omega|(simp;omega)) rfl rfl ?_|refine zi rfl rfl rfl rfl rfl rfl (by decide) rfl rfl ?_|refine zp rfl rfl rfl rfl rfl (by first|omega|(simp;omega)) (by first|exact zf (by omega)|rfl) rfl rfl rfl rfl ?_))
    refine zL rfl rfl (by rw [ho];exact hy) rfl rfl rfl (by decide) rfl hy3 rfl rfl ?_
    (repeat (first|refine FW.region ?_|refine zc.nil ?_|refine zb rfl rfl rfl ?_|refine za rfl rfl rfl ?_|refine zL rfl rfl rfl rfl rfl rfl (by decide) rfl (by first|omega|(simp;omega)) rfl rfl ?_|refine zi rfl rfl rfl rfl rfl rfl (by decide) rfl rfl ?_|refine zp rfl rfl rfl rfl rfl (by first|omega|(simp;omega)) (by first|exact zf (by omega)|rfl) rfl rfl rfl rfl ?_|refine ZP rfl rfl rfl rfl rfl rfl (by first|omega|(simp;omega)) (by first|exact zf (by omega)|rfl) rfl rfl rfl ?_|refine zt rfl rfl (by omega) rfl rfl ?_))
    rw [ho]
    refine ⟨k+1,by omega,by omega,?_⟩
    rw [hIn]
    dsimp only
    rw [List.map_set]
    exact (FLe.cv [⟨100,some 100,0,⟨0,.own,43,8,(T.map OpV.fv).set k (OpV.fv { o with res:=nth N y })⟩⟩,⟨101,some 101,0,⟨0,.own,3,1,N.map zA⟩⟩] (by repeat (first|exact .nil|refine .old rfl (by decide) rfl ?_)) (by repeat (first|exact .nil|refine .cons (.plain rfl rfl rfl) ?_|refine .cons (.own rfl (.head _) rfl rfl) ?_|refine .cons (.own rfl (.tail _ (.head _)) rfl rfl) ?_)))
   ·rw [if_neg (by rw [h];decide)] at hIn
    (repeat (first|refine FW.region ?_|refine FW.skip ?_|refine zc.nil ?_|refine zb rfl rfl rfl ?_|refine za rfl rfl rfl ?_|refine zt rfl rfl (by omega) rfl rfl ?_))
    refine ⟨k+1,by omega,by omega,?_⟩
    rw [hIn]
    exact (FLe.cv [⟨100,some 100,0,⟨0,.own,43,8,T.map OpV.fv⟩⟩,⟨101,some 101,0,⟨0,.own,3,1,N.map zA⟩⟩] (by repeat (first|exact .nil|refine .old rfl (by decide) rfl ?_)) (by repeat (first|exact .nil|refine .cons (.plain rfl rfl rfl) ?_|refine .cons (.own rfl (.head _) rfl rfl) ?_|refine .cons (.own rfl (.tail _ (.head _)) rfl rfl) ?_)))
 ·have hk:k=n:=by simp at h;omega
  rw [hk] at hT
  rw [hnn,hT]
  (repeat (first|refine FW.seq ?_|refine FW.region ?_|refine FW.exit ?_|refine zc.nil ?_|refine zb rfl rfl rfl ?_|refine za rfl rfl rfl ?_))
  exact FW.ret ⟨.inl rfl,zfP rfl rfl rfl (by simp;omega) (by decide) rfl (fun e he=>by obtain ⟨x,_,rfl⟩:=List.mem_map.1 he;rfl)⟩
end Go.Proofs.Ytmnmakhpjgjdaaa
/-
 Generated histories and checked ones,by pairs.
-/
namespace Go.Proofs.Ytmnmakhpjgjdaaa
set_option linter.unusedVariables false

theorem zkQ {ev:List EvV} {out:List OpV} {opn:List Int} (hg:Xd ev) (hl:ev.length≤40) (h:XT ev ev.length out opn) (hc:xr out=0) (h300:out.length≤300) (hw:∀ o∈out,wfB o=true):WFH out∧∀ o∈out,0≤o.p∧o.p<4:=by
 refine ⟨⟨h300,hw,List.pairwise_iff_getElem.2 fun i j hi hj hij=>?_⟩,fun o ho=>?_⟩
 ·rw [← nth_eq hi,← nth_eq hj]
  refine ⟨h.mono i j hij hj,fun hd=>⟨fun e=>?_,fun hd2 e=>h.one i j hij hj hd hd2 e.symm⟩,fun e=>⟨(h.seq i j hij hj e).1,Int.le_of_lt (h.seq i j hij hj e).2⟩⟩
  obtain ⟨r,r1,r2,r3,_⟩:=h.ret i hi hd
  obtain ⟨c,c1,c2,c3,_⟩:=h.call j hj
  have:r=c:=by omega
  subst this
  rw [r3] at c3;cases c3
 ·obtain ⟨j,hj,rfl⟩:=List.getElem_of_mem ho
  rw [← nth_eq hj]
  obtain ⟨c,_,c2,_,c4⟩:=h.call j hj
  rw [c4]
  exact (hg c c2).1
theorem zjz {l:List OpV} (h:xr l=0):l.length≤300∧∀ o∈l,wfB o=true:=by
 unfold xr at h
 split at h
 ·cases h
 ·refine ⟨by omega,fun o ho=>?_⟩
  have key:∀ (n k:Nat),ye l k n=0→∀ j,k≤j→j<k+n→zcX l j=0:=by
   intro n
   induction n with
   | zero => intro k _ j h1 h2; omega
   | succ n ih=>
    intro k hk j h1 h2
    unfold ye at hk
    split at hk
    ·rename_i he
     rcases Nat.eq_or_lt_of_le h1 with e|e
     ·rw [← e];exact he
     ·exact ih (k+1) hk j e (by omega)
    ·rename_i he;exact absurd hk he
  obtain ⟨j,hj,rfl⟩:=List.getElem_of_mem ho
  have:=key l.length 0 h j (Nat.zero_le _) (by omega)
  rw [← nth_eq hj]
  unfold zcX at this
  by_cases hw:wfB (nth l j)=false
  ·rw [if_pos hw] at this;cases this
  ·simpa using hw
end Go.Proofs.Ytmnmakhpjgjdaaa
/-
 The generated histories of registers: their domain,and the consistent ones,in plain Lean.
-/
namespace Go.Proofs.Ytmnmakhpjgjdaaa
set_option linter.unusedVariables false
open Go.RowKit

/-! ### histories by pairs -/
theorem zj4 (l:List Int) {most:Int} (h0:0≤most) (h1:most≤20):WFH (zT l most):=by
 have hf:=YP l h0 h1
 have hw:=zjz hf.1
 have hg:=Wj l most
 have hl:=Vr l most
 have inv:=Vb (YL l) hg hl _ (Nat.le_refl _)
 exact (zkQ hg hl inv.ok hf.1 hw.1 hw.2).1
theorem WFH.likes {l l' : List OpV} (h:WFH l) (hl:l'.length=l.length) (hf:∀ j,j<l.length→(nth l' j).p=(nth l j).p∧(nth l' j).k=(nth l j).k∧(nth l' j).call=(nth l j).call∧(nth l' j).ret=(nth l j).ret∧(nth l' j).done=(nth l j).done∧((nth l j).done=false→(nth l' j).res=(nth l j).res)):WFH l':=by
 refine ⟨by rw [hl];exact h.len,fun o ho=>?_,List.pairwise_iff_getElem.2 fun i j hi hj hij=>?_⟩
 ·obtain ⟨j,hj,rfl⟩:=List.getElem_of_mem ho
  rw [← nth_eq hj]
  obtain ⟨h1,h2,h3,h4,h5,h6⟩:=hf j (by omega)
  have hw:=h.at (i:=j) (by omega)
  simp only [wfB,Bool.and_eq_true,Bool.or_eq_true,decide_eq_true_eq] at hw ⊢
  rw [h1,h2,h3,h4,h5]
  refine ⟨hw.1,?_⟩
  cases hd:(nth l j).done with
  | true => exact .inl rfl
  | false => right; rw [h6 hd]; rw [hd] at hw; simpa using hw.2
 ·rw [← nth_eq hi,← nth_eq hj]
  have hp:=h.pair hij (by omega)
  obtain ⟨a1,_,a3,a4,a5,_⟩:=hf i (by omega)
  obtain ⟨b1,_,b3,b4,b5,_⟩:=hf j (by omega)
  unfold zme at hp ⊢
  rw [a1,a3,a4,a5,b1,b3,b4,b5]
  exact hp
/-! ### the domain -/
structure zkE (s:Zb):Prop where
 kd:∀ j,j<s.out.length→(nth s.out j).k=0∨((nth s.out j).k=1∧1≤(nth s.out j).arg∧(nth s.out j).arg≤s.ws.length)
 up:∀ i j,i<j→j<s.out.length→(nth s.out i).k=1→(nth s.out j).k=1→(nth s.out i).arg<(nth s.out j).arg
theorem zkE.add {s:Zb} (h:zkE s) {o:OpV} {ws:List Int} {opn lat:List Int} (hw:s.ws.length≤ws.length) (hk:o.k=0∨(o.k=1∧o.arg=(s.ws.length:Int)+1∧s.ws.length+1≤ws.length)):zkE ⟨s.out++[o],ws,opn,lat⟩:=by
 have old:∀ i,i<s.out.length→nth (s.out++[o]) i=nth s.out i:=fun i hi=>yp hi
 have new:nth (s.out++[o]) s.out.length=o:=yJ
 refine ⟨fun j hj=>?_,fun i j hij hj h1 h2=>?_⟩
 ·dsimp only at hj ⊢
  rw [List.length_append,List.length_singleton] at hj
  by_cases e:j<s.out.length
  ·rw [old j e];have:=h.kd j e;omega
  ·obtain rfl:j=s.out.length:=by omega
   rw [new];omega
 ·dsimp only at hj h1 h2 ⊢
  rw [List.length_append,List.length_singleton] at hj
  rw [old i (by omega)] at h1 ⊢
  have hi:=h.kd i (by omega)
  by_cases e:j<s.out.length
  ·rw [old j e] at h2 ⊢;exact h.up i j hij e h1 h2
  ·obtain rfl:j=s.out.length:=by omega
   rw [new] at h2 ⊢;omega
theorem zkE.put {s:Zb} (h:zkE s) {j:Nat} {o:OpV} (h1:o.k=(nth s.out j).k) (h2:o.arg=(nth s.out j).arg):zkE { s with out:=s.out.set j o }:=by
 have key:∀ i,i<s.out.length→(nth (s.out.set j o) i).k=(nth s.out i).k∧(nth (s.out.set j o) i).arg=(nth s.out i).arg:=fun i hi=>by
  by_cases e:j=i
  ·subst e;rw [zE hi];exact ⟨h1,h2⟩
  ·rw [zF e];exact ⟨rfl,rfl⟩
 refine ⟨fun i hi=>?_,fun a b hab hb h3 h4=>?_⟩
 ·dsimp only at hi ⊢
  rw [List.length_set] at hi
  rw [(key i hi).1,(key i hi).2];exact h.kd i hi
 ·dsimp only at hb h3 h4 ⊢
  rw [List.length_set] at hb
  rw [(key a (by omega)).1] at h3
  rw [(key b hb).1] at h4
  rw [(key a (by omega)).2,(key b hb).2]
  exact h.up a b hab hb h3 h4
theorem zdZ (ev:List EvV) (fresh:Bool):∀ k,zkE (xW ev fresh k)
 | 0 => ⟨fun j hj => absurd hj (Nat.not_lt_zero _), fun i j _ hj => absurd hj (Nat.not_lt_zero _)⟩
 | k+1=>by
  have ih:=zdZ ev fresh k
  have hs:xW ev fresh (k+1)=Xq ev fresh k (xW ev fresh k):=rfl
  rw [hs]
  generalize xW ev fresh k=s at ih
  unfold Xq
  split
  ·unfold zay
   split
   ·exact ih.add (by simp) (.inr ⟨rfl,rfl,by simp⟩)
   ·exact ih.add (Nat.le_refl _) (.inl rfl)
  ·unfold zfN
   exact ih.put rfl rfl
theorem zj3 (l:List Int) (most:Int):xf (zT l most):=fun i hi=>by
 have h:=zdZ (xg l most) (YL l) (xg l most).length
 change i<(xW (xg l most) (YL l) (xg l most).length).out.length at hi
 unfold okW
 show _∨_
 unfold zT
 generalize xW (xg l most) (YL l) (xg l most).length=s at *
 rcases h.kd i hi with h1|h1
 ·exact .inl h1
 ·refine .inr ⟨h1.1,by omega,fun j hj=>?_⟩
  cases hb:wOf (nth s.out i).key (nth s.out i).arg (nth s.out j) with
  | false => rfl
  | true =>
   obtain ⟨w1,_,w3⟩:=ZT.1 hb
   have:=h.up j i hj hi w1 h1.1
   omega
theorem zeC {l l' : List OpV} (h:xf l) (hl:l'.length=l.length) (hf:∀ j,j<l.length→(nth l' j).k=(nth l j).k∧(nth l' j).key=(nth l j).key∧(nth l' j).arg=(nth l j).arg):xf l':=fun i hi=>by
 have hi' : i<l.length:=by omega
 obtain ⟨h1,h2,h3⟩:=hf i hi'
 unfold okW
 rw [h1,h2,h3]
 rcases h i hi' with h4|⟨h4,h5,h6⟩
 ·exact .inl h4
 ·refine .inr ⟨h4,h5,fun j hj=>?_⟩
  have h7:=h6 j hj
  obtain ⟨g1,g2,g3⟩:=hf j (by omega)
  unfold wOf at h7 ⊢
  rw [g1,g2,g3];exact h7
/-! ### the consistent ones -/
def VW (l:List OpV) (k:Nat) (key v:Int):Prop:=(v=0∧∀ j,j<k→(nth l j).k=1→(nth l j).key≠key)∨∃ w,w<k∧(nth l w).k=1∧(nth l w).key=key∧(nth l w).arg=v∧∀ j,w<j→j<k→(nth l j).k=1→(nth l j).key≠key
def zb5 (l:List OpV):Prop:=∀ i,i<l.length→(nth l i).k=0→(nth l i).done=true→VW l i (nth l i).key (nth l i).res
theorem zdF {l l' : List OpV} {k:Nat} {key v:Int} (hf:∀ j,(nth l' j).k=(nth l j).k∧(nth l' j).key=(nth l j).key∧(nth l' j).arg=(nth l j).arg) (h:VW l k key v):VW l' k key v:=by
 unfold VW at h ⊢
 rcases h with ⟨h1,h2⟩|⟨w,h1,h2,h3,h4,h5⟩
 ·refine .inl ⟨h1,fun j hj hk=>?_⟩
  rw [(hf j).1] at hk;rw [(hf j).2.1];exact h2 j hj hk
 ·refine .inr ⟨w,h1,by rw [(hf w).1];exact h2,by rw [(hf w).2.1];exact h3,by rw [(hf w).2.2];exact h4,fun j hj hj2 hk=>?_⟩
  rw [(hf j).1] at hk;rw [(hf j).2.1];exact h5 j hj hj2 hk
structure zls (h:List OpV) (k:Nat) (s:List OpV×List Int):Prop where
 nw:∀ c:Nat,c<3→VW h k c (nth s.2 c)
 rd:∀ i,i<k→(nth h i).k=0→(nth h i).done=true→VW h i (nth h i).key (nth s.1 i).res
 un:∀ j,(nth h j).done=false→(nth s.1 j).res=(nth h j).res
theorem Wf {h:List OpV} (hs:∀ o∈h,za2 o) (hd:xf h):∀ k,k≤h.length→zls h k (YW h k)
 | 0,_=>⟨fun c hc=>.inl ⟨by
   have h3:c=0∨c=1∨c=2:=by omega
   rcases h3 with rfl|rfl|rfl <;> rfl,fun j hj=>absurd hj (Nat.not_lt_zero _)⟩,fun i hi=>absurd hi (Nat.not_lt_zero _),fun _ _=>rfl⟩
 | k + 1,hk=>by
  have ih:=Wf hs hd k (by omega)
  have hI:=Zw hs k (by omega)
  show zls h (k+1) (YH k (YW h k))
  generalize YW h k=s at ih hI
  have hkn:nth s.1 k=nth h k:=hI.old k (Nat.le_refl _)
  have hsm:=hs _ (zx (l:=h) (i:=k) (by omega))
  have hks:k<s.1.length:=by rw [hI.len];omega
  unfold za2 at hsm
  obtain ⟨y,hy⟩:∃ y:Nat,(nth h k).key=y:=⟨(nth h k).key.toNat,by omega⟩
  have hyt:(nth h k).key.toNat=y:=by omega
  have hy3:y<3:=by omega
  have hstay:∀ c:Nat,c<3→¬ ((nth h k).k=1∧(nth h k).key=c)→VW h (k+1) c (nth s.2 c):=fun c hc hn=>by
   rcases ih.nw c hc with ⟨h1,h2⟩|⟨w,h1,h2,h3,h4,h5⟩
   ·refine .inl ⟨h1,fun j hj hj1 e=>?_⟩
    by_cases hjk:j=k
    ·rw [hjk] at hj1 e;exact hn ⟨hj1,e⟩
    ·exact h2 j (by omega) hj1 e
   ·refine .inr ⟨w,by omega,h2,h3,h4,fun j hj hj2 hj1 e=>?_⟩
    by_cases hjk:j=k
    ·rw [hjk] at hj1 e;exact hn ⟨hj1,e⟩
    ·exact h5 j hj (by omega) hj1 e
  unfold YH
  rw [hkn,hyt]
  split
  ·rename_i h1
   refine ⟨fun c hc=>?_,fun i hi hi0 hid=>?_,ih.un⟩
   ·dsimp only
    by_cases hcy:c=y
    ·subst hcy
     rw [zE (by rw [hI.now];exact hc)]
     exact .inr ⟨k,by omega,h1,hy,rfl,fun j hj hj2=>by omega⟩
    ·rw [zF (fun e=>hcy e.symm)]
     exact hstay c hc fun e=>hcy (by omega)
   ·by_cases hik:i=k
    ·rw [hik] at hi0;omega
    ·exact ih.rd i (by omega) hi0 hid
  ·rename_i h1
   have hns:∀ c:Nat,c<3→VW h (k+1) c (nth s.2 c):=fun c hc=>hstay c hc fun e=>h1 e.1
   split
   ·rename_i h2
    refine ⟨hns,fun i hi hi0 hid=>?_,fun j hj=>?_⟩
    ·dsimp only
     by_cases hik:i=k
     ·subst hik
      rw [zE hks,hy]
      exact ih.nw y hy3
     ·rw [zF (fun e=>hik e.symm)]
      exact ih.rd i (by omega) hi0 hid
    ·dsimp only
     by_cases hjk:j=k
     ·rw [hjk] at hj;rw [hj] at h2;cases h2
     ·rw [zF (fun e=>hjk e.symm)];exact ih.un j hj
   ·rename_i h2
    refine ⟨hns,fun i hi hi0 hid=>?_,ih.un⟩
    by_cases hik:i=k
    ·rw [hik] at hid;exact absurd hid h2
    ·exact ih.rd i (by omega) hi0 hid
theorem zet {h:List OpV} (hs:∀ o∈h,za2 o) (hd:xf h):zb5 (xy h):=fun i hi h0 hdn=>by
 have hJ:=Wf hs hd _ (Nat.le_refl h.length)
 have hsame:=ZC hs
 have hf:∀ j,(nth (xy h) j).k=(nth h j).k∧(nth (xy h) j).key=(nth h j).key∧(nth (xy h) j).arg=(nth h j).arg:=fun j=>by
  have:=hsame j
  rw [this];exact ⟨rfl,rfl,rfl⟩
 have hi' : i<h.length:=by rw [Zv hs] at hi;exact hi
 have e2:(nth (xy h) i).done=(nth h i).done:=by have:=hsame i;rw [this]
 rw [(hf i).1] at h0
 rw [e2] at hdn
 rw [(hf i).2.1]
 exact zdF hf (hJ.rd i hi' h0 hdn)
theorem zgb {h:List OpV} (hs:∀ o∈h,za2 o) (hd:xf h) (hw:WFH h):WFH (xy h):=
 hw.likes (Zv hs) fun j hj=>by
  have h1:=ZC hs j
  have h2:=(Wf hs hd _ (Nat.le_refl h.length)).un j
  refine ⟨by rw [h1],by rw [h1],by rw [h1],by rw [h1],by rw [h1],fun hdn=>h2 hdn⟩
theorem zga {h:List OpV} (hs:∀ o∈h,za2 o) (hd:xf h):xf (xy h):=
 zeC hd (Zv hs) fun j hj=>by
  have h1:=ZC hs j
  refine ⟨by rw [h1],by rw [h1],by rw [h1]⟩
end Go.Proofs.Ytmnmakhpjgjdaaa
/-
 A history in which each read returns the value of the last write holds.
-/
namespace Go.Proofs.Ytmnmakhpjgjdaaa
set_option linter.unusedVariables false
open Go.RowKit

theorem zfx {E:List (Nat×Nat)} (hE:∀ e∈E,e.1<e.2) {t:Nat}:∀ {k x:Nat},wkB E t (k+1) x=true→x<t
 | 0, x, h => by
  obtain ⟨y,h1,h2⟩:=YT.1 h
  rw [Vl] at h2
  subst h2;exact hE _ h1
 | k+1, x, h => by
  obtain ⟨y,h1,h2⟩:=YT.1 h
  have h3:=zfx hE h2
  have h4:=hE _ h1
  dsimp only at h4;omega
theorem zcm {l:List OpV} (hE:∀ e∈edC l,e.1<e.2) {x t:Nat} (h:YZ l x t≠[]):x<t:=by
 rw [ziG] at h
 cases hd:dsV (edC l) t l.length x with
 | none => exact absurd (zkY.2 hd) h
 | some k => exact zfx hE (Uo hd).2.1
theorem Vv {α:Type} {L:List α} (h:(!L.isEmpty)=true):L≠[]:=by
 rintro rfl;cases h
theorem Yo {l:List OpV} (hd:xf l) (hL:zb5 l) {i:Nat} (hi:i<l.length) (h0:(nth l i).k=0) (hdn:(nth l i).done=true) (hr:(nth l i).res≠0) :
  ∃ w,w<i∧xx l i=some w∧(nth l w).k=1∧(nth l w).key=(nth l i).key∧(nth l w).arg=(nth l i).res∧∀ j,w<j→j<i→(nth l j).k=1→(nth l j).key≠(nth l i).key:=by
 rcases hL i hi h0 hdn with ⟨h1,_⟩|⟨w,h1,h2,h3,h4,h5⟩
 ·exact absurd h1 hr
 ·refine ⟨w,h1,?_,h2,h3,h4,h5⟩
  have hinc:xC l w=true:=by
   unfold xC
   rw [h2,h3,h4]
   simp only [decide_true,Bool.true_and,Bool.or_eq_true]
   right
   rw [zhz]
   exact ⟨i,hi,zj0.2 ⟨h0,hdn,rfl,rfl⟩⟩
  unfold xx
  rw [if_neg (by simp [h0,hr])]
  exact zjw hd (by omega) (ZT.2 ⟨h2,h3,h4⟩) hinc
theorem Ur {l:List OpV} (hd:xf l) (hL:zb5 l):∀ e∈edC l,e.1<e.2:=fun ⟨a,b⟩ he=>by
 obtain ⟨ha,hb,h⟩:=zeF.1 he
 rcases h with h|h
 ·exact (Vz h).2.1
 ·obtain ⟨_,h1,h2,_,_⟩:=zcl h
  obtain ⟨hb1,hb2⟩:=Zh.1 hb
  obtain ⟨w,w1,w2,_⟩:=Yo hd hL hb1 h1 (xR h1 hb2) h2
  rw [h] at w2
  injection w2 with w2
  show a<b
  omega
theorem zij {l:List OpV} (hd:xf l) (hL:zb5 l):zbj l=none:=by
 unfold zbj
 rw [List.find?_eq_none]
 intro i hi
 obtain ⟨h1,h2⟩:=Zh.1 hi
 unfold Vh
 by_cases h0:(nth l i).k=0
 ·by_cases hr:(nth l i).res≠0
  ·obtain ⟨w,_,w2,_⟩:=Yo hd hL h1 h0 (xR h0 h2) hr
   rw [w2];simp
  ·simp at hr;simp [hr]
 ·simp [h0]
theorem zjT {l:List OpV} (hd:xf l) (hL:zb5 l):Uf l=[]:=zf3 (Xj l) id (Ur hd hL)
theorem zih {l:List OpV} (hd:xf l) (hL:zb5 l):zbg l=none:=by
 unfold zbg
 rw [List.findSome?_eq_none_iff]
 intro i hi
 obtain ⟨h1,h2⟩:=Zh.1 hi
 unfold Ys
 cases hf:xx l i with
 | none => rfl
 | some w1 =>
  rw [Option.bind_some,Option.map_eq_none_iff,List.find?_eq_none]
  intro w2 _ hb
  unfold zcA at hb
  simp only [Bool.and_eq_true,decide_eq_true_eq] at hb
  obtain ⟨⟨⟨⟨b1,b2⟩,b3⟩,b4⟩,b5⟩:=hb
  have g1:=zcm (Ur hd hL) (Vv b4)
  have g2:=zcm (Ur hd hL) (Vv b5)
  obtain ⟨_,k1,k2,_,_⟩:=zcl hf
  obtain ⟨w,w1',w2',w3,w4,w5,w6⟩:=Yo hd hL h1 k1 (xR k1 h2) k2
  rw [hf] at w2'
  injection w2' with w2'
  exact w6 w2 (by omega) g2 b1 b2
theorem zig {l:List OpV} (hd:xf l) (hL:zb5 l):zbe l=none:=by
 unfold zbe
 rw [List.findSome?_eq_none_iff]
 intro i hi
 obtain ⟨h1,h2⟩:=Zh.1 hi
 unfold Yl
 split
 ·rfl
 ·rename_i hc
  simp only [not_or,Classical.not_not] at hc
  rw [Option.map_eq_none_iff,List.find?_eq_none]
  intro w _ hb
  unfold zcp at hb
  simp only [Bool.and_eq_true,decide_eq_true_eq] at hb
  obtain ⟨⟨b1,b2⟩,b3⟩:=hb
  have g1:=zcm (Ur hd hL) (Vv b3)
  rcases hL i h1 hc.1 (xR hc.1 h2) with ⟨_,h4⟩|⟨w',q1,q2,q3,q4,_⟩
  ·exact h4 w g1 b1 b2
  ·exact hd.arg (by omega) q2 (q4.trans hc.2)
theorem zii {l:List OpV} (hd:xf l) (hL:zb5 l):ze9 l=none:=by
 unfold ze9
 rw [List.findSome?_eq_none_iff]
 intro i hi
 obtain ⟨hi1,hi2⟩:=Zh.1 hi
 have key:(nth l i).k=0→∀ r k,k∈zJ l l.length→Xv l i r k=false:=fun h0 r k hk=>by
  obtain ⟨hk1,hk2⟩:=Zh.1 hk
  cases hb:Xv l i r k with
  | false => rfl
  | true=>
   exfalso
   unfold Xv at hb
   simp only [Bool.and_eq_true,decide_eq_true_eq] at hb
   obtain ⟨⟨⟨⟨b1,b2⟩,b3⟩,_⟩,b5⟩:=hb
   have hdi:=xR h0 hi2
   unfold zam at b5
   by_cases hv:(nth l i).res=0
   ·rw [if_pos hv] at b5
    have b5:=of_decide_eq_true b5
    rcases hL i hi1 h0 hdi with ⟨_,h4⟩|⟨w',q1,q2,q3,q4,_⟩
    ·by_cases hkw:(nth l k).k=1
     ·exact h4 k b1 hkw b3
     ·rw [if_neg hkw] at b5
      have hk0:(nth l k).k=0:=(hd.kind hk1).resolve_right hkw
      obtain ⟨w,w1,_,w3,w4,_⟩:=Yo hd hL hk1 hk0 (xR hk0 hk2) b5
      exact h4 w (by omega) w3 (w4.trans b3)
    ·exact hd.arg (by omega) q2 (q4.trans hv)
   ·rw [if_neg hv] at b5
    obtain ⟨w,w1,w2,w3,w4,w5,w6⟩:=Yo hd hL hi1 h0 hdi hv
    have ha:cIx l (nth l i).key (nth l i).res=some w:=by
     unfold xx at w2;rwa [if_neg (by simp [h0,hv])] at w2
    rw [ha] at b5
    cases hc:cIx l (nth l i).key (if (nth l k).k=1 then (nth l k).arg else (nth l k).res) with
    | none => rw [hc] at b5; cases b5
    | some b=>
     rw [hc] at b5
     simp only [Bool.and_eq_true,decide_eq_true_eq] at b5
     obtain ⟨c1,c2,c3⟩:=Yb hc
     obtain ⟨d1,d2,d3⟩:=ZT.1 c2
     have hbk:b≤k:=by
      by_cases hkw:(nth l k).k=1
      ·rw [if_pos hkw] at d3
       exact Nat.le_of_eq (hd.uniq c1 hk1 d1 hkw (d2.trans b3.symm) d3)
      ·rw [if_neg hkw] at d3
       have hk0:(nth l k).k=0:=(hd.kind hk1).resolve_right hkw
       have hne:(nth l k).res≠0:=fun e=>hd.arg c1 d1 (d3.trans e)
       obtain ⟨w',q1,_,q3,q4,q5,_⟩:=Yo hd hL hk1 hk0 (xR hk0 hk2) hne
       have:=hd.uniq c1 (by omega) d1 q3 (by rw [d2,q4,b3]) (by rw [d3,q5])
       omega
     exact w6 b b5.2 (by omega) d1 d2
 unfold Yy
 by_cases h0:(nth l i).k≠0
 ·rw [if_pos h0]
 ·have h0:(nth l i).k=0:=by simpa using h0
  rw [if_neg (by simp [h0])]
  have hn:∀ r,(zJ l l.length).find? (Xv l i r)=none:=fun r=>by
   rw [List.find?_eq_none]
   intro k hk
   rw [key h0 r k hk];decide
  rw [hn 0,hn 1];rfl
theorem zjS {l:List OpV} (hd:xf l) (hL:zb5 l) (he:Xc l=0):(zkr l).cls=0∧(zkC l).cls=0:=by
 unfold zkr zkC
 rw [if_neg (by simp [he]),if_neg (by simp [he])]
 unfold zl4 zl5
 rw [zij hd hL,zih hd hL,zig hd hL,zii hd hL]
 dsimp only
 rw [if_neg (by simp [zjT hd hL])]
 exact ⟨rfl,rfl⟩
theorem zhG (l:List Int):Xc (xy (zT l 12))=0∧(zkr (xy (zT l 12))).cls=0∧(zkC (xy (zT l 12))).cls=0:=by
 obtain ⟨_,_,hsm,_⟩:=YP l (most:=12) (by omega) (by omega)
 have hd:=zj3 l 12
 have hD:=zga hsm hd
 have he:Xc (xy (zT l 12))=0:=by
  unfold Xc
  rw [(zgb hsm hd (zj4 l (by omega) (by omega))).check,if_neg (by decide),if_pos hD]
 exact ⟨he,zjS hD (zet hsm hd) he⟩
end Go.Proofs.Ytmnmakhpjgjdaaa
/-
 simprooflaw23.CausalConsistent answers true for every input (walked on plain values).
-/
namespace Go.Proofs.Ytmnmakhpjgjdaaa
set_option linter.unusedVariables false
open Go.RowKit

set_option maxHeartbeats 4000000 in
theorem Xg (l:List Int) (hl:∀ x∈l,I64 x) (hlen:l.length≤9223372036854775807):yn Try.prog 5 [.list 1 (l.map zA)] .fr (.bool true):=by
 obtain ⟨_,hin,hsm,hn⟩:=YP l (most:=12) (by omega) (by omega)
 have hC:=zhH l hl hlen
 obtain ⟨he,hv,hw⟩:=zhG l
 have hCin:=zhE hsm hin
 have hCl:=Zv hsm
 generalize xy (zT l 12)=G at *
 have h1:=zap G (by omega) hCin
 have h2:=WZ G (by omega) hCin
 rw [he] at h1 h2
 obtain ⟨V,hV⟩:∃ V,zkr G=V:=⟨_,rfl⟩
 obtain ⟨W,hW⟩:∃ W,zkC G=W:=⟨_,rfl⟩
 rw [hV] at h1 hv
 rw [hW] at h2 hw
 unfold zjm.fv at h1 h2
 rw [hv] at h1
 rw [hw] at h2
 have hlv:=zdJ
 clear hV hW he hv hw
 refine yn.of_body (c:=(ZW Try.prog zH zB 39)) ⟨Try.func5,rfl,Try.ntmps5,by kernel_rfl⟩ (by simp [FV.hand]) (by exact Nat.le_of_ble_eq_true rfl) rfl ?_
 change FW _ _ _ ⟨[(0,.list 1 (l.map zA))],[]⟩
 (repeat (first|refine FW.seq ?_|refine FW.region ?_|refine zc.nil ?_|refine zb rfl rfl rfl ?_|refine za rfl rfl rfl ?_))
 refine Vd hC (by repeat (first|exact zI.nil|refine zI.cons (by exact Zr.plain rfl rfl) ?_)) (List.length_map _) rfl rfl rfl ?_
 refine zc.le ?_ (FLe.share 9 rfl rfl (by rw [List.length_map]))
 (repeat (first|refine FW.seq ?_|refine FW.region ?_|refine zc.nil ?_|refine zb rfl rfl rfl ?_|refine za rfl rfl rfl ?_))
 refine xI h1 (by repeat (first|exact zI.nil|refine zI.cons (by exact Zr.plain rfl rfl) ?_)) rfl rfl ?_
 (repeat (first|refine FW.seq ?_|refine FW.region ?_|refine zc.nil ?_|refine zb rfl rfl rfl ?_|refine za rfl rfl rfl ?_|refine zw rfl rfl rfl rfl rfl ?_|refine zD rfl rfl rfl rfl rfl rfl rfl ?_|refine zj rfl rfl rfl rfl rfl rfl rfl rfl rfl ?_))
 refine xI h2 (by repeat (first|exact zI.nil|refine zI.cons (by exact Zr.plain rfl rfl) ?_)) rfl rfl ?_
 (repeat (first|refine FW.seq ?_|refine FW.region ?_|refine zc.nil ?_|refine zb rfl rfl rfl ?_|refine za rfl rfl rfl ?_|refine zw rfl rfl rfl rfl rfl ?_|refine zD rfl rfl rfl rfl rfl rfl rfl ?_|refine zj rfl rfl rfl rfl rfl rfl rfl rfl rfl ?_|refine yL rfl rfl rfl rfl ?_|refine zM rfl rfl rfl rfl ?_|refine za rfl rfl ⟨_,_,rfl,rfl,rfl⟩ ?_|refine yL rfl rfl rfl ⟨_,_,rfl,rfl,rfl⟩ ?_|refine zi rfl rfl rfl rfl rfl rfl (by decide) rfl ⟨_,_,rfl,rfl,rfl⟩ ?_|refine zp rfl rfl rfl rfl rfl (by simp;done) rfl rfl rfl rfl ⟨_,_,rfl,rfl,rfl⟩ ?_))
 refine yg (fun h=>?_) (fun h=>absurd rfl (of_decide_eq_false h))
 skip
 refine yS hlv (by repeat (first|exact zI.nil)) rfl ⟨_,_,rfl,rfl,rfl⟩ ?_
 (repeat (first|refine zc.nil ?_|refine zb rfl rfl rfl ?_|refine zM rfl rfl rfl rfl ?_))
 exact FW.ret ⟨.inl rfl,yd rfl rfl rfl rfl⟩
end Go.Proofs.Ytmnmakhpjgjdaaa
