/-
  Lemmas, in parts.
-/
import Derived.Test.YtedkppfghdipdaaGreatDoorZDA
import Derived.Test.YtedkppfghdipdaaGreatDoorZC
namespace Go.Proofs.YtedkppfghdipdaaGreatDoor
set_option linter.unusedVariables false
set_option maxHeartbeats 16000000
open Go.RowKit
variable {a b:Int} {l:List aN} {i:Nat}
theorem wS:Maps.Keyed Tryz.prog 92:=Maps.Keyed.of_law (deep_law_laid wg (m:=2) zc (of_decide_eq_true zD) zD zD)
theorem sR (ha:bD a) (hb:bD b):XP Tryz.prog 92 (g8 a b):=
 ⟨rfl,vk (i:=3) (fs:=vA Tryz.prog 92) zD zD zD zD zD zD zD (Tryz.prog.types.size - 1) zD (o8 ha) (o8 hb)⟩
def XY (l:List aN) (i:Nat):List (Int×Int):=((l.take i).filter lD).map fun o=>(o.key,o.arg)
def kP (l:List aN) (i:Nat):List (List FV):=(XY l i).map fun p=>[g8 p.1 p.2,.bool true]
theorem Cx (hi:i<l.length):XY l (i+1)=XY l i++if lD (nth l i)=true then [((nth l i).key,(nth l i).arg)] else []:=by
 unfold XY;rw [Yp hi,List.filter_append,yY,← xI hi];congr 1;by_cases h:lD (nth l i)=true <;> simp [h]
theorem C7 (hi:i<l.length):kP l (i+1)=kP l i++if lD (nth l i)=true then [[g8 (nth l i).key (nth l i).arg,.bool true]] else []:=by
 unfold kP;rw [Cx hi,yY];congr 1;split <;> rfl
theorem DE (cE:∀ o∈l,mW o) {p:Int×Int} (hp:p∈XY l i):bD p.1∧bD p.2:=by
 obtain ⟨o,ho,rfl⟩:=zM.1 hp;have:=cE o (xj (List.mem_filter.1 ho).1);exact ⟨this.2.2.1,this.2.2.2.1⟩
theorem ER (cE:∀ o∈l,mW o):∀ row∈kP l i,∀ kf,row.head? = some kf→XP Tryz.prog 92 kf:=fun row hr kf hk=>by
 obtain ⟨p,hp,rfl⟩:=zM.1 hr;have ho:=DE cE hp;injection hk with hk
 subst hk;exact sR ho.1 ho.2
theorem uy (h:(a,b)∉XY l i):∀ row∈kP l i,row.head?≠some (g8 a b):=fun row hr he=>by
 obtain ⟨p,hp,rfl⟩:=zM.1 hr;injection he with he
 unfold g8 at he;injection he with he
 injection he with h1 h2
 injection h1 with _ h1
 injection h2 with h2 _
 injection h2 with _ h2
 obtain ⟨x,y⟩:=p;dsimp only at h1 h2;rw [h1,h2] at hp;exact h hp
theorem FG {B:Bool} (hB:decide ((a,b)∈XY l i)=B):kq (kP l i) (g8 a b) (.bool false) (.bool B) B:=by
 by_cases h:(a,b)∈XY l i
 ·rw [decide_eq_true h] at hB;subst hB;exact .inl ⟨rfl,zM.2 ⟨(a,b),h,rfl⟩⟩
 ·rw [decide_eq_false h] at hB;subst hB;exact .inr ⟨rfl,rfl,uy h⟩
def lA (K:List Int) (l:List aN) (i:Nat):Bool:=(K.any fun x=>decide ((nth l i).k=x)) && (!lD (nth l i) || (!decide ((nth l i).arg=0) && !decide (((nth l i).key,(nth l i).arg)∈XY l i)))
def lM (K:List Int) (l:List aN):Bool:=decide (WR l=0) && (List.range l.length).all (lA K l)
theorem Fp {K:List Int} (hi:i<l.length) (h:lA K l i=false):lM K l=false:=by
 cases hd:lM K l with
 | false => rfl
 | true =>
  unfold lM at hd;rw [zU,zV] at hd;rw [hd.2 i (by simpa using hi)] at h;cases h
theorem BT (k:Int) (h1:2≤k) (h2:k≤7):zP Tryz.prog 19 [.int .i64 k] .sh (.list 1 ((jb k).map yQ)):=by
 have h3:lL k=.list 1 ((jb k).map yQ):=by
  unfold lL;rw [if_neg];obtain rfl|rfl|rfl|rfl|rfl|rfl:k=2∨k=3∨k=4∨k=5∨k=6∨k=7:=by omega
  all_goals decide
 rw [← h3];exact Um k zc zc
theorem B0 (k:Int) (h1:2≤k) (h2:k≤7) (l:List aN) (hl:l.length≤1000000) (cE:∀ o∈l,mW o):zP Tryz.prog 20 [.int .i64 k,.list 8 (l.map aN.fv)] .fr (.bool (lM (jb k) l)):=by
 have jI:=BT k h1 h2;have hlen:(jb k).length≤1000000:=by
  unfold jb;split
  ·decide
  ·split
   ·decide
   ·split <;> decide
 generalize jb k=K at jI hlen;have tJ:=Ct l cE zc;obtain ⟨E,hE⟩:∃ E,lM K l=E:=⟨_,rfl⟩
 rw [hE];have kg:WR l≠0→E=false:=fun h=>by rw [← hE];unfold lM;rw [decide_eq_false h];rfl
 have tz:WR l=0→(∀ j,j<l.length→lA K l j=true)→E=true:=fun h hd=>by
  rw [← hE];unfold lM;rw [decide_eq_true h,Zn,zV];exact fun j hj=>hd j (by simpa using hj)
 have Aa:∀ i,i<l.length→lA K l i=false→E=false:=fun i hi h=>by rw [← hE];exact Fp hi h
 generalize WR l=C at tJ kg tz;refine zj 46 Tryz.func20 Tryz.ntmps20 rfl ?_;change FW _ _ _ ⟨[(0,.int .i64 k),(1,.list 8 (l.map aN.fv))],[]⟩;refine za ?_;refine zw tJ (by repeat (first|exact zf.nil|refine zf.cons zd ?_)) rfl rfl ?_;refine za ?_;refine FW.cond rfl (fun h=>?_) (fun h=>?_)
 ·obtain rfl:=kg (by simpa using h);refine za ?_;exact FW.ret ⟨.inl rfl,zh rfl rfl rfl rfl⟩
 have h0:C=0:=by simpa using h
 refine za ?_;refine FW.loop (fun i:Nat=>⟨[(0,.int .i64 k),(5,.omap 100 0),(12,.list 8 (l.map aN.fv)),(13,.int .i64 l.length),(14,.int .i64 i)],[(100,⟨0,.bl,90,0,kP l i⟩)]⟩) (fun i=>i≤l.length∧∀ j,j<i→lA K l j=true) (fun i=>l.length - i) 0 ⟨zB _,fun j hj=>absurd hj zc⟩ ?_ ?_
 ·exact (au.cv [⟨100,some 11,1,⟨0,.bl,90,0,[]⟩⟩] zm zq)
 rintro i ⟨hi,c8⟩;refine za ?_;refine FW.cond rfl (fun h=>?_) (fun h=>?_)
 ·have az:i<l.length:=by simpa using h
  clear h;have step:lA K l i=true→∀ j,j<i+1→lA K l j=true:=fun h0 j hj=>by
   rcases yJ j i with h1|h1
   ·exact c8 j h1
   ·have:j=i:=by omega
    subst this;exact h0
  have bad:=Aa i az;have ho:=cE _ (yn az);have hw:=Ws (nth l i);have mC:=C7 az;obtain ⟨o,tW⟩:∃ o,nth l i=o:=⟨_,rfl⟩
  unfold lA at step bad;rw [tW] at step bad ho mC hw;have gT:=ER (i:=i) cE;have n7:=Bw K o.k hlen;obtain ⟨B,hB⟩:∃ B,decide ((o.key,o.arg)∈XY l i)=B:=⟨_,rfl⟩
  have lb:=FG hB;have c7:B=false→∀ row∈kP l i,row.head?≠some (g8 o.key o.arg):=fun h=>uy (of_decide_eq_false (hB.trans h));rw [hB] at step bad;generalize kP l i=R at mC gT lb c7;generalize (K.any fun x=>decide (o.k=x))=KB at n7 step bad;generalize lD o=WB at hw step bad mC;refine za ?_;rw [tW];refine yO ?_;refine zK jI (by repeat (first|exact zf.nil|refine zf.cons zd ?_)) rfl rfl ?_;refine zt ?_;refine yG n7 (by repeat (first|exact zf.nil|refine zf.cons zd ?_)) rfl rfl ?_;refine zt ?_;refine ⟨by kernel_rfl,?_⟩;skip;refine FW.cond rfl (fun h=>?_) (fun h=>?_)
  ·obtain rfl:KB=false:=by simpa using h
   obtain rfl:=bad rfl;refine za ?_;exact FW.ret ⟨.inl rfl,zh rfl rfl rfl rfl⟩
  obtain rfl:KB=true:=by simpa using h
  refine za ?_;refine zw hw (by repeat (first|exact zf.nil|refine zf.cons zd ?_)) rfl rfl ?_;refine za ?_;refine FW.cond rfl (fun h3=>?_) (fun h3=>?_)
  ·obtain rfl:WB=false:=by simpa using h3
   rw [if_neg zb,xW] at mC;refine za ?_;refine ⟨i+1,⟨by omega,step rfl⟩,by omega,?_⟩;rw [mC];exact (au.cv [⟨100,some 100,0,⟨0,.bl,90,0,R⟩⟩] zm zq)
  obtain rfl:WB=true:=by simpa using h3
  refine za ?_;refine yc (fun h4=>?_) (fun h4=>?_)
  ·obtain rfl:=bad (by rw [h4];rfl);refine za ?_;exact FW.ret ⟨.inl rfl,zh rfl rfl rfl rfl⟩
  refine za ?_;refine u2 (e:=4) wS gT (sR ho.2.2.1 ho.2.2.2.1) lb rfl rfl zb rfl rfl rfl rfl rfl ⟨_,_,rfl,rfl,rfl⟩ ?_;refine za ?_;refine FW.cond rfl (fun h5=>?_) (fun h5=>?_)
  ·obtain rfl:B=true:=h5;obtain rfl:=bad (by rw [h4];rfl);refine za ?_;exact FW.ret ⟨.inl rfl,zh rfl rfl rfl rfl⟩
  obtain rfl:B=false:=h5;refine za ?_;refine Ze wS gT (sR ho.2.2.1 ho.2.2.2.1) (.inr ⟨c7 rfl,rfl⟩) rfl rfl rfl rfl rfl rfl rfl ?_;refine za ?_;rw [if_pos rfl] at mC;refine ⟨i+1,⟨by omega,step (by rw [h4];rfl)⟩,by omega,?_⟩;rw [mC];exact (au.cv [⟨100,some 100,0,⟨0,.bl,90,0,R++[[g8 o.key o.arg,.bool true]]⟩⟩] zm zq)
 ·obtain rfl:i=l.length:=by simp at h;omega
  obtain rfl:=tz h0 c8;refine za ?_;exact FW.ret ⟨.inl rfl,zh rfl rfl rfl rfl⟩
structure bK where
 k:Int
 nd:Int:=0
 fk:Int:=0
 fa:Int:=0
 fb:Int:=0
 fn:Int:=0
 kids:List (List FV):=[]
 ops:List (List FV):=[]
 tr:List (List FV):=[]
 fl:List (List FV):=[]
 cl:Int:=0
 ar:Int:=0
 ed:List (List FV):=[]
def bK.c (x:bK):FV:=.agg [.int .i64 x.k,.int .i64 x.nd,.int .i64 x.fk,.int .i64 x.fa,.int .i64 x.fb,.int .i64 x.fn,.list 5 x.kids]
def bK.e (x:bK):FV:=.agg [.list 8 x.ops,.list 1 x.tr,.list 4 x.fl]
def bK.v (x:bK) (od:FV):FV:=.agg [.int .i64 x.k,.int .i64 x.cl,.int .i64 x.ar,od,.list 3 x.ed]
def bK.x (x:bK) (od:FV):FV:=.agg [.int .i64 x.k,.int .i64 x.nd,.int .i64 x.fk,.int .i64 x.fa,.int .i64 x.fb,.int .i64 x.fn,.list 5 x.kids,.list 8 x.ops,.list 1 x.tr,.list 4 x.fl,.int .i64 x.k,.int .i64 x.cl,.int .i64 x.ar,od,.list 3 x.ed]
def nG (od:FV):Prop:=od.one=true
theorem Vv:∀ row∈YU.map Vd,∀ kf,row.head? = some kf→XP Tryz.prog 72 kf:=sS Ci
theorem CC {k cl:Int} (h:∀ p∈YU,¬ (p.1=k∧p.2.1=cl)):∀ row∈YU.map Vd,row.head?≠some (g8 k cl):=fun row hr e=>by
 obtain ⟨p,hp,rfl⟩:=zM.1 hr;injection e with e
 exact h p hp (su e)
theorem ZO (x:bK) (od:FV) (c0:nG od) (hk:1≤x.k∧x.k≤8) (bh:bD x.cl) (bd:Bool) (jI:(lL x.k=.nil∧bd=true)∨(lL x.k=.list 1 ((jb x.k).map yQ)∧jb x.k≠[]∧zP Tryz.prog 20 [.int .i64 x.k,.list 8 x.ops] .fr (.bool bd)))
  (known:Bool) (dO:known=false→∀ p∈YU,¬ (p.1=x.k∧p.2.1=x.cl)) (sf pf:Nat) (sc pc:List FV) (mD:known=true→(x.k,x.cl,.agg [.fn sf sc,.fn pf pc])∈YU) (bs bi bp:Bool)
  (hs:known=true→zP Tryz.prog sf ([x.x od]++sc) .fr (.bool bs)) (hi:known=true→bs=true→zP Tryz.prog 22 [x.x od] .fr (.bool bi)) (hp:known=true→bs=true→bi=true→zP Tryz.prog pf ([x.x od]++pc) .fr (.bool bp))
  (E:Int) (tx:bd=false→E=22) (kg:bd=true→E=if known && (bs && bi) then (if bp then 0 else 31) else 30):zP Tryz.prog 8 [x.c,x.e,x.v od] .fr (.int .i64 E):=by
 have jH:=Um x.k hk.1 hk.2;obtain ⟨k,nd,fk,fa,fb,fn,kids,ops,tr,fl,cl,ar,ed⟩:=x;obtain ⟨h1,h2⟩:=hk;have gD:bD k:=⟨by dsimp only at h1;omega,by dsimp only at h2;omega⟩
 unfold bK.c bK.e bK.v;unfold bK.x at hs hi hp;dsimp only at h1 h2 bh jI dO mD hs hi hp jH ⊢;have qB:[FV.int .i64 k,.int .i64 cl,.int .i64 ar,od,.list 3 ed].all FV.one=true:=by simp only [ZG,YJ,show od.one=true from c0];rfl
 have nV:[FV.int .i64 k,.int .i64 nd,.int .i64 fk,.int .i64 fa,.int .i64 fb,.int .i64 fn,.list 5 kids,.list 8 ops,.list 1 tr,.list 4 fl,.int .i64 k,.int .i64 cl,.int .i64 ar,od,.list 3 ed].all FV.one=true:=by simp only [ZG,YJ,show od.one=true from c0];rfl
 rcases jI with ⟨hd,rfl⟩|⟨hd,bQ,kW⟩
 all_goals rw [hd] at jH
 all_goals (
  refine zj 72 Tryz.func8 Tryz.ntmps8 rfl ?_;change FW _ _ _ ⟨[(0,_),(1,_),(2,_)],[]⟩;refine za ?_;refine zn.aR (yA rfl rfl qB rfl rfl) rfl rfl ?_;refine za ?_;refine yc (fun h=>absurd (of_decide_eq_true h) zc) (fun h3=>?_);rw [h3];refine za ?_;refine yc (fun h=>absurd (of_decide_eq_true h) zc) (fun h4=>?_);rw [h4];refine za ?_;refine FW.cond rfl (fun h=>absurd (of_decide_eq_true h) zg) (fun h5=>?_);refine za ?_;refine zX jH (by repeat (first|exact zf.nil|refine zf.cons zd ?_)) rfl rfl ?_
  first
  | (
    refine zn.ab (D9 rfl rfl rfl (by simpa using bQ)) rfl rfl ?_;refine za ?_;refine zw kW (by repeat (first|exact zf.nil|refine zf.cons zd ?_)) rfl ⟨_,_,rfl,rfl,rfl⟩ ?_;refine za ?_;refine FW.cond rfl (fun h=>?_) (fun h=>?_)
    (·
      obtain rfl:bd=false:=by simpa using h
      obtain rfl:=tx rfl;refine za ?_;exact FW.ret ⟨.inl rfl,zh rfl rfl rfl rfl⟩)
    obtain rfl:bd=true:=by simpa using h
    refine za ?_)
  | refine za ?_
  refine ZF.agg rfl rfl qB rfl (r9 _ _) rfl ?_;refine ZF.nil ?_;show zn _ _ _ ⟨(40,.agg [.int .i64 k,.int .i64 nd,.int .i64 fk,.int .i64 fa,.int .i64 fb,.int .i64 fn,.list 5 kids,.list 8 ops,.list 1 tr,.list 4 fl,.int .i64 k,.int .i64 cl,.int .i64 ar,od,.list 3 ed])::_,_⟩ _
  (repeat (first|refine zn.aR (yV rfl rfl rfl rfl rfl) rfl rfl ?_))
  refine zn.aY (zA rfl rfl nV rfl rfl rfl rfl rfl) rfl ?_;refine za ?_;have kg:=kg rfl;clear qB nV hd jH h3 h4 h5 tx;refine FW.le (s':=⟨[(3,.ptr 103 0 0 0),(5,.ptr 105 0 0 0),(7,.ptr 107 0 0 0)],[(103,⟨0,.own,36,7,[[.int .i64 k,.int .i64 nd,.int .i64 fk,.int .i64 fa,.int .i64 fb,.int .i64 fn,.list 5 kids]]⟩),(105,⟨0,.own,43,5,[[.int .i64 k,.int .i64 cl,.int .i64 ar,od,.list 3 ed]]⟩),(107,⟨0,.own,64,15,[[.int .i64 k,.int .i64 nd,.int .i64 fk,.int .i64 fa,.int .i64 fb,.int .i64 fn,.list 5 kids,.list 8 ops,.list 1 tr,.list 4 fl,.int .i64 k,.int .i64 cl,.int .i64 ar,od,.list 3 ed]]⟩)]⟩) ?_ (au.cv [⟨103,some 3,1,⟨0,.own,36,7,[[.int .i64 k,.int .i64 nd,.int .i64 fk,.int .i64 fa,.int .i64 fb,.int .i64 fn,.list 5 kids]]⟩⟩,⟨105,some 5,1,⟨0,.own,43,5,[[.int .i64 k,.int .i64 cl,.int .i64 ar,od,.list 3 ed]]⟩⟩,⟨107,some 7,1,⟨0,.own,64,15,[[.int .i64 k,.int .i64 nd,.int .i64 fk,.int .i64 fa,.int .i64 fb,.int .i64 fn,.list 5 kids,.list 8 ops,.list 1 tr,.list 4 fl,.int .i64 k,.int .i64 cl,.int .i64 ar,od,.list 3 ed]]⟩⟩] zm zq);refine yO ?_;refine zK C9 xK rfl rfl ?_;refine zt ?_;cases known
  (·
    obtain rfl:=kg;refine vx (e:=67) XX rfl Vv (Zd gD bh) (.inr ⟨rfl,rfl,CC (dO rfl)⟩) rfl rfl rfl rfl rfl rfl rfl ?_;refine zt ?_;refine ⟨by kernel_rfl,?_⟩;refine FW.le (s':=⟨[(9,.bool false)],[]⟩) ?_ (au.cv [] Zb zq);refine za ?_;exact FW.ret ⟨.inl rfl,zh rfl rfl rfl rfl⟩)
  refine vx (e:=67) XX rfl Vv (Zd gD bh) (.inl ⟨rfl,zM.2 ⟨_,mD rfl,rfl⟩⟩) rfl rfl rfl rfl rfl rfl rfl ?_;refine zt ?_;refine ⟨by kernel_rfl,?_⟩;refine FW.le (s':=⟨[(7,.ptr 107 0 0 0),(8,.ptr 108 0 0 0),(9,.bool true)],[(107,⟨0,.own,64,15,[[.int .i64 k,.int .i64 nd,.int .i64 fk,.int .i64 fa,.int .i64 fb,.int .i64 fn,.list 5 kids,.list 8 ops,.list 1 tr,.list 4 fl,.int .i64 k,.int .i64 cl,.int .i64 ar,od,.list 3 ed]]⟩),(108,⟨0,.own,67,2,[[.fn sf sc,.fn pf pc]]⟩)]⟩) ?_ (au.cv [⟨107,some 107,0,⟨0,.own,64,15,[[.int .i64 k,.int .i64 nd,.int .i64 fk,.int .i64 fa,.int .i64 fb,.int .i64 fn,.list 5 kids,.list 8 ops,.list 1 tr,.list 4 fl,.int .i64 k,.int .i64 cl,.int .i64 ar,od,.list 3 ed]]⟩⟩,⟨108,some 8,1,⟨0,.own,67,2,[[.fn sf sc,.fn pf pc]]⟩⟩] zm zq);have hs:=hs rfl;have hi:=hi rfl;have hp:=hp rfl;clear mD dO;refine za ?_;refine Yk rfl hs (by repeat (first|exact zf.nil|refine zf.cons zd ?_)) rfl ⟨_,_,rfl,rfl,rfl⟩ ?_;cases bs
  (·
    obtain rfl:=kg;refine za ?_;exact FW.ret ⟨.inl rfl,zh rfl rfl rfl rfl⟩)
  refine za ?_;refine zw (hi rfl) (by repeat (first|exact zf.nil|refine zf.cons zd ?_)) rfl ⟨_,_,rfl,rfl,rfl⟩ ?_;cases bi
  (·
    obtain rfl:=kg;refine za ?_;exact FW.ret ⟨.inl rfl,zh rfl rfl rfl rfl⟩)
  refine za ?_;refine Yk rfl (hp rfl rfl) (by repeat (first|exact zf.nil|refine zf.cons zd ?_)) rfl rfl ?_;cases bp
  (·
    obtain rfl:=kg;refine za ?_;exact FW.ret ⟨.inl rfl,zh rfl rfl rfl rfl⟩)
  obtain rfl:=kg;refine za ?_;exact FW.ret ⟨.inl rfl,zh rfl rfl rfl rfl⟩)
theorem bK.one (x:bK) {od:FV} (h:od.one=true):[FV.int .i64 x.k,.int .i64 x.nd,.int .i64 x.fk,.int .i64 x.fa,.int .i64 x.fb,.int .i64 x.fn,.list 5 x.kids,.list 8 x.ops,.list 1 x.tr,.list 4 x.fl,.int .i64 x.k,.int .i64 x.cl,.int .i64 x.ar,od,.list 3 x.ed].all FV.one=true:=by
 simp only [ZG,YJ,h];rfl
def fW (od:FV) (n:Nat):Prop:=(od=.nil∧n=0)∨∃ es,od=.list 1 es∧es.length=n
theorem fW.ok {od:FV} {n:Nat} (h:fW od n):nG od:=by
 rcases h with ⟨rfl,_⟩|⟨es,rfl,_⟩ <;> rfl
theorem UV (x:bK) (od:FV) (n:Nat) (c0:fW od n) (o g:Int):zP Tryz.prog 86 ([x.x od]++[vc (.int .i64 o),vc (.int .i64 g)]) .fr (.bool (decide ((n:Int)=o) && decide ((x.ed.length:Int)=g))):=by
 obtain ⟨m,hm⟩:∃ m,x.ed.length=m:=⟨_,rfl⟩
 rw [hm];unfold bK.x vc;rcases c0 with ⟨rfl,rfl⟩|⟨es,rfl,rfl⟩
 all_goals (
  refine zj 21 Tryz.func86 Tryz.ntmps86 rfl ?_;change FW _ _ _ ⟨[(0,_),(1,_),(2,_)],[]⟩;refine za ?_;refine yc (fun h=>?_) (fun h=>?_)
  (·
    rw [h];refine za ?_;rw [hm];exact FW.ret ⟨.inl rfl,zh rfl rfl (congrArg FV.bool (by simp at h;simp [h])) rfl⟩)
  rw [h];refine za ?_;exact FW.ret ⟨.inl rfl,zh rfl rfl (congrArg FV.bool (by simp at h;simp [h])) rfl⟩)
theorem YM (lo hi i:Int):zP Tryz.prog 67 ([.int .i64 i]++[vc (.int .i64 lo),vc (.int .i64 hi)]) .fr (.bool (decide (i<lo) || decide (i > hi))):=by
 unfold vc;refine zj 13 Tryz.func67 Tryz.ntmps67 rfl ?_;change FW _ _ _ ⟨[(0,_),(1,_),(2,_)],[]⟩;refine za ?_;refine yc (fun h=>?_) (fun h=>?_)
 ·rw [h];refine za ?_;exact FW.ret ⟨.inl rfl,zh rfl rfl rfl rfl⟩
 ·rw [h];refine za ?_;exact FW.ret ⟨.inl rfl,zh rfl rfl rfl rfl⟩
theorem Wg (l:List Int) (hl:l≠[]) (hlen:l.length≤1000000):zP Tryz.prog 65 [.list 1 (l.map yQ)] (.ow 3 1) (.list 1 (l.map yQ)):=by
 refine zj 8 Tryz.func65 Tryz.ntmps65 rfl ?_;change FW _ _ _ ⟨[(0,.list 1 (l.map yQ))],[]⟩;refine za ?_;refine zn.ab (D5 rfl rfl rfl (by simpa using hl)) rfl rfl ?_;refine za ?_;refine FW.ret ⟨.inl rfl,F1 rfl rfl rfl zg zb rfl (fun e he=>by obtain ⟨b,_,rfl⟩:=zM.1 he;rfl)⟩
theorem Wh:zP Tryz.prog 65 [.nil] .fr .nil:=by
 refine zj 8 Tryz.func65 Tryz.ntmps65 rfl ?_;change FW _ _ _ ⟨[(0,.nil)],[]⟩;refine za ?_;exact FW.ret ⟨.inl rfl,zh rfl rfl rfl rfl⟩
theorem EX (a b c:Int) (os es:List (List FV)) (h1:os.length≤1000000) (h2:es.length≤1000000):zP Tryz.prog 24 [.agg [.int .i64 a,.int .i64 b,.int .i64 c,.list 1 os,.list 3 es]] .fr (.int .i64 ((os.length:Int)+es.length)):=by
 refine zj 12 Tryz.func24 Tryz.ntmps24 rfl ?_;change FW _ _ _ ⟨[(0,_)],[]⟩;refine za ?_;exact FW.ret ⟨.inl rfl,zh rfl rfl rfl rfl⟩
def oT (x:bK):Int:=if x.k=8 then -1 else 0
def ot (x:bK):Int:=if x.k=1 then (x.fl.length:Int) - 1 else if x.k=8 then (x.tr.length:Int) - 1 else (x.ops.length:Int) - 1
def jo (x:bK) (i:Int):Bool:=decide (i<oT x) || decide (i > ot x)
def bZ (O:List Int):FV:=if O=[] then .nil else .list 1 (O.map yQ)
def du (E:List (Int×Int×Int)):List Int:=E.flatMap fun e=>[e.1,e.2.1]
def mY (e:Int×Int×Int):List FV:=[.int .i64 e.1,.int .i64 e.2.1,.int .i64 e.2.2]
theorem sr {E:List (Int×Int×Int)} (hi:i<E.length):du (E.take (i+1))=du (E.take i)++[(nth E i).1,(nth E i).2.1]:=by
 unfold du;rw [Yp hi,List.flatMap_append,xI hi];simp
theorem sA (E:List (Int×Int×Int)):(du E).length=2 * E.length:=by
 unfold du
 induction E with
 | nil => rfl
 | cons e E ih => rw [Yd, yL, ih]; simp; omega
theorem B3 (x:bK) (O:List Int) (E:List (Int×Int×Int)) (hE:x.ed=E.map mY) (hO:O.length≤100000) (m6:E.length≤100000) (h1:x.fl.length≤1000000) (h2:x.tr.length≤1000000) (h3:x.ops.length≤1000000) (cz:x.k=1):zP Tryz.prog 22 [x.x (bZ O)] .fr (.bool (!((O++du E).any (jo x)))):=by
 have fz:jo x=fun i=>decide (i<0) || decide (i > (x.fl.length:Int) - 1):=by
  funext i;unfold jo oT ot;simp [cz]
 rw [fz];have cE:=YM (0) ((x.fl.length:Int) - 1);generalize cI:(x.fl.length:Int) - 1=mx at cE ⊢;obtain ⟨A,hA⟩:∃ A:Nat→List Int,A=fun i=>O++du (E.take i):=⟨_,rfl⟩
 have dY:A 0=O:=by rw [hA];simp [du]
 have gM:∀ i,i<E.length→A (i+1)=A i++[(nth E i).1,(nth E i).2.1]:=fun i hi=>by rw [hA];show O++du (E.take (i+1))=_;rw [sr hi,← ye]
 have kT:O++du E=A E.length:=by rw [hA];show _=O++du (E.take E.length);rw [yI]
 have kU:∀ i,i≤E.length→(A i).length=O.length+2 * i:=fun i hi=>by rw [hA];show (O++du (E.take i)).length=_;rw [yL,sA,yE,xE hi]
 rw [kT];clear hA kT;have n8:=Zq (A E.length) 67 [vc (.int .i64 0),vc (.int .i64 mx)] _ (by rw [kU _ (zi _)];omega) (fun o _=>cE o);unfold bK.x bZ;rw [hE];rw [cz];by_cases jA:O=[]
 all_goals simp only [jA,if_true,if_false]
 all_goals (
  refine zj 56 Tryz.func22 Tryz.ntmps22 rfl ?_;change FW _ _ _ ⟨[(0,_)],[]⟩;refine yO ?_;refine ⟨by kernel_rfl,?_⟩;refine za ?_
  first
  | refine si (Wg O jA zc) (by repeat (first|exact zf.nil|refine zf.cons zd ?_)) (zy _) rfl rfl rfl ?_
  | refine zw Wh (by repeat (first|exact zf.nil|refine zf.cons zd ?_)) rfl rfl ?_
  refine za ?_;rw [cI];refine FW.loop (fun i:Nat=>⟨[(3,.ptr 103 0 0 0),(4,.ptr 104 0 0 0),(5,.own 100 0 0 (A i).length),(38,.list 3 (E.map mY)),(39,.int .i64 E.length),(40,.int .i64 i)],[(100,⟨0,.own,3,1,(A i).map yQ⟩),(103,⟨0,.own,3,1,[[.int .i64 0]]⟩),(104,⟨0,.own,3,1,[[.int .i64 mx]]⟩)]⟩) (fun i=>i≤E.length) (fun i=>E.length - i) 0 (zB _) ?_ ?_
  (·
    dsimp only;rw [dY]
    first
    | (rw [jA]; exact (au.cv [⟨100, none, 0, ⟨0, .own, 3, 1, []⟩⟩, ⟨103, some 3, 1, ⟨0, .own, 3, 1, [[.int .i64 0]]⟩⟩, ⟨104, some 4, 1, ⟨0, .own, 3, 1, [[.int .i64 mx]]⟩⟩] zm zq))
    | exact (au.cv [⟨100, some 34, 1, ⟨0, .own, 3, 1, O.map yQ⟩⟩, ⟨103, some 3, 1, ⟨0, .own, 3, 1, [[.int .i64 0]]⟩⟩, ⟨104, some 4, 1, ⟨0, .own, 3, 1, [[.int .i64 mx]]⟩⟩] zm zq))
  intro i hi;have tv:=kU i hi;refine za ?_;refine FW.cond rfl (fun h=>?_) (fun h=>?_)
  (·
    have az:i<E.length:=by simpa using h
    clear h;have gM:=gM i az;obtain ⟨e,he⟩:∃ e,nth E i=e:=⟨_,rfl⟩
    rw [he] at gM;obtain ⟨e1,e2,e3⟩:=e;refine za ?_;rw [he];skip;refine zC (es:=[[.int .i64 e1],[.int .i64 e2]]) rfl rfl rfl (by refine zY.int rfl rfl ?_;refine zY.int rfl rfl ?_;exact zY.nil) rfl rfl rfl rfl rfl ?_;refine za ?_;refine ⟨i+1,by omega,by omega,?_⟩;dsimp only;rw [gM,yY];exact (au.cv [⟨100,some 50,0+1,⟨0,.own,3,1,(A i).map yQ++[e1,e2].map yQ⟩⟩,⟨103,some 103,0,⟨0,.own,3,1,[[.int .i64 0]]⟩⟩,⟨104,some 104,0,⟨0,.own,3,1,[[.int .i64 mx]]⟩⟩] zm zq))
  obtain rfl:i=E.length:=by simp at h;omega
  refine Xf ?_;refine zn.le ?_ (au.aL 3 rfl rfl);refine zn.le ?_ (au.aL 4 rfl rfl);refine za ?_;refine zw n8 xr rfl rfl ?_;refine za ?_;exact FW.ret ⟨.inl rfl,zh rfl rfl rfl rfl⟩)
theorem B4 (x:bK) (O:List Int) (E:List (Int×Int×Int)) (hE:x.ed=E.map mY) (hO:O.length≤100000) (m6:E.length≤100000) (h1:x.fl.length≤1000000) (h2:x.tr.length≤1000000) (h3:x.ops.length≤1000000) (k6:x.k=8):zP Tryz.prog 22 [x.x (bZ O)] .fr (.bool (!((O++du E).any (jo x)))):=by
 have fz:jo x=fun i=>decide (i < -1) || decide (i > (x.tr.length:Int) - 1):=by
  funext i;unfold jo oT ot;simp [k6]
 rw [fz];have cE:=YM (-1) ((x.tr.length:Int) - 1);obtain ⟨lo,c6⟩:∃ lo:Int,(-1)=lo:=⟨_,rfl⟩
 rw [c6] at cE ⊢;generalize cI:(x.tr.length:Int) - 1=mx at cE ⊢;obtain ⟨A,hA⟩:∃ A:Nat→List Int,A=fun i=>O++du (E.take i):=⟨_,rfl⟩
 have dY:A 0=O:=by rw [hA];simp [du]
 have gM:∀ i,i<E.length→A (i+1)=A i++[(nth E i).1,(nth E i).2.1]:=fun i hi=>by rw [hA];show O++du (E.take (i+1))=_;rw [sr hi,← ye]
 have kT:O++du E=A E.length:=by rw [hA];show _=O++du (E.take E.length);rw [yI]
 have kU:∀ i,i≤E.length→(A i).length=O.length+2 * i:=fun i hi=>by rw [hA];show (O++du (E.take i)).length=_;rw [yL,sA,yE,xE hi]
 rw [kT];clear hA kT;have n8:=Zq (A E.length) 67 [vc (.int .i64 lo),vc (.int .i64 mx)] _ (by rw [kU _ (zi _)];omega) (fun o _=>cE o);unfold bK.x bZ;rw [hE];rw [k6];by_cases jA:O=[]
 all_goals simp only [jA,if_true,if_false]
 all_goals (
  refine zj 56 Tryz.func22 Tryz.ntmps22 rfl ?_;change FW _ _ _ ⟨[(0,_)],[]⟩;refine yO ?_;refine ⟨by kernel_rfl,?_⟩;refine za ?_;refine yO ?_;refine ⟨by kernel_rfl,?_⟩;refine za ?_
  first
  | refine si (Wg O jA zc) (by repeat (first|exact zf.nil|refine zf.cons zd ?_)) (zy _) rfl rfl rfl ?_
  | refine zw Wh (by repeat (first|exact zf.nil|refine zf.cons zd ?_)) rfl rfl ?_
  refine za ?_;rw [cI];rw [c6];refine FW.loop (fun i:Nat=>⟨[(3,.ptr 103 0 0 0),(4,.ptr 104 0 0 0),(5,.own 100 0 0 (A i).length),(38,.list 3 (E.map mY)),(39,.int .i64 E.length),(40,.int .i64 i)],[(100,⟨0,.own,3,1,(A i).map yQ⟩),(103,⟨0,.own,3,1,[[.int .i64 lo]]⟩),(104,⟨0,.own,3,1,[[.int .i64 mx]]⟩)]⟩) (fun i=>i≤E.length) (fun i=>E.length - i) 0 (zB _) ?_ ?_
  (·
    dsimp only;rw [dY]
    first
    | (rw [jA]; exact (au.cv [⟨100, none, 0, ⟨0, .own, 3, 1, []⟩⟩, ⟨103, some 3, 1, ⟨0, .own, 3, 1, [[.int .i64 lo]]⟩⟩, ⟨104, some 4, 1, ⟨0, .own, 3, 1, [[.int .i64 mx]]⟩⟩] zm zq))
    | exact (au.cv [⟨100, some 34, 1, ⟨0, .own, 3, 1, O.map yQ⟩⟩, ⟨103, some 3, 1, ⟨0, .own, 3, 1, [[.int .i64 lo]]⟩⟩, ⟨104, some 4, 1, ⟨0, .own, 3, 1, [[.int .i64 mx]]⟩⟩] zm zq))
  intro i hi;have tv:=kU i hi;refine za ?_;refine FW.cond rfl (fun h=>?_) (fun h=>?_)
  (·
    have az:i<E.length:=by simpa using h
    clear h;have gM:=gM i az;obtain ⟨e,he⟩:∃ e,nth E i=e:=⟨_,rfl⟩
    rw [he] at gM;obtain ⟨e1,e2,e3⟩:=e;refine za ?_;rw [he];skip;refine zC (es:=[[.int .i64 e1],[.int .i64 e2]]) rfl rfl rfl (by refine zY.int rfl rfl ?_;refine zY.int rfl rfl ?_;exact zY.nil) rfl rfl rfl rfl rfl ?_;refine za ?_;refine ⟨i+1,by omega,by omega,?_⟩;dsimp only;rw [gM,yY];exact (au.cv [⟨100,some 50,0+1,⟨0,.own,3,1,(A i).map yQ++[e1,e2].map yQ⟩⟩,⟨103,some 103,0,⟨0,.own,3,1,[[.int .i64 lo]]⟩⟩,⟨104,some 104,0,⟨0,.own,3,1,[[.int .i64 mx]]⟩⟩] zm zq))
  obtain rfl:i=E.length:=by simp at h;omega
  refine Xf ?_;refine zn.le ?_ (au.aL 3 rfl rfl);refine zn.le ?_ (au.aL 4 rfl rfl);refine za ?_;refine zw n8 xr rfl rfl ?_;refine za ?_;exact FW.ret ⟨.inl rfl,zh rfl rfl rfl rfl⟩)
theorem B5 (x:bK) (O:List Int) (E:List (Int×Int×Int)) (hE:x.ed=E.map mY) (hO:O.length≤100000) (m6:E.length≤100000) (h1:x.fl.length≤1000000) (h2:x.tr.length≤1000000) (h3:x.ops.length≤1000000) (cz:x.k≠1) (k6:x.k≠8):zP Tryz.prog 22 [x.x (bZ O)] .fr (.bool (!((O++du E).any (jo x)))):=by
 have fz:jo x=fun i=>decide (i<0) || decide (i > (x.ops.length:Int) - 1):=by
  funext i;unfold jo oT ot;simp [cz,k6]
 rw [fz];have cE:=YM (0) ((x.ops.length:Int) - 1);generalize cI:(x.ops.length:Int) - 1=mx at cE ⊢;obtain ⟨A,hA⟩:∃ A:Nat→List Int,A=fun i=>O++du (E.take i):=⟨_,rfl⟩
 have dY:A 0=O:=by rw [hA];simp [du]
 have gM:∀ i,i<E.length→A (i+1)=A i++[(nth E i).1,(nth E i).2.1]:=fun i hi=>by rw [hA];show O++du (E.take (i+1))=_;rw [sr hi,← ye]
 have kT:O++du E=A E.length:=by rw [hA];show _=O++du (E.take E.length);rw [yI]
 have kU:∀ i,i≤E.length→(A i).length=O.length+2 * i:=fun i hi=>by rw [hA];show (O++du (E.take i)).length=_;rw [yL,sA,yE,xE hi]
 rw [kT];clear hA kT;have n8:=Zq (A E.length) 67 [vc (.int .i64 0),vc (.int .i64 mx)] _ (by rw [kU _ (zi _)];omega) (fun o _=>cE o);unfold bK.x bZ;rw [hE];by_cases jA:O=[]
 all_goals simp only [jA,if_true,if_false]
 all_goals (
  refine zj 56 Tryz.func22 Tryz.ntmps22 rfl ?_;change FW _ _ _ ⟨[(0,_)],[]⟩;refine yO ?_;refine ⟨by kernel_rfl,?_⟩;refine za ?_;refine FW.dM (by show FV.bool (decide (x.k=1))=_;rw [decide_eq_false cz]) ?_;refine za ?_;refine FW.dM (by show FV.bool (decide (x.k=8))=_;rw [decide_eq_false k6]) ?_;refine za ?_
  first
  | refine si (Wg O jA zc) (by repeat (first|exact zf.nil|refine zf.cons zd ?_)) (zy _) rfl rfl rfl ?_
  | refine zw Wh (by repeat (first|exact zf.nil|refine zf.cons zd ?_)) rfl rfl ?_
  refine za ?_;rw [cI];refine FW.loop (fun i:Nat=>⟨[(3,.ptr 103 0 0 0),(4,.ptr 104 0 0 0),(5,.own 100 0 0 (A i).length),(38,.list 3 (E.map mY)),(39,.int .i64 E.length),(40,.int .i64 i)],[(100,⟨0,.own,3,1,(A i).map yQ⟩),(103,⟨0,.own,3,1,[[.int .i64 0]]⟩),(104,⟨0,.own,3,1,[[.int .i64 mx]]⟩)]⟩) (fun i=>i≤E.length) (fun i=>E.length - i) 0 (zB _) ?_ ?_
  (·
    dsimp only;rw [dY]
    first
    | (rw [jA]; exact (au.cv [⟨100, none, 0, ⟨0, .own, 3, 1, []⟩⟩, ⟨103, some 3, 1, ⟨0, .own, 3, 1, [[.int .i64 0]]⟩⟩, ⟨104, some 4, 1, ⟨0, .own, 3, 1, [[.int .i64 mx]]⟩⟩] zm zq))
    | exact (au.cv [⟨100, some 34, 1, ⟨0, .own, 3, 1, O.map yQ⟩⟩, ⟨103, some 3, 1, ⟨0, .own, 3, 1, [[.int .i64 0]]⟩⟩, ⟨104, some 4, 1, ⟨0, .own, 3, 1, [[.int .i64 mx]]⟩⟩] zm zq))
  intro i hi;have tv:=kU i hi;refine za ?_;refine FW.cond rfl (fun h=>?_) (fun h=>?_)
  (·
    have az:i<E.length:=by simpa using h
    clear h;have gM:=gM i az;obtain ⟨e,he⟩:∃ e,nth E i=e:=⟨_,rfl⟩
    rw [he] at gM;obtain ⟨e1,e2,e3⟩:=e;refine za ?_;rw [he];skip;refine zC (es:=[[.int .i64 e1],[.int .i64 e2]]) rfl rfl rfl (by refine zY.int rfl rfl ?_;refine zY.int rfl rfl ?_;exact zY.nil) rfl rfl rfl rfl rfl ?_;refine za ?_;refine ⟨i+1,by omega,by omega,?_⟩;dsimp only;rw [gM,yY];exact (au.cv [⟨100,some 50,0+1,⟨0,.own,3,1,(A i).map yQ++[e1,e2].map yQ⟩⟩,⟨103,some 103,0,⟨0,.own,3,1,[[.int .i64 0]]⟩⟩,⟨104,some 104,0,⟨0,.own,3,1,[[.int .i64 mx]]⟩⟩] zm zq))
  obtain rfl:i=E.length:=by simp at h;omega
  refine Xf ?_;refine zn.le ?_ (au.aL 3 rfl rfl);refine zn.le ?_ (au.aL 4 rfl rfl);refine za ?_;refine zw n8 xr rfl rfl ?_;refine za ?_;exact FW.ret ⟨.inl rfl,zh rfl rfl rfl rfl⟩)
theorem Xj (x:bK) (O:List Int) (E:List (Int×Int×Int)) (hE:x.ed=E.map mY) (hO:O.length≤100000) (m6:E.length≤100000) (h1:x.fl.length≤1000000) (h2:x.tr.length≤1000000) (h3:x.ops.length≤1000000):zP Tryz.prog 22 [x.x (bZ O)] .fr (.bool (!((O++du E).any (jo x)))):=by
 by_cases cz:x.k=1
 ·exact B3 x O E hE hO m6 h1 h2 h3 cz
 ·by_cases k6:x.k=8
  ·exact B4 x O E hE hO m6 h1 h2 h3 k6
  ·exact B5 x O E hE hO m6 h1 h2 h3 cz k6
def nP (l:List aN) (i k:Nat):Bool:=(nth l i).done && decide ((nth l i).ret<(nth l k).call)
theorem Cn (l:List aN) (i k:Nat) (hi:i<l.length) (hk:k<l.length):zP Tryz.prog 140 [.list 8 (l.map aN.fv),.int .i64 i,.int .i64 k] .fr (.bool (nP l i k)):=by
 refine zj 37 Tryz.func140 Tryz.ntmps140 rfl ?_;change FW _ _ _ ⟨[(0,.list 8 (l.map aN.fv)),(1,.int .i64 i),(2,.int .i64 k)],[]⟩;refine za ?_;refine yc (fun h=>?_) (fun h=>?_)
 ·exfalso;simp at h;omega
 ·refine za ?_;refine FW.cond rfl (fun h=>?_) (fun h=>?_)
  ·exfalso;simp at h;omega
  refine yO ?_;refine sH (fun h=>?_) (fun h=>?_)
  ·refine zt ?_;refine ⟨by kernel_rfl,?_⟩;skip;refine FW.ret ⟨.inl rfl,zh rfl rfl ?_ rfl⟩;simp [nP,h];rfl
  ·refine zt ?_;refine ⟨by kernel_rfl,?_⟩;skip;refine FW.ret ⟨.inl rfl,zh rfl rfl ?_ rfl⟩;simp [nP,h];rfl
def kx (l:List aN) (i k:Int):Bool:=if 0≤i∧0≤k∧i<l.length∧k<l.length then nP l i.toNat k.toNat else false
theorem Es {i k:Int} (h:¬ (0≤i∧0≤k∧i<l.length∧k<l.length)):kx l i k=false:=by unfold kx;rw [if_neg h]
theorem Fi {k:Nat} (hi:i<l.length) (hk:k<l.length):kx l i k=nP l i k:=by
 unfold kx;rw [if_pos zc];rfl
theorem BX (l:List aN) (i k:Int) (hl:l.length≤1000000000):zP Tryz.prog 140 [.list 8 (l.map aN.fv),.int .i64 i,.int .i64 k] .fr (.bool (kx l i k)):=by
 by_cases cE:0≤i∧0≤k∧i<l.length∧k<l.length
 ·obtain ⟨a,ha⟩:∃ a:Nat,i=a:=⟨i.toNat,by omega⟩
  obtain ⟨b,hb⟩:∃ b:Nat,k=b:=⟨k.toNat,by omega⟩
  subst ha;subst hb;rw [Fi zc zc];exact Cn l a b zc zc
 ·rw [Es cE];refine zj 37 Tryz.func140 Tryz.ntmps140 rfl ?_;change FW _ _ _ ⟨[(0,.list 8 (l.map aN.fv)),(1,.int .i64 i),(2,.int .i64 k)],[]⟩;refine za ?_;refine yc (fun h=>?_) (fun h=>?_)
  ·refine za ?_;exact FW.ret ⟨.inl rfl,zh rfl rfl rfl rfl⟩
  ·refine za ?_;refine FW.cond rfl (fun h2=>?_) (fun h2=>?_)
   ·refine za ?_;exact FW.ret ⟨.inl rfl,zh rfl rfl rfl rfl⟩
   ·exfalso;simp at h h2;exact cE zc
theorem EO {c:Ctx} {fn:Func} {t:List (Nat×FV)} {ob:List (Nat×zL)} {d T id aa E sz dr:Nat} {kk:TK} {z cs:List FV} (hr:fn.results.toList=[.cell d T]) (h:look .undef t d=.ptr id aa 0 0) (hT:c.ty T=⟨kk,sz,dr,z⟩) (hk:kk.aX = some true) (hp:0<sz) (hb:look {} ob id=⟨aa,.own,E,sz,[cs]⟩) (hl:cs.length=sz) (hf:(FV.agg cs).flat=true):jr c fn ⟨t,ob⟩ .fr (.agg cs):=by
 have bB : (⟨t,ob⟩:ae).ob id=⟨aa,.own,E,sz,[cs]⟩:=hb;have hc:=lK.cell (c:=c) (s:=⟨t,ob⟩) d T (bb:=true) (by rw [hT];exact hk) (id:=id) (aa:=aa) (j:=0) (o:=0) h ⟨(fun e=>by (rw [bB] at e;cases e)),by rw [bB]⟩ (by rw [bB];rfl) (by rw [bB];exact Nat.one_pos) (by rw [bB,hT];simp) (by rw [bB];exact hp);have e:Zl (c.ty T) ((((⟨t,ob⟩:ae).ob id).es.getD 0 []).drop 0)=.agg cs:=by
  rw [bB,hT];unfold Zl;rw [hk];show FV.agg (cs.take sz)=_;rw [ym zc]
 rw [e] at hc;exact .flat (fs:=[.agg cs]) (by rw [hr];exact .cons hc .nil) rfl hf
theorem Xp (x:bK) (od:FV) (c0:nG od) (l:List aN) (eH:x.ops=l.map aN.fv) (i:Nat) (hi:i<l.length):zP Tryz.prog 91 [x.x od,.int .i64 i] .fr (.agg (nth l i).fv):=by
 have hA:=x.one c0;rw [eH] at hA;unfold bK.x;rw [eH];refine zj 11 Tryz.func91 Tryz.ntmps91 rfl ?_;change FW _ _ _ ⟨[(0,_),(1,_)],[]⟩;refine xf ?_;refine zn.aR (yA rfl rfl hA rfl rfl) rfl rfl ?_;refine za ?_;exact FW.ret ⟨.inl rfl,EO rfl rfl rfl rfl zb rfl rfl rfl⟩
theorem Ca (x:bK) (od:FV) (c0:nG od) (l:List aN) (eH:x.ops=l.map aN.fv) (hl:l.length≤1000000) (i k:Int):zP Tryz.prog 88 [x.x od,.int .i64 i,.int .i64 k] .fr (.bool (kx l i k)):=by
 have hb:=BX l i k zc;generalize kx l i k=B at hb ⊢;have hA:=x.one c0;rw [eH] at hA;unfold bK.x;rw [eH];refine zj 13 Tryz.func88 Tryz.ntmps88 rfl ?_;change FW _ _ _ ⟨[(0,_),(1,_),(2,_)],[]⟩;refine xf ?_;refine zn.aR (yA rfl rfl hA rfl rfl) rfl rfl ?_;refine za ?_;refine zw hb (by repeat (first|exact zf.nil|refine zf.cons zd ?_)) rfl rfl ?_;refine za ?_;exact FW.ret ⟨.inl rfl,zh rfl rfl rfl rfl⟩
theorem uo (x:bK) (od:FV) (c0:nG od) (l:List aN) (eH:x.ops=l.map aN.fv) (i:Nat) (hi:i<l.length):zP Tryz.prog 89 [x.x od,.int .i64 i] .fr (.bool (decide (x.ar=(nth l i).key))):=by
 have bM:=Xp x od c0 l eH i hi;generalize nth l i=o at bM ⊢;have hA:=x.one c0;unfold bK.x at bM ⊢;refine zj 13 Tryz.func89 Tryz.ntmps89 rfl ?_;change FW _ _ _ ⟨[(0,_),(1,_)],[]⟩;refine xf ?_;refine zn.aR (yA rfl rfl hA rfl rfl) rfl rfl ?_;refine yO ?_;refine yG bM (by repeat (first|exact zf.nil|refine zf.cons zd ?_)) rfl rfl ?_;skip;refine EG rfl rfl rfl rfl rfl rfl rfl rfl ?_;refine zt ?_;refine ⟨by kernel_rfl,?_⟩;skip;exact FW.ret ⟨.inl rfl,zh rfl rfl rfl rfl⟩
theorem UC (x:bK) (od:FV) (c0:nG od) (l:List aN) (eH:x.ops=l.map aN.fv) (hl:l.length≤1000000) (i k:Nat) (hi:i<l.length) (hk:k<l.length):zP Tryz.prog 90 [x.x od,.agg [.int .i64 i,.int .i64 k,.int .i64 5]] .fr (.bool (kx l i k)):=by
 have h1:=Xp x od c0 l eH i hi;have h2:=Xp x od c0 l eH k hk;have hb:=Ca x od c0 l eH hl i k;generalize nth l i=o1 at h1;generalize nth l k=o2 at h2;generalize kx l i k=B at hb ⊢;have hA:=x.one c0;unfold bK.x at h1 h2 hb ⊢;refine zj 81 Tryz.func90 Tryz.ntmps90 rfl ?_;change FW _ _ _ ⟨[(0,_),(1,_)],[]⟩;refine xf ?_;refine zn.aR (yA rfl rfl hA rfl rfl) rfl rfl ?_;refine yO ?_;refine yG h1 (by repeat (first|exact zf.nil|refine zf.cons zd ?_)) rfl rfl ?_;refine zt ?_;refine yG h2 (by repeat (first|exact zf.nil|refine zf.cons zd ?_)) rfl rfl ?_;refine zt ?_;refine ⟨by kernel_rfl,?_⟩;refine za ?_;refine zw hb (by repeat (first|exact zf.nil|refine zf.cons zd ?_)) rfl rfl ?_;refine za ?_;exact FW.ret ⟨.inl rfl,zh rfl rfl rfl rfl⟩
def Xb:List aN:=[⟨0,1,0,1,0,0,1,true⟩,⟨1,0,0,0,0,2,3,true⟩]
def xS:bK:={ k:=2,ops:=Xb.map aN.fv,cl:=4,ed:=[[.int .i64 0,.int .i64 1,.int .i64 5]] }
def xH:bK:={ k:=2,ops:=Xb.map aN.fv,cl:=0 }
def mL:FV:=.list 1 [[.int .i64 0],[.int .i64 1]]
theorem CD:zP Tryz.prog 44 ([xS.x .nil]++[]) .fr (.bool true):=by
 have h0:=Xp xS .nil rfl Xb rfl 0 zb;have h1:=Xp xS .nil rfl Xb rfl 1 zb;have hj:=UC xS .nil rfl Xb rfl zb 0 1 zb zb;rw [show kx Xb ((0:Nat):Int) ((1:Nat):Int)=true by decide] at hj;have k0:=uo xS .nil rfl Xb rfl 0 zb;have k1:=uo xS .nil rfl Xb rfl 1 zb;have w0:=Ws (nth Xb 0);have o1:=YR (nth Xb 1);simp only [bK.x,xS] at h0 h1 hj k0 k1 ⊢;refine zj 85 Tryz.func44 Tryz.ntmps44 rfl ?_;change FW _ _ _ ⟨[(0,_)],[]⟩;refine za ?_;refine FW.loop (fun i:Nat=>⟨[(1,.ptr 101 0 0 0),(3,.ptr 103 0 0 0),(12,.list 3 [[.int .i64 0,.int .i64 1,.int .i64 5]]),(13,.int .i64 1),(14,.int .i64 (i:Nat))],[(101,⟨0,.own,64,15,[[.int .i64 2,.int .i64 0,.int .i64 0,.int .i64 0,.int .i64 0,.int .i64 0,.list 5 [],.list 8 (Xb.map aN.fv),.list 1 [],.list 4 [],.int .i64 2,.int .i64 4,.int .i64 0,.nil,.list 3 [[.int .i64 0,.int .i64 1,.int .i64 5]]]]⟩),(103,⟨0,.own,38,1,[[.list 3 [[.int .i64 0,.int .i64 1,.int .i64 5]]]]⟩)]⟩) (fun i=>i≤1) (fun i=>1 - i) 0 zb ?_ ?_
 ·exact (au.cv [⟨101,some 1,1,⟨0,.own,64,15,[[.int .i64 2,.int .i64 0,.int .i64 0,.int .i64 0,.int .i64 0,.int .i64 0,.list 5 [],.list 8 (Xb.map aN.fv),.list 1 [],.list 4 [],.int .i64 2,.int .i64 4,.int .i64 0,.nil,.list 3 [[.int .i64 0,.int .i64 1,.int .i64 5]]]]⟩⟩,⟨103,some 3,1,⟨0,.own,38,1,[[.list 3 [[.int .i64 0,.int .i64 1,.int .i64 5]]]]⟩⟩] zm zq)
 intro i hi;obtain rfl|rfl:i=0∨i=1:=by omega
 ·refine za ?_;refine zw hj (by repeat (first|exact zf.nil|refine zf.cons zd ?_)) rfl ⟨_,_,rfl,rfl,rfl⟩ ?_;refine za ?_;refine zw k0 (by repeat (first|exact zf.nil|refine zf.cons zd ?_)) rfl ⟨_,_,rfl,rfl,rfl⟩ ?_;refine za ?_;refine zw k1 (by repeat (first|exact zf.nil|refine zf.cons zd ?_)) rfl ⟨_,_,rfl,rfl,rfl⟩ ?_;refine za ?_;refine ⟨1,by decide,by decide,?_⟩;exact (au.cv [⟨101,some 101,0,⟨0,.own,64,15,[[.int .i64 2,.int .i64 0,.int .i64 0,.int .i64 0,.int .i64 0,.int .i64 0,.list 5 [],.list 8 (Xb.map aN.fv),.list 1 [],.list 4 [],.int .i64 2,.int .i64 4,.int .i64 0,.nil,.list 3 [[.int .i64 0,.int .i64 1,.int .i64 5]]]]⟩⟩,⟨103,some 103,0,⟨0,.own,38,1,[[.list 3 [[.int .i64 0,.int .i64 1,.int .i64 5]]]]⟩⟩] zm zq)
 ·refine yO ?_;refine yG h0 (by repeat (first|exact zf.nil|refine zf.cons zd ?_)) rfl rfl ?_;refine zt ?_;refine yG h1 (by repeat (first|exact zf.nil|refine zf.cons zd ?_)) rfl rfl ?_;refine zt ?_;refine ⟨by kernel_rfl,?_⟩;refine za ?_;refine zw o1 (by repeat (first|exact zf.nil|refine zf.cons zd ?_)) rfl rfl ?_;refine za ?_;refine zw w0 (by repeat (first|exact zf.nil|refine zf.cons zd ?_)) rfl ⟨_,_,rfl,rfl,rfl⟩ ?_;refine za ?_;exact FW.ret ⟨.inl rfl,zh rfl rfl rfl rfl⟩
theorem wR:Maps.Keyed Tryz.prog 3:=Maps.int_keyed (q:=.i64) zD
theorem sQ (ha:bD a):XP Tryz.prog 3 (.int .i64 a):=⟨rfl,_,Maps.keyOf_int_mk (q:=.i64) zD (o8 ha)⟩
def lF:FV:=.agg [.int .i64 2,.int .i64 0,.int .i64 0,.int .i64 0,.int .i64 0,.int .i64 0,.list 5 [],.list 8 (Xb.map aN.fv),.list 1 [],.list 4 [],.int .i64 2,.int .i64 0,.int .i64 0,.list 1 [[.int .i64 0],[.int .i64 1]],.list 3 []]
theorem wV:xH.x mL=lF:=rfl
theorem vd (i:Nat) (hi:i<2):zP Tryz.prog 117 ([.int .i64 i]++[(.ay 15 [[.int .i64 2,.int .i64 0,.int .i64 0,.int .i64 0,.int .i64 0,.int .i64 0,.list 5 [],.list 8 (Xb.map aN.fv),.list 1 [],.list 4 [],.int .i64 2,.int .i64 0,.int .i64 0,.list 1 [[.int .i64 0],[.int .i64 1]],.list 3 []]] 0 0)]) .fr (.bool true):=by
 have bM:=Xp xH mL rfl Xb rfl i hi;have hd:(nth Xb i).done=true:=by
  obtain rfl|rfl:i=0∨i=1:=by omega
  ·rfl
  ·rfl
 generalize nth Xb i=o at bM hd;rw [wV] at bM;unfold lF at bM;refine zj 8 Tryz.func117 Tryz.ntmps117 rfl ?_;change FW _ _ _ ⟨[(0,_),(1,_)],[]⟩;refine za ?_;refine zw bM (by repeat (first|exact zf.nil|refine zf.cons zd ?_)) rfl rfl ?_;refine uY rfl rfl rfl rfl rfl rfl rfl rfl ?_;refine za ?_;exact FW.ret ⟨.inl rfl,zh rfl rfl (congrArg FV.bool hd) rfl⟩
theorem Co:zP Tryz.prog 102 [lF,(.fn 117 [(.ay 15 [[.int .i64 2,.int .i64 0,.int .i64 0,.int .i64 0,.int .i64 0,.int .i64 0,.list 5 [],.list 8 (Xb.map aN.fv),.list 1 [],.list 4 [],.int .i64 2,.int .i64 0,.int .i64 0,.list 1 [[.int .i64 0],[.int .i64 1]],.list 3 []]] 0 0)]),(.fn 118 [(.ay 15 [[.int .i64 2,.int .i64 0,.int .i64 0,.int .i64 0,.int .i64 0,.int .i64 0,.list 5 [],.list 8 (Xb.map aN.fv),.list 1 [],.list 4 [],.int .i64 2,.int .i64 0,.int .i64 0,.list 1 [[.int .i64 0],[.int .i64 1]],.list 3 []]] 0 0)])] .fr (.bool true):=by
 have s0:=vd 0 zb;have s1:=vd 1 zb;unfold lF;refine zj 68 Tryz.func102 Tryz.ntmps102 rfl ?_;change FW _ _ _ ⟨[(0,_),(1,_),(2,_)],[]⟩;refine za ?_;refine zn.aR (Fs (n:=2) rfl rfl rfl rfl rfl rfl rfl rfl zb zb rfl) rfl rfl ?_;refine za ?_;refine FW.loop (fun p:Nat×List (List FV)=>⟨[(1,(.fn 117 [(.ay 15 [[.int .i64 2,.int .i64 0,.int .i64 0,.int .i64 0,.int .i64 0,.int .i64 0,.list 5 [],.list 8 (Xb.map aN.fv),.list 1 [],.list 4 [],.int .i64 2,.int .i64 0,.int .i64 0,.list 1 [[.int .i64 0],[.int .i64 1]],.list 3 []]] 0 0)])),(2,(.fn 118 [(.ay 15 [[.int .i64 2,.int .i64 0,.int .i64 0,.int .i64 0,.int .i64 0,.int .i64 0,.list 5 [],.list 8 (Xb.map aN.fv),.list 1 [],.list 4 [],.int .i64 2,.int .i64 0,.int .i64 0,.list 1 [[.int .i64 0],[.int .i64 1]],.list 3 []]] 0 0)])),(7,.own 100 0 0 2),(20,.list 1 [[.int .i64 0],[.int .i64 1]]),(21,.int .i64 2),(22,.int .i64 (p.1:Nat))],[(100,⟨0,.own,3,1,p.2⟩)]⟩) (fun p=>p=(0,[[.int .i64 0],[.int .i64 0]])∨p=(1,[[.int .i64 1],[.int .i64 0]])∨p=(2,[[.int .i64 1],[.int .i64 1]])) (fun p=>2 - p.1) (0,[[.int .i64 0],[.int .i64 0]]) (.inl rfl) ?_ ?_
 ·exact (au.cv [⟨100,some 16,1,⟨0,.own,3,1,[[.int .i64 0],[.int .i64 0]]⟩⟩] zm zq)
 rintro _ (rfl|rfl|rfl)
 ·refine za ?_;refine ⟨(1,[[.int .i64 1],[.int .i64 0]]),.inr (.inl rfl),(by show 2 - 1<2 - 0;decide),?_⟩;exact (au.cv [⟨100,some 100,0,⟨0,.own,3,1,[[.int .i64 1],[.int .i64 0]]⟩⟩] zm zq)
 ·refine za ?_;refine ⟨(2,[[.int .i64 1],[.int .i64 1]]),.inr (.inr rfl),(by show 2 - 2<2 - 1;decide),?_⟩;exact (au.cv [⟨100,some 100,0,⟨0,.own,3,1,[[.int .i64 1],[.int .i64 1]]⟩⟩] zm zq)
 ·refine za ?_;refine FW.loop (fun i:Nat=>⟨[(1,(.fn 117 [(.ay 15 [[.int .i64 2,.int .i64 0,.int .i64 0,.int .i64 0,.int .i64 0,.int .i64 0,.list 5 [],.list 8 (Xb.map aN.fv),.list 1 [],.list 4 [],.int .i64 2,.int .i64 0,.int .i64 0,.list 1 [[.int .i64 0],[.int .i64 1]],.list 3 []]] 0 0)])),(2,(.fn 118 [(.ay 15 [[.int .i64 2,.int .i64 0,.int .i64 0,.int .i64 0,.int .i64 0,.int .i64 0,.list 5 [],.list 8 (Xb.map aN.fv),.list 1 [],.list 4 [],.int .i64 2,.int .i64 0,.int .i64 0,.list 1 [[.int .i64 0],[.int .i64 1]],.list 3 []]] 0 0)])),(33,.own 100 0 0 2),(34,.int .i64 2),(35,.int .i64 (i:Nat))],[(100,⟨0,.own,3,1,[[.int .i64 1],[.int .i64 1]]⟩)]⟩) (fun i=>i≤2) (fun i=>2 - i) 0 zb ?_ ?_
  ·exact (au.cv [⟨100,some 100,0,⟨0,.own,3,1,[[.int .i64 1],[.int .i64 1]]⟩⟩] zm zq)
  intro i hi;obtain rfl|rfl|rfl:i=0∨i=1∨i=2:=by omega
  ·refine za ?_;refine Yk rfl s0 (by repeat (first|exact zf.nil|refine zf.cons zd ?_)) rfl ⟨_,_,rfl,rfl,rfl⟩ ?_;refine za ?_;refine ⟨1,by decide,by decide,?_⟩;exact (au.cv [⟨100,some 100,0,⟨0,.own,3,1,[[.int .i64 1],[.int .i64 1]]⟩⟩] zm zq)
  ·refine za ?_;refine Yk rfl s1 (by repeat (first|exact zf.nil|refine zf.cons zd ?_)) rfl ⟨_,_,rfl,rfl,rfl⟩ ?_;refine za ?_;refine ⟨2,by decide,by decide,?_⟩;exact (au.cv [⟨100,some 100,0,⟨0,.own,3,1,[[.int .i64 1],[.int .i64 1]]⟩⟩] zm zq)
  ·refine za ?_;exact FW.ret ⟨.inl rfl,zh rfl rfl rfl rfl⟩
theorem EV:zP Tryz.prog 64 ([lF]++[]) .fr (.bool false):=by
 have qY:=Co;have p0:=Xp xH mL rfl Xb rfl 0 zb;have p1:=Xp xH mL rfl Xb rfl 1 zb;have w0:=Ws (nth Xb 0);have o0:=YR (nth Xb 0);have o1:=YR (nth Xb 1);have hc:=fun aF=>Zq [] 119 aF (fun _=>true) zb (fun o h=>by cases h);rw [wV] at p0 p1;unfold lF at qY p0 p1 ⊢;refine zj 69 Tryz.func64 Tryz.ntmps64 rfl ?_;change FW _ _ _ ⟨[(0,_)],[]⟩
 (repeat (first|refine FW.seq ?_|refine FW.region ?_|refine zn.nil ?_|refine zn.aR (yA rfl rfl rfl rfl rfl) rfl rfl ?_|refine zn.ab (yi rfl) rfl rfl ?_))
 refine zn.le ?_ (au.aL 1 rfl rfl);refine za ?_;refine zw qY (by repeat (first|exact zf.nil|refine zf.cons zd ?_)) rfl ⟨_,_,rfl,rfl,rfl⟩ ?_;refine za ?_;refine FW.loop (fun p:Nat×List (List FV)=>⟨[(1,(.ay 15 [[.int .i64 2,.int .i64 0,.int .i64 0,.int .i64 0,.int .i64 0,.int .i64 0,.list 5 [],.list 8 (Xb.map aN.fv),.list 1 [],.list 4 [],.int .i64 2,.int .i64 0,.int .i64 0,.list 1 [[.int .i64 0],[.int .i64 1]],.list 3 []]] 0 0)),(5,.omap 100 0),(26,.list 1 [[.int .i64 0],[.int .i64 1]]),(27,.int .i64 2),(28,.int .i64 (p.1:Nat))],[(100,⟨0,.bl,137,0,p.2⟩)]⟩) (fun p=>p=(0,[])∨p=(1,[[.int .i64 0,.int .i64 1]])) (fun p=>2 - p.1) (0,[]) (.inl rfl) ?_ ?_
 ·exact (au.cv [⟨100,some 22,1,⟨0,.bl,137,0,[]⟩⟩] zm zq)
 rintro _ (rfl|rfl)
 ·refine za ?_;refine zw p0 (by repeat (first|exact zf.nil|refine zf.cons zd ?_)) rfl rfl ?_;refine za ?_;refine zw o0 (by repeat (first|exact zf.nil|refine zf.cons zd ?_)) rfl rfl ?_;refine za ?_;refine zw w0 (by repeat (first|exact zf.nil|refine zf.cons zd ?_)) rfl rfl ?_;refine za ?_;refine Ze wR (es:=[]) (fun row h=>by cases h) (sQ (a:=0) zb) (.inr ⟨(fun row h=>by cases h),rfl⟩) rfl rfl rfl rfl rfl rfl rfl ?_
  (repeat (first|refine FW.seq ?_|refine FW.region ?_|refine zn.nil ?_|refine zn.ab (yN rfl rfl rfl rfl rfl) rfl rfl ?_|refine zn.ab (yF rfl rfl rfl (by first|omega|(simp;done)) rfl rfl rfl) rfl rfl ?_|refine zn.ab (qc rfl rfl) rfl rfl ?_|refine zn.ab (zS rfl) rfl rfl ?_|refine zn.ab (yF rfl rfl rfl (by first|omega|(simp;done)) rfl rfl rfl) rfl ⟨_,_,rfl,rfl,rfl⟩ ?_|refine zn.ab (zS rfl) rfl ⟨_,_,rfl,rfl,rfl⟩ ?_|refine zn.ab (yN rfl rfl rfl rfl rfl) rfl ⟨_,_,rfl,rfl,rfl⟩ ?_|refine zn.ab (Yv rfl rfl rfl rfl (by exact jd.none) (by exact jc.some rfl) (by first|omega|(simp;done)) (by first|omega|(simp;done))) rfl ⟨_,_,rfl,rfl,rfl⟩ ?_))
  refine zn.le ?_ (au.aL 7 rfl rfl);refine za ?_;refine zw (hc [(.ay 15 [[.int .i64 2,.int .i64 0,.int .i64 0,.int .i64 0,.int .i64 0,.int .i64 0,.list 5 [],.list 8 (Xb.map aN.fv),.list 1 [],.list 4 [],.int .i64 2,.int .i64 0,.int .i64 0,.list 1 [[.int .i64 0],[.int .i64 1]],.list 3 []]] 0 0),.ay 1 [[.int .i64 0]] 0 0]) (by repeat (first|exact zf.nil|refine zf.cons zd ?_)) rfl ⟨_,_,rfl,rfl,rfl⟩ ?_;refine za ?_;refine ⟨(1,[[.int .i64 0,.int .i64 1]]),.inr rfl,(by show 2 - 1<2 - 0;decide),?_⟩;exact (au.cv [⟨100,some 100,0,⟨0,.bl,137,0,[[.int .i64 0,.int .i64 1]]⟩⟩] zm zq)
 ·refine za ?_;refine zw p1 (by repeat (first|exact zf.nil|refine zf.cons zd ?_)) rfl rfl ?_;refine za ?_;refine zw o1 (by repeat (first|exact zf.nil|refine zf.cons zd ?_)) rfl rfl ?_;refine za ?_;refine u2 (e:=3) (es:=[[.int .i64 0,.int .i64 1]]) (vf:=.int .i64 1) (found:=true) wR (fun row h kf e=>by simp at h;subst h;injection e with e;subst e;exact sQ zb) (sQ (a:=0) zb) (.inl ⟨rfl,.head _⟩) rfl rfl zb rfl rfl rfl rfl rfl ⟨_,_,rfl,rfl,rfl⟩ ?_;refine za ?_;exact FW.ret ⟨.inl rfl,zh rfl rfl rfl rfl⟩
theorem B6:zP Tryz.prog 47 ([lF]++[]) .fr (.bool true):=by
 unfold lF;refine zj 21 Tryz.func47 Tryz.ntmps47 rfl ?_;change FW _ _ _ ⟨[(0,_)],[]⟩;refine za ?_;exact FW.ret ⟨.inl rfl,zh rfl rfl rfl rfl⟩
theorem Ch:zP Tryz.prog 43 ([xS.x .nil]++[]) .fr (.bool true):=by
 have h1:=UV xS .nil 0 (.inl ⟨rfl,rfl⟩) 0 1;simp only [bK.x,xS] at h1 ⊢;refine zj 11 Tryz.func43 Tryz.ntmps43 rfl ?_;change FW _ _ _ ⟨[(0,_)],[]⟩;refine yO ?_;refine zK (yp 0 1) (by repeat (first|exact zf.nil|refine zf.cons zd ?_)) rfl rfl ?_;refine zt ?_;refine vy rfl h1 (by repeat (first|exact zf.nil|refine zf.cons zd ?_)) rfl rfl ?_;refine zt ?_;refine ⟨by kernel_rfl,?_⟩;skip;exact FW.ret ⟨.inl rfl,zh rfl rfl rfl rfl⟩
theorem E6:∀ o∈Xb,mW o:=by
 intro o h;simp only [Xb,zT,Za,or_false] at h;rcases h with rfl|rfl <;> (unfold mW bD;decide)
theorem wN:zP Tryz.prog 20 [.int .i64 2,.list 8 (Xb.map aN.fv)] .fr (.bool true):=by
 have h:=B0 2 zb zb Xb zb E6;rwa [show lM (jb 2) Xb=true by decide] at h
theorem Fh:zP Tryz.prog 8 [xS.c,xS.e,xS.v .nil] .fr (.int .i64 0):=
 ZO xS .nil rfl zb zb true (.inr ⟨rfl,by decide,wN⟩)
  true (fun h=>by cases h) _ _ [] [] (fun _=>zZ (i:=3) rfl) true true true (fun _=>Ch) (fun _ _=>Xj xS [] [(0,1,5)] rfl zb zb zb zb zb) (fun _ _ _=>CD) 0 (fun h=>by cases h) (fun _=>rfl)
theorem Fg:zP Tryz.prog 8 [xH.c,xH.e,xH.v mL] .fr (.int .i64 31):=
 ZO xH mL rfl zb zb true (.inr ⟨rfl,by decide,wN⟩)
  true (fun h=>by cases h) _ _ [] [] (fun _=>zZ (i:=19) rfl) true true false (fun _=>B6) (fun _ _=>Xj xH [0,1] [] rfl zb zb zb zb zb) (fun _ _ _=>EV) 31 (fun h=>by cases h) (fun _=>rfl)
theorem xP:zP Tryz.prog 10 [] .fr (.bool true):=by
 have hS:=Fh;have hH:=Fg;have hz:=EX 2 4 0 [] [[.int .i64 0,.int .i64 1,.int .i64 5]] zb zb;simp only [bK.c,bK.e,bK.v,xS,xH,mL] at hS hH;refine zj 36 Tryz.func10 Tryz.ntmps10 rfl ?_;change FW _ _ _ ⟨[],[]⟩;refine za ?_;refine zC (es:=Xb.map aN.fv) rfl rfl rfl (by refine zY.agg rfl rfl rfl ?_;refine zY.agg rfl rfl rfl ?_;exact zY.nil) rfl rfl rfl rfl rfl ?_
 (repeat (first|refine FW.seq ?_|refine FW.region ?_|refine zn.nil ?_|refine zn.ab (yi rfl) rfl rfl ?_|refine Xs rfl rfl rfl rfl ?_|refine zn.aR (yV rfl rfl rfl rfl rfl) rfl rfl ?_|refine zn.aY (zA rfl rfl rfl rfl rfl rfl rfl rfl) rfl ?_|refine zn.ab (zS rfl) rfl rfl ?_|refine ZF.nil ?_|refine ZF.one rfl rfl rfl rfl rfl ?_))
 refine zC (es:=[[.int .i64 0,.int .i64 1,.int .i64 5]]) rfl rfl rfl (by refine zY.agg rfl rfl rfl ?_;exact zY.nil) rfl rfl rfl rfl rfl ?_;refine za ?_;refine zC (es:=[[.int .i64 0],[.int .i64 1]]) rfl rfl rfl (by refine zY.int rfl rfl ?_;refine zY.int rfl rfl ?_;exact zY.nil) rfl rfl rfl rfl rfl ?_;refine za ?_;refine zw hS xr rfl rfl ?_;refine za ?_;refine zw hH (by repeat (first|exact zf.nil|refine zf.cons (by exact gH.sub rfl rfl (by repeat (first|exact FV.le.refl _|exact FV.le.nil _|refine FV.le.agg ?_|refine FV.le.bS ?_|exact iC.nil|refine iC.cons ?_ ?_|exact FV.le.undef _))) ?_)) rfl ⟨_,_,rfl,rfl,rfl⟩ ?_;refine za ?_;refine zw hz (by repeat (first|exact zf.nil|refine zf.cons (by exact gH.sub rfl rfl (by repeat (first|exact FV.le.refl _|exact FV.le.nil _|refine FV.le.agg ?_|refine FV.le.bS ?_|exact iC.nil|refine iC.cons ?_ ?_|exact FV.le.undef _))) ?_)) rfl ⟨_,_,rfl,rfl,rfl⟩ ?_;refine za ?_;exact FW.ret ⟨.inl rfl,zh rfl rfl rfl rfl⟩
end Go.Proofs.YtedkppfghdipdaaGreatDoor
