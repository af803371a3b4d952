/-
  Some texts as one: FmSerD, FmSerC, FmSerV, LawSerialVerdicts, FmView, FmBuildH.
-/
import Derived.Test.YtlnehfplfoikaaaZDA
import Derived.Test.YtlnehfplfoikaaaZFmSerH
import Derived.Test.YtlnehfplfoikaaaZFmTopoL
import Derived.Test.YtlnehfplfoikaaaZM
import Derived.Test.YtlnehfplfoikaaaZG
namespace Go.Proofs.Ytlnehfplfoikaaa
set_option linter.unusedVariables false
set_option maxHeartbeats 16000000
open Go.RowKit
def za5 (o:OpV):Bool:=(decide (o.k≠0) && decide (o.k≠2)) || (decide (o.k=2) && decide (o.arg=0))
def zcz (l:List OpV) (i k:Nat):Bool:=(decide ((k:Int)≠(i:Int)) && decide ((nth l i).k=2) && decide ((nth l k).arg=(nth l i).arg)) || ((nth l i).done && !(nth l k).done && decide ((nth l k).arg=(nth l i).res))
def Yl (l:List OpV) (i k:Nat):Bool:=!(decide ((nth l k).k≠2) || decide ((nth l k).key≠(nth l i).key)) && zcz l i k
def zdo (l:List OpV) (i:Nat):Bool:=za5 (nth l i) || (List.range l.length).any (Yl l i)
theorem zdl {p:Nat→Bool} {i:Nat} (h:(List.range i).any p=false):(List.range (i+1)).any p=p i:=by rw [List.range_succ,List.any_append,h];simp
theorem zdu (l:List OpV):(List.range l.length).any (zdo l)=!xB l:=by
 have h:(List.range l.length).any (zdo l)=false↔ziN l:=by
  rw [List.any_eq_false];simp only [List.mem_range,zdo,za5,Yl,zcz,Bool.or_eq_true,Bool.and_eq_true,decide_eq_true_eq,Bool.not_eq_true',Bool.or_eq_false_iff,decide_eq_false_iff_not,List.any_eq_true,not_or,not_exists,not_and,Classical.not_not];constructor
  ·intro h;refine ⟨fun i hi=>?_,fun i hi h2=>(h i hi).1.2 h2,fun i j hi hj h1 h2 hk ha=>?_,fun i k hi hk h1 h2 hd ha=>?_⟩
   ·by_cases h0:(nth l i).k=0
    ·exact .inl h0
    ·exact .inr ((h i hi).1.1 h0)
   ·by_cases e:i=j
    ·exact e
    ·exact absurd ha (((h j hj).2 i hi ⟨h1,hk⟩).1 ⟨by omega,h2⟩)
   ·cases hq:(nth l k).done with
    | true => rfl
    | false => exact absurd ha (((h i hi).2 k hk ⟨h1, h2⟩).2 ⟨hd, hq⟩)
  ·intro h i hi;refine ⟨⟨fun h0=>(h.kind i hi).resolve_left h0,fun h2=>h.arg i hi h2⟩,fun k hk ⟨h1,h2⟩=>⟨fun ⟨h3,h4⟩ ha=>?_,fun ⟨hd,hq⟩ ha=>?_⟩⟩
   ·have:=h.uniq k i hk hi h1 h4 h2 ha;omega
   ·have:=h.pend i k hi hk h1 h2 hd ha;rw [hq] at this;cases this
 cases hd:xB l with
 | true => exact h.2 (Xc.1 hd)
 | false =>
  cases hr:(List.range l.length).any (zdo l) with
  | true => rfl
  | false => have := Xc.2 (h.1 hr); rw [hd] at this; cases this
theorem zhI {next:FSt→Prop} {Q:Exit→FSt→Prop} {e:Exit} {s:FSt} (he:e≠.normal) (h:Q e s):zgL next Q e s:=by
 cases e with
 | normal => exact absurd rfl he
 | _ => exact h
theorem FW.joinQ {c:Ctx} {s:FSt} {Q:Exit→FSt→Prop} {x y:Code} {ι:Type} (fam:ι→FSt) (pre:ι→Prop) (h1:FW c x (fun e s'=>(e=.normal∧∃ i,pre i∧FLe s' (fam i))∨(e≠.normal∧Q e s')) s) (h2:∀ i,pre i→FW c y Q (fam i)):FW c x (zgL (FW c y Q) Q) s:=
 h1.mono fun e s' h=>by
  rcases h with ⟨rfl,i,hp,hle⟩|⟨he,hq⟩
  ·exact (h2 i hp).le hle
  ·exact zhI he hq
theorem zbS (l:List OpV) (hl:l.length≤1000):zY Try.prog 19 [.list 8 (l.map OpV.fv)] .fr (.int .i64 (zaJ l)):=by
 obtain ⟨R,hR⟩:∃ R,zaJ l=R:=⟨_,rfl⟩
 have hbd:(List.range l.length).any (zdo l)=true→R=22:=fun h=>by
  rw [zdu] at h;rw [← hR];unfold zaJ;rw [if_neg (by simpa using h)]
 have hgd:(List.range l.length).any (zdo l)=false→R=0:=fun h=>by
  rw [zdu] at h;rw [← hR];unfold zaJ;rw [if_pos (by simpa using h)]
 rw [hR];refine zY.of_body (c:=(xa Try.prog zD zq 118)) ⟨Try.func19,rfl,Try.ntmps19,by kernel_rfl⟩ zC zp rfl ?_;change FW _ _ _ ⟨[(0,.list 8 (l.map OpV.fv))],[]⟩;refine za ?_;refine FW.loop (fun i:Nat=>⟨[(0,.list 8 (l.map OpV.fv)),(3,.int .i64 i)],[]⟩) (fun i=>i≤l.length∧(List.range i).any (zdo l)=false) (fun i=>l.length - i) 0 ⟨Nat.zero_le _,rfl⟩ ?_ ?_
 ·show FLe _ ⟨[(0,.list 8 (l.map OpV.fv)),(3,.int .i64 0)],[]⟩;exact (FLe.cv [] zu zd)
 rintro i ⟨hi,hany⟩;refine za ?_;refine FW.cond rfl (fun hc=>?_) (fun hc=>?_)
 ·have hi2:i<l.length:=by simpa using hc
  have hsi:=zdl hany;have hbadI:zdo l i=true→R=22:=fun h=>hbd (List.any_eq_true.2 ⟨i,List.mem_range.2 hi2,h⟩);refine FW.skip ?_;refine FW.seq ?_;refine FW.block ?_;refine FW.seq ?_;refine FW.joinQ (fun _:Unit=>⟨[(0,.list 8 (l.map OpV.fv)),(3,.int .i64 i)],[]⟩) (fun _=>za5 (nth l i)=false) ?_ ?_
  ·refine za ?_;refine zJ (fun a1=>?_) (fun a1=>?_)
   ·refine za ?_;refine zJ (fun a2=>?_) (fun a2=>?_)
    ·skip;have hk:za5 (nth l i)=true:=by unfold za5;rw [a1,a2];rfl
     have:R=22:=hbadI (by unfold zdo;rw [hk,Bool.true_or]);subst this;refine za ?_;exact FW.ret (.inr ⟨(fun h=>by cases h),⟨.inl rfl,zm rfl rfl rfl rfl⟩⟩)
    ·skip;refine za ?_;refine zJ (fun a3=>?_) (fun a3=>?_)
     ·refine za ?_;refine FW.cond rfl (fun a4=>?_) (fun a4=>?_)
      ·have a4:decide ((nth l i).arg=0)=true:=a4;have hk:za5 (nth l i)=true:=by unfold za5;rw [a1,a2,a3,a4];rfl
       have:R=22:=hbadI (by unfold zdo;rw [hk,Bool.true_or]);subst this;refine za ?_;exact FW.ret (.inr ⟨(fun h=>by cases h),⟨.inl rfl,zm rfl rfl rfl rfl⟩⟩)
      ·have a4:decide ((nth l i).arg=0)=false:=a4;have hk:za5 (nth l i)=false:=by unfold za5;rw [a1,a2,a3,a4];rfl
       refine za ?_;refine .inl ⟨rfl,(),hk,?_⟩;exact (FLe.cv [] zu zd)
     ·skip;have hk:za5 (nth l i)=false:=by unfold za5;rw [a1,a2,a3];rfl
      refine za ?_;refine .inl ⟨rfl,(),hk,?_⟩;exact (FLe.cv [] zu zd)
   ·skip;refine za ?_;refine zJ (fun a3=>?_) (fun a3=>?_)
    ·refine za ?_;refine FW.cond rfl (fun a4=>?_) (fun a4=>?_)
     ·have a4:decide ((nth l i).arg=0)=true:=a4;have hk:za5 (nth l i)=true:=by unfold za5;rw [a1,a3,a4];rfl
      have:R=22:=hbadI (by unfold zdo;rw [hk,Bool.true_or]);subst this;refine za ?_;exact FW.ret (.inr ⟨(fun h=>by cases h),⟨.inl rfl,zm rfl rfl rfl rfl⟩⟩)
     ·have a4:decide ((nth l i).arg=0)=false:=a4;have hk:za5 (nth l i)=false:=by unfold za5;rw [a1,a3,a4];rfl
      refine za ?_;refine .inl ⟨rfl,(),hk,?_⟩;exact (FLe.cv [] zu zd)
    ·skip;have hk:za5 (nth l i)=false:=by unfold za5;rw [a1,a3];rfl
     refine za ?_;refine .inl ⟨rfl,(),hk,?_⟩;exact (FLe.cv [] zu zd)
  rintro _ hK;have hbad:(List.range l.length).any (Yl l i)=true→R=22:=fun h=>hbadI (by unfold zdo;rw [h,Bool.or_true]);refine za ?_;refine FW.loop (fun j:Nat=>⟨[(0,.list 8 (l.map OpV.fv)),(3,.int .i64 i),(4,.int .i64 j)],[]⟩) (fun j=>j≤l.length∧(List.range j).any (Yl l i)=false) (fun j=>l.length - j) 0 ⟨Nat.zero_le _,rfl⟩ ?_ ?_
  ·show FLe _ ⟨[(0,.list 8 (l.map OpV.fv)),(3,.int .i64 i),(4,.int .i64 0)],[]⟩;exact (FLe.cv [] zu zd)
  rintro j ⟨hj,hanj⟩;have hsu:=zdl hanj;refine za ?_;refine FW.cond rfl (fun hc2=>?_) (fun hc2=>?_)
  ·have hj2:j<l.length:=by simpa using hc2
   refine yf ?_;refine yK (fun g1=>?_) (fun g1=>?_)
   ·have hb:Yl l i j=false:=by unfold Yl;rw [g1];rfl
    rw [hb] at hsu;refine zw ?_;refine ⟨by kernel_rfl,?_⟩;refine za ?_;refine ⟨j+1,⟨by omega,hsu⟩,by omega,?_⟩;exact (FLe.cv [] zu zd)
   refine zw ?_;refine ⟨by kernel_rfl,?_⟩;refine FW.cond rfl (fun g2=>?_) (fun g2=>?_)
   ·have g2:decide ((nth l j).key≠(nth l i).key)=true:=g2;have hb:Yl l i j=false:=by unfold Yl;rw [g1,g2];rfl
    rw [hb] at hsu;refine za ?_;refine ⟨j+1,⟨by omega,hsu⟩,by omega,?_⟩;exact (FLe.cv [] zu zd)
   have g2:decide ((nth l j).key≠(nth l i).key)=false:=g2
   (repeat (first|refine FW.seq ?_|refine FW.skip ?_|refine FW.drawQ zA ?_|refine Zh rfl rfl rfl ?_|refine zgn rfl rfl rfl rfl ?_))
   refine yK (fun h1=>?_) (fun h1=>?_)
   ·refine zw ?_;refine yK (fun h2=>?_) (fun h2=>?_)
    ·refine zw ?_;refine yK (fun h3=>?_) (fun h3=>?_)
     ·skip;have hb:Yl l i j=true:=by unfold Yl zcz;rw [g1,g2,h1,h2,h3];rfl
      have:R=22:=hbad (List.any_eq_true.2 ⟨j,List.mem_range.2 hj2,hb⟩);subst this;refine zw ?_;refine ⟨by kernel_rfl,?_⟩;refine za ?_;exact FW.ret ⟨.inl rfl,zm rfl rfl rfl rfl⟩
     ·skip;refine zw ?_;refine yK (fun c1=>?_) (fun c1=>?_)
      ·refine zw ?_;refine yK (fun c2=>?_) (fun c2=>?_)
       ·refine zw ?_;refine ⟨by kernel_rfl,?_⟩;refine FW.cond rfl (fun c3=>?_) (fun c3=>?_)
        ·skip;have c3:decide ((nth l j).arg=(nth l i).res)=true:=c3;have hb:Yl l i j=true:=by unfold Yl zcz;rw [g1,g2,h1,h2,h3,c1,c2,c3];rfl
         have:R=22:=hbad (List.any_eq_true.2 ⟨j,List.mem_range.2 hj2,hb⟩);subst this;refine za ?_;exact FW.ret ⟨.inl rfl,zm rfl rfl rfl rfl⟩
        ·skip;have c3:decide ((nth l j).arg=(nth l i).res)=false:=c3;have hb:Yl l i j=false:=by unfold Yl zcz;rw [g1,g2,h1,h2,h3,c1,c2,c3];rfl
         rw [hb] at hsu;refine za ?_;refine ⟨j+1,⟨by omega,hsu⟩,by omega,?_⟩;exact (FLe.cv [] zu zd)
       ·skip;have hb:Yl l i j=false:=by unfold Yl zcz;rw [g1,g2,h1,h2,h3,c1,c2];rfl
        rw [hb] at hsu;refine zw ?_;refine ⟨by kernel_rfl,?_⟩;refine za ?_;refine ⟨j+1,⟨by omega,hsu⟩,by omega,?_⟩;exact (FLe.cv [] zu zd)
      ·skip;have hb:Yl l i j=false:=by unfold Yl zcz;rw [g1,g2,h1,h2,h3,c1];rfl
       rw [hb] at hsu;refine zw ?_;refine ⟨by kernel_rfl,?_⟩;refine za ?_;refine ⟨j+1,⟨by omega,hsu⟩,by omega,?_⟩;exact (FLe.cv [] zu zd)
    ·skip;refine zw ?_;refine yK (fun c1=>?_) (fun c1=>?_)
     ·refine zw ?_;refine yK (fun c2=>?_) (fun c2=>?_)
      ·refine zw ?_;refine ⟨by kernel_rfl,?_⟩;refine FW.cond rfl (fun c3=>?_) (fun c3=>?_)
       ·skip;have c3:decide ((nth l j).arg=(nth l i).res)=true:=c3;have hb:Yl l i j=true:=by unfold Yl zcz;rw [g1,g2,h1,h2,c1,c2,c3];rfl
        have:R=22:=hbad (List.any_eq_true.2 ⟨j,List.mem_range.2 hj2,hb⟩);subst this;refine za ?_;exact FW.ret ⟨.inl rfl,zm rfl rfl rfl rfl⟩
       ·skip;have c3:decide ((nth l j).arg=(nth l i).res)=false:=c3;have hb:Yl l i j=false:=by unfold Yl zcz;rw [g1,g2,h1,h2,c1,c2,c3];rfl
        rw [hb] at hsu;refine za ?_;refine ⟨j+1,⟨by omega,hsu⟩,by omega,?_⟩;exact (FLe.cv [] zu zd)
      ·skip;have hb:Yl l i j=false:=by unfold Yl zcz;rw [g1,g2,h1,h2,c1,c2];rfl
       rw [hb] at hsu;refine zw ?_;refine ⟨by kernel_rfl,?_⟩;refine za ?_;refine ⟨j+1,⟨by omega,hsu⟩,by omega,?_⟩;exact (FLe.cv [] zu zd)
     ·skip;have hb:Yl l i j=false:=by unfold Yl zcz;rw [g1,g2,h1,h2,c1];rfl
      rw [hb] at hsu;refine zw ?_;refine ⟨by kernel_rfl,?_⟩;refine za ?_;refine ⟨j+1,⟨by omega,hsu⟩,by omega,?_⟩;exact (FLe.cv [] zu zd)
   ·skip;refine zw ?_;refine yK (fun c1=>?_) (fun c1=>?_)
    ·refine zw ?_;refine yK (fun c2=>?_) (fun c2=>?_)
     ·refine zw ?_;refine ⟨by kernel_rfl,?_⟩;refine FW.cond rfl (fun c3=>?_) (fun c3=>?_)
      ·skip;have c3:decide ((nth l j).arg=(nth l i).res)=true:=c3;have hb:Yl l i j=true:=by unfold Yl zcz;rw [g1,g2,h1,c1,c2,c3];rfl
       have:R=22:=hbad (List.any_eq_true.2 ⟨j,List.mem_range.2 hj2,hb⟩);subst this;refine za ?_;exact FW.ret ⟨.inl rfl,zm rfl rfl rfl rfl⟩
      ·skip;have c3:decide ((nth l j).arg=(nth l i).res)=false:=c3;have hb:Yl l i j=false:=by unfold Yl zcz;rw [g1,g2,h1,c1,c2,c3];rfl
       rw [hb] at hsu;refine za ?_;refine ⟨j+1,⟨by omega,hsu⟩,by omega,?_⟩;exact (FLe.cv [] zu zd)
     ·skip;have hb:Yl l i j=false:=by unfold Yl zcz;rw [g1,g2,h1,c1,c2];rfl
      rw [hb] at hsu;refine zw ?_;refine ⟨by kernel_rfl,?_⟩;refine za ?_;refine ⟨j+1,⟨by omega,hsu⟩,by omega,?_⟩;exact (FLe.cv [] zu zd)
    ·skip;have hb:Yl l i j=false:=by unfold Yl zcz;rw [g1,g2,h1,c1];rfl
     rw [hb] at hsu;refine zw ?_;refine ⟨by kernel_rfl,?_⟩;refine za ?_;refine ⟨j+1,⟨by omega,hsu⟩,by omega,?_⟩;exact (FLe.cv [] zu zd)
  ·obtain rfl:j=l.length:=by simp at hc2;omega
   have hI:zdo l i=false:=by unfold zdo;rw [hK,hanj];rfl
   rw [hI] at hsi;refine za ?_;refine ⟨i+1,⟨by omega,hsi⟩,by omega,?_⟩;exact (FLe.cv [] zu zd)
 ·obtain rfl:i=l.length:=by simp at hc;omega
  have:R=0:=hgd hany;subst this;refine za ?_;exact FW.ret ⟨.inl rfl,zm rfl rfl rfl rfl⟩
theorem zfo (l:List OpV) (key v:Int) (i:Nat) (h:i<l.length):ZJ (l.take (i+1)) key v=(ZJ (l.take i) key v || (decide ((nth l i).k=2) && decide ((nth l i).key=key) && decide ((nth l i).arg=v))):=by
 unfold ZJ;rw [List.take_succ_eq_append_getElem h,List.any_append,nth_eq h];simp
theorem zhN (l:List OpV) (key v:Int) (i:Nat) (h:i<l.length) (hm:(decide ((nth l i).k=2) && decide ((nth l i).key=key) && decide ((nth l i).arg=v))=true):ZJ l key v=true:=by
 unfold ZJ;rw [List.any_eq_true];exact ⟨_,zL h,hm⟩
theorem zco (l:List OpV) (key v:Int) (hl:l.length≤1000000):zY Try.prog 21 [.list 8 (l.map OpV.fv),.int .i64 key,.int .i64 v] .fr (.bool (ZJ l key v || decide (v=0))):=by
 refine zY.of_body (c:=(xa Try.prog zD zq 40)) ⟨Try.func21,rfl,Try.ntmps21,by kernel_rfl⟩ zC zp rfl ?_;change FW _ _ _ ⟨[(0,.list 8 (l.map OpV.fv)),(1,.int .i64 key),(2,.int .i64 v)],[]⟩;refine za ?_;refine FW.loop (fun i:Nat=>⟨[(0,.list 8 (l.map OpV.fv)),(1,.int .i64 key),(2,.int .i64 v),(7,.int .i64 i)],[]⟩) (fun i=>i≤l.length∧ZJ (l.take i) key v=false) (fun i=>l.length - i) 0 ⟨Nat.zero_le _,rfl⟩ (FLe.cv [] zu zd) ?_;rintro i ⟨hi,hno⟩;refine za ?_;refine FW.cond rfl (fun h=>?_) (fun h=>?_)
 ·have hlt:i<l.length:=by simpa using h
  clear h;have hs:=zfo l key v i hlt;have hof:=zhN l key v i hlt;rw [hno,Bool.false_or] at hs;obtain ⟨o,ho⟩:∃ o,nth l i=o:=⟨_,rfl⟩
  rw [ho] at hs hof;refine za ?_;rw [ho];skip;refine zJ (fun h1=>?_) (fun h1=>?_)
  ·rw [h1,Bool.true_and] at hs hof;refine za ?_;rw [ho];skip;refine zJ (fun h2=>?_) (fun h2=>?_)
   ·rw [h2,Bool.true_and] at hs hof;refine za ?_;rw [ho];skip;refine FW.cond rfl (fun h3=>?_) (fun h3=>?_)
    ·rw [hof h3,Bool.true_or];refine za ?_;exact FW.ret ⟨.inl rfl,zm rfl rfl rfl rfl⟩
    ·rw [h3] at hs;refine za ?_;exact ⟨i+1,⟨by omega,hs⟩,by omega,(FLe.cv [] zu zd)⟩
   ·rw [h2,Bool.false_and] at hs;refine za ?_;exact ⟨i+1,⟨by omega,hs⟩,by omega,(FLe.cv [] zu zd)⟩
  ·rw [h1,Bool.false_and,Bool.false_and] at hs;refine za ?_;exact ⟨i+1,⟨by omega,hs⟩,by omega,(FLe.cv [] zu zd)⟩
 ·have hie:i=l.length:=by simp at h;omega
  rw [hie,List.take_length] at hno;rw [hno,Bool.false_or];refine za ?_;exact FW.ret ⟨.inl rfl,zm rfl rfl rfl rfl⟩
theorem zdg (V:zcp) (h1:V.ord.length≤1000000) (h2:V.ed.length≤1000000):zY Try.prog 8 [.agg V.fv,.agg V.fv] .fr (.bool true):=by
 have hs1:=Xv V.ord V.ord zb zb;have hs2:=Ux V.ed V.ed zb zb;rw [decide_eq_true rfl] at hs1 hs2;unfold zcp.fv;refine zY.of_body (c:=(xa Try.prog zD zq 41)) ⟨Try.func8,rfl,Try.ntmps8,by kernel_rfl⟩ zC zp rfl ?_;change FW _ _ _ ⟨[(0,.agg [.int .i64 V.check,.int .i64 V.cls,.int .i64 V.arg,.list 1 (V.ord.map zj),.list 3 (V.ed.map EdV.fv)]),(1,.agg [.int .i64 V.check,.int .i64 V.cls,.int .i64 V.arg,.list 1 (V.ord.map zj),.list 3 (V.ed.map EdV.fv)])],[]⟩;refine za ?_;refine zJ (fun h=>absurd rfl (of_decide_eq_true h)) (fun h=>?_);refine za ?_;refine zJ (fun h=>absurd rfl (of_decide_eq_true h)) (fun h=>?_);refine za ?_;refine zJ (fun h=>absurd rfl (of_decide_eq_true h)) (fun h=>?_);refine za ?_;refine zV hs1 (by repeat (first|exact zx.nil|refine zx.cons zt ?_)) rfl ⟨_,_,rfl,rfl,rfl⟩ ?_;refine za ?_;refine zV hs2 (by repeat (first|exact zx.nil|refine zx.cons zt ?_)) rfl rfl ?_;refine za ?_;exact FW.ret ⟨.inl rfl,zm rfl rfl rfl rfl⟩
theorem zbh {n:Nat} {E:List (Nat×Nat)} (h:InN n E):(yO E n).length≤n:=by
 rw [← Yp h];exact Xa h (Nat.le_refl n)
theorem zaF (l:List OpV) (s:Bool) (hl:l.length≤12) (hin:∀ o∈l,zgU o):zY Try.prog 7 [.list 8 (l.map OpV.fv),.bool s] .sh (.tup [.agg (Wz l s).fv,.int .i64 (zaJ l)]):=by
 refine zY.le ?_ (zhX l s) rfl;have hD:=zbS l zb;obtain ⟨R,hR⟩:∃ R,Wz l s=R:=⟨_,rfl⟩
 obtain ⟨E,hE⟩:∃ E,zaJ l=E:=⟨_,rfl⟩
 rw [hR,hE];rw [hE] at hD;refine zY.of_body (c:=(xa Try.prog zD zq 178)) ⟨Try.func7,rfl,Try.ntmps7,by kernel_rfl⟩ zC zp rfl ?_;change FW _ _ _ ⟨[(0,.list 8 (l.map OpV.fv)),(1,.bool s)],[]⟩;refine za ?_;refine zV hD (by repeat (first|exact zx.nil|refine zx.cons zt ?_)) rfl rfl ?_;cases hd:xB l with
 | false =>
  have hRf:R=⟨0,0,0,[],[]⟩:=by rw [← hR];unfold Wz;rw [if_neg (by rw [hd];decide)]
  have hEf:E=22:=by rw [← hE];unfold zaJ;rw [if_neg (by rw [hd];decide)]
  subst hRf;subst hEf;refine za ?_;refine FW.ret ⟨.inl rfl,.sh (.cons (xt rfl rfl rfl rfl rfl rfl zg) (.cons (.tmp 5 rfl rfl) .nil)) ?_ rfl⟩;simp [zcp.raw,zaK];rfl
 | true=>
  have hEf:E=0:=by rw [← hE];unfold zaJ;rw [if_pos hd]
  subst hEf;have hRf:zcj l s=R:=by rw [← hR];unfold Wz;rw [if_pos hd]
  obtain ⟨n,hn⟩:∃ n,l.length=n:=⟨_,rfl⟩
  have hstep:=fun i (hi:i<l.length)=>Ua (l:=l) hi;rw [hn] at hl hstep;refine za ?_;refine FW.join (fun _:Unit=>⟨[(0,.list 8 (l.map OpV.fv)),(1,.bool s),(4,.ptr 102 0 0 0),(7,.ptr 103 0 0 0)],[(102,⟨0,.own,32,5,[[.int .i64 0,.int .i64 0,.int .i64 0,.nil,.nil]]⟩),(103,⟨0,.own,32,5,[[.int .i64 (cOf s),.int .i64 0,.int .i64 0,.nil,.nil]]⟩)]⟩) (fun _=>True) ?_ ?_
  ·refine FW.cond rfl (fun h=>?_) (fun h=>?_)
   ·subst h;refine za ?_;exact ⟨rfl,(),trivial,(FLe.cv [⟨102,some 4,0+1,⟨0,.own,32,5,[[.int .i64 0,.int .i64 0,.int .i64 0,.nil,.nil]]⟩⟩,⟨103,some 7,0+1,⟨0,.own,32,5,[[.int .i64 (cOf true),.int .i64 0,.int .i64 0,.nil,.nil]]⟩⟩] zf zd)⟩
   ·subst h;refine za ?_;exact ⟨rfl,(),trivial,(FLe.cv [⟨102,some 4,0+1,⟨0,.own,32,5,[[.int .i64 0,.int .i64 0,.int .i64 0,.nil,.nil]]⟩⟩,⟨103,some 7,0+1,⟨0,.own,32,5,[[.int .i64 (cOf false),.int .i64 0,.int .i64 0,.nil,.nil]]⟩⟩] zf zd)⟩
  intro _ _;refine za ?_;refine FW.loop (fun i:Nat=>⟨[(0,.list 8 (l.map OpV.fv)),(1,.bool s),(4,.ptr 102 0 0 0),(7,.ptr 103 0 0 0),(8,.int .i64 i)],[(102,⟨0,.own,32,5,[[.int .i64 0,.int .i64 0,.int .i64 0,.nil,.nil]]⟩),(103,⟨0,.own,32,5,[[.int .i64 (cOf s),.int .i64 0,.int .i64 0,.nil,.nil]]⟩)]⟩) (fun i=>i≤n∧ZM (XZ l) (n - i) i=Zb l) (fun i=>n - i) 0 ⟨Nat.zero_le _,by unfold Zb;rw [hn];rfl⟩ ?_ ?_
  ·exact (FLe.cv [⟨102,some 102,0,⟨0,.own,32,5,[[.int .i64 0,.int .i64 0,.int .i64 0,.nil,.nil]]⟩⟩,⟨103,some 103,0,⟨0,.own,32,5,[[.int .i64 (cOf s),.int .i64 0,.int .i64 0,.nil,.nil]]⟩⟩] zf zd)
  rintro i ⟨hi,hth⟩;refine za ?_;rw [hn];refine FW.cond rfl (fun hc=>?_) (fun hc=>?_)
  ·have hlt:i<n:=by simpa using hc
   clear hc;have hlt2:i<l.length:=by omega
   rw [hstep i hlt] at hth;obtain ⟨o,hoo⟩:∃ o,nth l i=o:=⟨_,rfl⟩
   have hIn:=Yv o;have hWr:=zco l o.key o.res zb;have htb:XZ l i=(zS o && !(ZJ l o.key o.res || decide (o.res=0))):=by
    unfold XZ;rw [hoo];by_cases h0:o.res=0 <;> simp [h0]
   generalize zS o=b1 at hIn htb;generalize (ZJ l o.key o.res || decide (o.res=0))=b2 at hWr htb;refine yf ?_;rw [hoo];refine XQ hIn (by repeat (first|exact zx.nil|refine zx.cons zt ?_)) rfl rfl ?_;refine zw ?_;refine yK (fun h1=>?_) (fun h1=>?_)
   ·rw [h1,Bool.true_and] at htb;refine zw ?_;rw [hoo];skip;refine XQ hWr (by repeat (first|exact zx.nil|refine zx.cons zt ?_)) rfl ⟨_,_,rfl,rfl,rfl⟩ ?_;refine zw ?_;refine ⟨by kernel_rfl,?_⟩;refine FW.cond rfl (fun h2=>?_) (fun h2=>?_)
    ·rw [show b2=false by simpa using h2] at htb;rw [htb,if_pos zg] at hth;have hRR:R=⟨cOf s,2,o.key,[(i:Int)],[]⟩:=by rw [← hRf];unfold zcj;rw [← hth];dsimp only;rw [hoo]
     subst hRR;refine za ?_;refine zi.le ?_ (FLe.share 62 rfl rfl rfl);refine za ?_;rw [hoo];refine FW.ret ⟨.inl rfl,.sh (.cons (xt rfl rfl rfl rfl rfl rfl zg) (.cons (.tmp 5 rfl rfl) .nil)) ?_ rfl⟩;rw [zjx];rfl
    ·rw [show b2=true by simpa using h2] at htb;rw [htb,if_neg zg] at hth;refine za ?_;exact ⟨i+1,⟨by omega,hth⟩,by omega,(FLe.cv [⟨102,some 102,0,⟨0,.own,32,5,[[.int .i64 0,.int .i64 0,.int .i64 0,.nil,.nil]]⟩⟩,⟨103,some 103,0,⟨0,.own,32,5,[[.int .i64 (cOf s),.int .i64 0,.int .i64 0,.nil,.nil]]⟩⟩] zf zd)⟩
   ·rw [h1,Bool.false_and] at htb;rw [htb,if_neg zg] at hth;refine zw ?_;refine ⟨by kernel_rfl,?_⟩;refine za ?_;exact ⟨i+1,⟨by omega,hth⟩,by omega,(FLe.cv [⟨102,some 102,0,⟨0,.own,32,5,[[.int .i64 0,.int .i64 0,.int .i64 0,.nil,.nil]]⟩⟩,⟨103,some 103,0,⟨0,.own,32,5,[[.int .i64 (cOf s),.int .i64 0,.int .i64 0,.nil,.nil]]⟩⟩] zf zd)⟩
  ·have hie:i=n:=by simp at hc;omega
   clear hc hstep;rw [hie,Nat.sub_self] at hth;have hth:Zb l=none:=hth.symm;have hEd:=zaG l s zb;obtain ⟨ed,hed⟩:∃ ed,yb l s=ed:=⟨_,rfl⟩
   have hedl:(yb l s).length≤576:=by
    have h1:=Yr l s l.length;have h2:=Nat.mul_le_mul (Nat.mul_le_mul (Nat.le_refl 4) (show l.length≤12 by omega)) (show l.length≤12 by omega);exact Nat.le_trans h1 zb
   have hpin:=zbQ l s;rw [hed] at hEd hedl hpin;refine za ?_;refine xn hEd (by repeat (first|exact zx.nil|refine zx.cons zt ?_)) (List.length_map _) rfl rfl rfl ?_;refine zi.le ?_ (FLe.share 68 rfl rfl (by rw [List.length_map]));refine za ?_;refine FW.loop (fun j:Nat=>⟨[(0,.list 8 (l.map OpV.fv)),(1,.bool s),(4,.ptr 102 0 0 0),(7,.ptr 103 0 0 0),(9,.own 104 0 0 j),(10,.list 3 (ed.map EdV.fv)),(11,.int .i64 j)],[(102,⟨0,.own,32,5,[[.int .i64 0,.int .i64 0,.int .i64 0,.nil,.nil]]⟩),(103,⟨0,.own,32,5,[[.int .i64 (cOf s),.int .i64 0,.int .i64 0,.nil,.nil]]⟩),(104,⟨0,.own,56,2,(prs (ed.take j)).map edf⟩)]⟩) (fun j=>j≤ed.length) (fun j=>ed.length - j) 0 (Nat.zero_le _) ?_ ?_
   ·show FLe _ ⟨[(0,.list 8 (l.map OpV.fv)),(1,.bool s),(4,.ptr 102 0 0 0),(7,.ptr 103 0 0 0),(9,.own 104 0 0 0),(10,.list 3 (ed.map EdV.fv)),(11,.int .i64 0)],[(102,⟨0,.own,32,5,[[.int .i64 0,.int .i64 0,.int .i64 0,.nil,.nil]]⟩),(103,⟨0,.own,32,5,[[.int .i64 (cOf s),.int .i64 0,.int .i64 0,.nil,.nil]]⟩),(104,⟨0,.own,56,2,[]⟩)]⟩;exact (FLe.cv [⟨102,some 102,0,⟨0,.own,32,5,[[.int .i64 0,.int .i64 0,.int .i64 0,.nil,.nil]]⟩⟩,⟨103,some 103,0,⟨0,.own,32,5,[[.int .i64 (cOf s),.int .i64 0,.int .i64 0,.nil,.nil]]⟩⟩,⟨104,none,0,⟨0,.own,56,2,[]⟩⟩] zf zd)
   intro j hj;have hps:∀ h:j<ed.length,prs (ed.take (j+1))=prs (ed.take j)++[((nth ed j).1,(nth ed j).2.1)]:=fun h=>by
    unfold prs;rw [List.take_succ_eq_append_getElem h,List.map_append,nth_eq h];rfl
   have hpl:(prs (ed.take j)).length=j:=by unfold prs;rw [List.length_map,List.length_take];omega
   have hpe:j=ed.length→prs ed=prs (ed.take j):=fun e=>by rw [e,List.take_length]
   generalize prs (ed.take j)=PP at hps hpl hpe ⊢;refine za ?_;refine FW.cond rfl (fun hc=>?_) (fun hc=>?_)
   ·have hlt:j<ed.length:=by simpa using hc
    clear hc hpe;have hps:=hps hlt;obtain ⟨⟨x,y,z⟩,he⟩:∃ e,nth ed j=e:=⟨_,rfl⟩
    rw [he] at hps;dsimp only at hps;refine yf ?_;rw [he];refine ⟨by kernel_rfl,?_⟩;refine za ?_;refine ⟨j+1,by omega,by omega,?_⟩;rw [hps,List.map_append];exact (FLe.cv [⟨102,some 102,0,⟨0,.own,32,5,[[.int .i64 0,.int .i64 0,.int .i64 0,.nil,.nil]]⟩⟩,⟨103,some 103,0,⟨0,.own,32,5,[[.int .i64 (cOf s),.int .i64 0,.int .i64 0,.nil,.nil]]⟩⟩,⟨104,some 88,0+1,⟨0,.own,56,2,PP.map edf++[(x,y)].map edf⟩⟩] zf zd)
   have hje:j=ed.length:=by simp at hc;omega
   rw [← hpe hje];refine FW.le ?_ (FLe.share 9 rfl rfl (by rw [List.length_map,hpe hje];exact hpl.symm));clear hc hps hpl hpe PP;have hTo:=zeL n (prs ed) zb (by unfold prs;rw [List.length_map];omega);have hCy:=zc3 n (prs ed) zb (by unfold prs;rw [List.length_map];omega);have hcy:ym l s=yO (prs ed) n:=by unfold ym;rw [hed,hn]
   rw [hn] at hpin;refine za ?_;rw [hn];by_cases h0:ym l s=[]
   ·have hRR:R=⟨cOf s,0,0,Xm l s,[]⟩:=by rw [← hRf];unfold zcj;rw [hth];dsimp only;rw [if_pos h0]
    have ⟨ht1,ht2⟩:=ZD hpin (by rw [← hcy];exact h0);rw [ht1] at hTo;unfold zjd at hTo;dsimp only at hTo;have hor:Xm l s=(yq n (prs ed)).filter fun x=>zS (nth l x.toNat):=by unfold Xm;rw [hed,hn]
    generalize yq n (prs ed)=TT at hTo ht2 hor;refine yg hTo (by repeat (first|exact zx.nil|refine zx.cons zt ?_)) rfl rfl ?_;refine za ?_;refine FW.le ?_ (FLe.toH (i:=103) rfl);refine FW.loop (fun i:Nat=>⟨[(0,.list 8 (l.map OpV.fv)),(1,.bool s),(4,.ptr 102 0 0 0),(7,.ptr 103 0 0 0),(12,.list 1 (TT.map zj)),(18,.int .i64 i)],[(102,⟨0,.own,32,5,[[.int .i64 0,.int .i64 0,.int .i64 0,.nil,.nil]]⟩),(103,⟨0,.hrow,32,5,[[.int .i64 (cOf s),.int .i64 0,.int .i64 0,.own 105 0 0 ((TT.take i).filter fun x=>zS (nth l x.toNat)).length,.nil]]⟩),(105,⟨0,.own,3,1,((TT.take i).filter fun x=>zS (nth l x.toNat)).map zj⟩)]⟩) (fun i=>i≤TT.length) (fun i=>TT.length - i) 0 (Nat.zero_le _) ?_ ?_
    ·show FLe _ ⟨[(0,.list 8 (l.map OpV.fv)),(1,.bool s),(4,.ptr 102 0 0 0),(7,.ptr 103 0 0 0),(12,.list 1 (TT.map zj)),(18,.int .i64 0)],[(102,⟨0,.own,32,5,[[.int .i64 0,.int .i64 0,.int .i64 0,.nil,.nil]]⟩),(103,⟨0,.hrow,32,5,[[.int .i64 (cOf s),.int .i64 0,.int .i64 0,.own 105 0 0 0,.nil]]⟩),(105,⟨0,.own,3,1,[]⟩)]⟩;exact (FLe.cv [⟨102,some 102,0,⟨0,.own,32,5,[[.int .i64 0,.int .i64 0,.int .i64 0,.nil,.nil]]⟩⟩,⟨103,some 103,0,⟨0,.hrow,32,5,[[.int .i64 (cOf s),.int .i64 0,.int .i64 0,.own 105 0 0 0,.nil]]⟩⟩,⟨105,none,0,⟨0,.own,3,1,[]⟩⟩] zf zd)
    intro q hq;have hfs:∀ h:q<TT.length,(TT.take (q+1)).filter (fun x=>zS (nth l x.toNat))=(TT.take q).filter (fun x=>zS (nth l x.toNat))++if zS (nth l (nth TT q).toNat)=true then [nth TT q] else []:=fun h=>by
     rw [List.take_succ_eq_append_getElem h,List.filter_append,nth_eq h];congr 1;by_cases hb:zS (nth l (TT[q]).toNat)=true
     ·rw [if_pos hb,List.filter_cons_of_pos (by exact hb)];rfl
     ·rw [if_neg hb,List.filter_cons_of_neg (by exact hb)];rfl
    have hfl:((TT.take q).filter fun x=>zS (nth l x.toNat)).length≤q:=Nat.le_trans (List.length_filter_le _ _) (by rw [List.length_take];omega);have hfe:q=TT.length→Xm l s=(TT.take q).filter fun x=>zS (nth l x.toNat):=fun e=>by rw [hor,e,List.take_length]
    have htl:=ht2.len;generalize (TT.take q).filter (fun x=>zS (nth l x.toNat))=FF at hfs hfl hfe ⊢;refine za ?_;refine FW.cond rfl (fun hc=>?_) (fun hc=>?_)
    ·have hlt:q<TT.length:=by simpa using hc
     clear hc hfe;have hfs:=hfs hlt;have hrg:=ht2.rng _ (zL hlt);obtain ⟨u,hu⟩:∃ u:Nat,nth TT q=u:=⟨(nth TT q).toNat,by omega⟩
     rw [hu] at hrg;rw [hu,Int.toNat_natCast] at hfs;have hIn:=Yv (nth l u);refine za ?_;rw [hu];skip;refine zV hIn (by repeat (first|exact zx.nil|refine zx.cons zt ?_)) rfl rfl ?_;refine za ?_;refine FW.cond rfl (fun hb=>?_) (fun hb=>?_)
     ·rw [if_pos hb] at hfs;refine yf ?_;refine zbX rfl rfl rfl rfl rfl rfl rfl ?_;refine zw ?_;rw [hu];skip;refine Yw (d:=0) rfl rfl ⟨_,_,_,rfl⟩ (zN rfl zg) (fun i v n e=>by injection e with e1 e2 e3 e4;subst e1;subst e2;exact zN rfl zg) rfl rfl rfl rfl (by show 3<5;decide) rfl rfl ?_;refine zK.nil ⟨by kernel_rfl,?_⟩;refine za ?_;refine ⟨q+1,by omega,by omega,?_⟩;rw [hfs,show (FF++[(u:Int)]).length=FF.length+1 by simp,List.map_append];exact (FLe.cv [⟨102,some 102,0,⟨0,.own,32,5,[[.int .i64 0,.int .i64 0,.int .i64 0,.nil,.nil]]⟩⟩,⟨103,some 103,0,⟨0,.hrow,32,5,[[.int .i64 (cOf s),.int .i64 0,.int .i64 0,.own 105 0 0 (FF.length+1),.nil]]⟩⟩,⟨105,some 174,0+1,⟨0,.own,3,1,FF.map zj++[(u:Int)].map zj⟩⟩] zf zd)
     ·rw [if_neg (by rw [hb];decide),List.append_nil] at hfs;refine za ?_;refine ⟨q+1,by omega,by omega,?_⟩;rw [hfs];exact (FLe.cv [⟨102,some 102,0,⟨0,.own,32,5,[[.int .i64 0,.int .i64 0,.int .i64 0,.nil,.nil]]⟩⟩,⟨103,some 103,0,⟨0,.hrow,32,5,[[.int .i64 (cOf s),.int .i64 0,.int .i64 0,.own 105 0 0 FF.length,.nil]]⟩⟩,⟨105,some 105,0,⟨0,.own,3,1,FF.map zj⟩⟩] zf zd)
    ·have hqe:q=TT.length:=by simp at hc;omega
     rw [hfe hqe] at hRR;subst hRR;refine FW.le ?_ (FLe.deep1C (q:=5) (r:=[.int .i64 (cOf s),.int .i64 0,.int .i64 0,.own 105 0 0 FF.length,.nil]) (r2:=[.int .i64 (cOf s),.int .i64 0,.int .i64 0,.list 1 (FF.map zj),.nil]) (es:=FF.map zj) 103 105 3 zg rfl rfl (by rw [List.length_map];rfl) rfl rfl rfl);refine za ?_;refine FW.ret ⟨.inl rfl,.sh (.cons (xt rfl rfl rfl rfl rfl rfl zg) (.cons (.tmp 5 rfl rfl) .nil)) ?_ rfl⟩;rw [zjw];rfl
   ·have hRR:R=⟨cOf s,5,(nth l (nth (ym l s) 0).toNat).key,[],XC l s (ym l s) (ym l s).length⟩:=by rw [← hRf];unfold zcj;rw [hth];dsimp only;rw [if_neg h0]
    rw [ziQ hpin (by rw [← hcy];exact h0)] at hTo;unfold zjd at hTo;dsimp only at hTo;have hce:=zbg hpin (by rw [← hcy];exact h0);have hc0:∃ x0:Nat,nth (yO (prs ed) n) 0=x0∧x0<n:=by
     obtain ⟨x,y,hx,hy,hxy⟩:=hce 0 (List.length_pos_iff.2 (by rw [← hcy];exact h0));exact ⟨x,hx,(hpin _ hxy).1⟩
    rw [hcy] at hRR h0;have hcl:=zbh hpin;generalize yO (prs ed) n=c at hCy hRR h0 hce hcl hc0;have hcpos:=List.length_pos_iff.2 h0;refine yg hTo (by repeat (first|exact zx.nil|refine zx.cons zt ?_)) rfl rfl ?_;refine za ?_;rw [hn];refine yg hCy (by repeat (first|exact zx.nil|refine zx.cons zt ?_)) rfl rfl ?_;refine za ?_;refine FW.le ?_ (FLe.toH (i:=103) rfl);obtain ⟨ag,hag⟩:∃ ag:Nat→Int,ag 0=0∧∀ i,ag (i+1)=(nth l (nth c 0).toNat).key:=⟨fun i=>if i=0 then 0 else (nth l (nth c 0).toNat).key,rfl,fun i=>rfl⟩
    refine FW.loop (fun i:Nat=>⟨[(0,.list 8 (l.map OpV.fv)),(1,.bool s),(4,.ptr 102 0 0 0),(7,.ptr 103 0 0 0),(14,.list 1 (c.map zj)),(15,.int .i64 i)],[(102,⟨0,.own,32,5,[[.int .i64 0,.int .i64 0,.int .i64 0,.nil,.nil]]⟩),(103,⟨0,.hrow,32,5,[[.int .i64 (cOf s),.int .i64 5,.int .i64 (ag i),.nil,.own 105 0 0 (XC l s c i).length]]⟩),(105,⟨0,.own,28,3,(XC l s c i).map EdV.fv⟩)]⟩) (fun i=>i≤c.length) (fun i=>c.length - i) 0 (Nat.zero_le _) ?_ ?_
    ·rw [hag.1];show FLe _ ⟨[(0,.list 8 (l.map OpV.fv)),(1,.bool s),(4,.ptr 102 0 0 0),(7,.ptr 103 0 0 0),(14,.list 1 (c.map zj)),(15,.int .i64 0)],[(102,⟨0,.own,32,5,[[.int .i64 0,.int .i64 0,.int .i64 0,.nil,.nil]]⟩),(103,⟨0,.hrow,32,5,[[.int .i64 (cOf s),.int .i64 5,.int .i64 0,.nil,.own 105 0 0 0]]⟩),(105,⟨0,.own,28,3,[]⟩)]⟩;exact (FLe.cv [⟨102,some 102,0,⟨0,.own,32,5,[[.int .i64 0,.int .i64 0,.int .i64 0,.nil,.nil]]⟩⟩,⟨103,some 103,0,⟨0,.hrow,32,5,[[.int .i64 (cOf s),.int .i64 5,.int .i64 0,.nil,.own 105 0 0 0]]⟩⟩,⟨105,none,0,⟨0,.own,28,3,[]⟩⟩] zf zd)
    intro q hq;have hcs:XC l s c (q+1)=XC l s c q++[((nth c q).toNat,(nth c ((q+1) % c.length)).toNat,hd0 (xy l s (nth c q).toNat (nth c ((q+1) % c.length)).toNat))]:=by
     unfold XC;rw [List.range_succ,List.map_append];rfl
    have hcq:(XC l s c q).length=q:=by simp [XC]
    have hcA:q=c.length→XC l s c c.length=XC l s c q:=fun e=>by rw [e]
    have hce:=hce q;generalize XC l s c q=CC at hcs hcq hcA ⊢;refine za ?_;refine FW.cond rfl (fun hc=>?_) (fun hc=>?_)
    ·have hlt:q<c.length:=by simpa using hc
     clear hc hcA;obtain ⟨x,y,hx,hy,hxy⟩:=hce hlt;obtain ⟨hxn,hyn⟩:=hpin _ hxy;dsimp only at hxn hyn;obtain ⟨m,hm⟩:∃ m,(q+1) % c.length=m:=⟨_,rfl⟩
     have hml:m<c.length:=by rw [← hm];exact Nat.mod_lt _ hcpos
     rw [hm] at hy hcs;rw [hx,hy,Int.toNat_natCast,Int.toNat_natCast] at hcs;have hwy:=zbT l s x y zb zb zb;have hwl:=Ue l s x y;refine za ?_;rw [show (q+1) % ((c.length:Int)).natAbs=m by rw [Int.natAbs_natCast];exact hm];refine za ?_;rw [hy];skip;rw [hx];skip;generalize xy l s x y=W at hwy hwl hcs;have hW0:nth (W++[0]) 0=hd0 W:=by cases W <;> rfl
     have hWl:(W++[0]).length=W.length+1:=by simp
     refine xn hwy (by repeat (first|exact zx.nil|refine zx.cons zt ?_)) (List.length_map _) rfl rfl rfl ?_;refine za ?_;refine FW.le ?_ (FLe.share 17 rfl rfl zc);rw [show W.map zj++[[FV.int .i64 0]]=(W++[0]).map zj by rw [List.map_append];rfl];generalize W++[0]=W1 at hW0 hWl;generalize hd0 W=z at hW0 hcs;have hWp:0<W1.length:=by omega
     have hag1:=hag.2 q;obtain ⟨x0,hx0,hx0n⟩:=hc0;rw [hx0,Int.toNat_natCast] at hag1;refine yf ?_;refine zbX rfl rfl rfl rfl rfl rfl rfl ?_;refine zw ?_;rw [hx];skip;rw [hW0];skip;refine Yw (d:=0) rfl rfl ⟨_,_,_,rfl⟩ (zN rfl zg) (fun i v n e=>by injection e with e1 e2 e3 e4;subst e1;subst e2;exact zN rfl zg) rfl rfl rfl rfl (by show 4<5;decide) rfl rfl ?_;refine zK.nil ⟨by kernel_rfl,?_⟩;refine za ?_;rw [hx0];refine za ?_;refine UZ rfl rfl (.inl rfl) rfl rfl rfl rfl (by show 2<5;decide) rfl ?_;refine za ?_;refine ⟨q+1,by omega,by omega,?_⟩;rw [hcs,hag1,show (CC++[(x,y,z)]).length=CC.length+1 by simp,List.map_append];exact (FLe.cv [⟨102,some 102,0,⟨0,.own,32,5,[[.int .i64 0,.int .i64 0,.int .i64 0,.nil,.nil]]⟩⟩,⟨103,some 103,0,⟨0,.hrow,32,5,[[.int .i64 (cOf s),.int .i64 5,.int .i64 (nth l x0).key,.nil,.own 105 0 0 (CC.length+1)]]⟩⟩,⟨105,some 140,0+1,⟨0,.own,28,3,CC.map EdV.fv++[(x,y,z)].map EdV.fv⟩⟩] zf zd)
    ·have hqe:q=c.length:=by simp at hc;omega
     rw [hcA hqe] at hRR;obtain ⟨p,hp⟩:∃ p,c.length=p+1:=⟨c.length - 1,by omega⟩
     rw [hqe,hp,hag.2];subst hRR;refine FW.le ?_ (FLe.deep1C (q:=5) (r:=[.int .i64 (cOf s),.int .i64 5,.int .i64 (nth l (nth c 0).toNat).key,.nil,.own 105 0 0 CC.length]) (r2:=[.int .i64 (cOf s),.int .i64 5,.int .i64 (nth l (nth c 0).toNat).key,.nil,.list 3 (CC.map EdV.fv)]) (es:=CC.map EdV.fv) 103 105 4 zg rfl rfl (by rw [List.length_map];rfl) rfl rfl rfl);refine za ?_;refine FW.ret ⟨.inl rfl,.sh (.cons (xt rfl rfl rfl rfl rfl rfl zg) (.cons (.tmp 5 rfl rfl) .nil)) ?_ rfl⟩;rw [zjy];rfl
theorem zhv (l:List OpV) (s:Bool) (h:l.length≤12):(Wz l s).ord.length≤1000000∧(Wz l s).ed.length≤1000000:=by
 unfold Wz;split
 ·unfold zcj;cases Zb l with
  | some v => exact ⟨by dsimp only; simp, by dsimp only; simp⟩
  | none=>
   dsimp only;have hin:=zbQ l s;have he:ym l s=yO (prs (yb l s)) l.length:=rfl;by_cases h0:ym l s=[]
   ·rw [if_pos h0];rw [he] at h0;have h2:=(ZD hin h0).2.len;have h3:(Xm l s).length≤(yq l.length (prs (yb l s))).length:=List.length_filter_le _ _;exact ⟨by dsimp only;omega,by dsimp only;simp⟩
   ·rw [if_neg h0];have h2:(ym l s).length≤l.length:=by rw [he];exact zbh hin
    have h3:(XC l s (ym l s) (ym l s).length).length=(ym l s).length:=by simp [XC]
    exact ⟨by dsimp only;simp,by dsimp only;omega⟩
 ·exact ⟨by simp,by simp⟩
section
variable {N:Nat} {w0 w:World} {J:JJ} {s:FSt} {a:Act} {β:Nat→Option Nat}
end
section
variable {c:Ctx} {ops:Array Oper} {rest:List Oper} {t:List (Nat×FV)} {ob:List (Nat×zn)} {d:Nat} {ty:TypeId} {pos:String} {af:Array Edge} {gd:Option (Nat×Bool)} {QS:FSt→Prop}
end
section
variable {c:Ctx} {w0 w:World} {J:JJ} {s:FSt} {a:Act} {β:Nat→Option Nat} {dst:Option Nat} {ty:TypeId} {pos:String} {after:Array Edge} {g:Option (Nat×Bool)}
theorem FR.newHs (h:FR c.N w0 J s a w β) (d E:Nat) {fs:List FV} {us:List Value} (hlen:us.length=fs.length) (hv:∀ (j:Nat) u f,us[j]? = some u→fs[j]? = some f→VR w (Imm J w β s) β s u f) (hvv:∀ f∈fs,∀ id ver,(id,ver)∈f.hands→ver≤(s.ob id).ver) :
  FR c.N w0 J (s.set d ⟨(s.ob d).ver+1,.hrow,E,fs.length,[fs]⟩) a (w.alloc (.cells us.toArray E)) (Yg β d (some w.heap.size)):=by
 obtain ⟨s',hs'⟩:∃ s' : FSt,s'=s.set d ⟨(s.ob d).ver+1,.hrow,E,fs.length,[fs]⟩:=⟨_,rfl⟩
 have cd:s'.ob d=⟨(s.ob d).ver+1,.hrow,E,fs.length,[fs]⟩:=by rw [hs',FSt.ob_set,if_pos rfl]
 have co:∀ k,k≠d→s'.ob k=s.ob k:=fun k hk=>by rw [hs',FSt.ob_set,if_neg (fun e=>hk e.symm)]
 have bo:∀ k,k≠d→Yg β d (some w.heap.size) k=β k:=fun k hk=>by unfold Yg;rw [if_neg hk]
 have hst:∀ b,b<w.heap.size→(w.alloc (.cells us.toArray E)).heap[b]? = w.heap[b]?:=fun b hb=>(xI w (.cells us.toArray E)).block b hb;have hver:∀ k,(s.ob k).ver≤(s'.ob k).ver:=fun k=>by
  by_cases hk:k=d
  ·subst hk;rw [cd];exact Nat.le_succ _
  ·rw [co k hk];exact Nat.le_refl _
 rw [← hs'];refine h.step (C:=fun k=>k=d) h.size h.defers (h.bel.alloc h.bel.size _) (fun b hb=>⟨⟨?_,hb.2.1,fun id hid=>?_⟩,hst b hb.1⟩) (fun k=>.inl ⟨rfl,by rw [hs'];rfl⟩) (fun k hk=>⟨co k hk,bo k hk,fun hl b hb=>hst b ((h.obj k hl).lt hb).2⟩) (fun k _=>hver k) ?_ ?_ ?_ ?_
 ·exact Nat.lt_of_lt_of_le hb.1 (xI w (.cells us.toArray E)).size
 ·by_cases hk:id=d
  ·subst hk;rw [zW];intro e;injection e with e;have:=hb.1;omega
  ·rw [bo id hk];exact hb.2.2 id (by rw [← co id hk];exact hid)
 ·rintro k rfl hl hv;rw [cd] at hv;exact absurd hv (Nat.succ_ne_self _)
 ·rintro k rfl hl hT;rw [cd,zW];refine .ofH ⟨by simp,fun g hg id ver hm=>?_,.slice (some ⟨w.heap.size,0,none⟩) 1 1,us,⟨by rw [hlen];simp,.inr ⟨w.heap.size,1,us.toArray,rfl,h.bel.size,heap_alloc_new w _,Nat.le_refl _,by simp [maxLen],by simp [hlen],by simp [← hlen]⟩⟩,rfl,by simp [hlen],fun j u g hu hg=>?_⟩ rfl
  ·simp at hg;exact Nat.le_trans (hvv g hg id ver hm) (hver id)
  ·simp at hg;exact hT u g (hv j u g hu hg) (hvv g (List.mem_of_getElem? hg))
 ·intro id id' b h1 h2 e1 e2;by_cases hk:id=d
  ·by_cases hk' : id'=d
   ·rw [hk,hk']
   ·subst hk;rw [zW] at e1;rw [bo id' hk'] at e2;rw [co id' hk'] at h2;injection e1 with e1
    have:=((h.obj id' h2).lt e2).2;omega
  ·by_cases hk' : id'=d
   ·subst hk';rw [zW] at e2;rw [bo id hk] at e1;rw [co id hk] at h1;injection e2 with e2
    have:=((h.obj id h1).lt e1).2;omega
   ·rw [bo id hk] at e1;rw [bo id' hk'] at e2;rw [co id hk] at h1;rw [co id' hk'] at h2;exact h.inj id id' b h1 h2 e1 e2
 ·intro b hb hn;refine ⟨hst b hb,fun id hl=>?_⟩;by_cases hk:id=d
  ·subst hk;rw [zW];intro e;injection e with e;omega
  ·rw [bo id hk];exact hn id (by rw [← co id hk];exact hl)
end
section
variable {c:Ctx} {ops:Array Oper} {rest:List Oper} {t:List (Nat×FV)} {ob:List (Nat×zn)} {d:Nat} {ty:TypeId} {pos:String} {af:Array Edge} {gd:Option (Nat×Bool)} {QS:FSt→Prop}
end
end Go.Proofs.Ytlnehfplfoikaaa
