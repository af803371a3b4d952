/-
  Some texts as one: FmOnce, WfPlain, FmHas, FmWhere, FmBefI, SerPlain, FmFam, FmSucc, SortPlain.
-/
import Derived.Test.YtlnehfplfoikaaaZD
import Derived.Test.YtlnehfplfoikaaaZC
namespace Go.Proofs.Ytlnehfplfoikaaa
set_option linter.unusedVariables false
set_option maxHeartbeats 16000000
section
open Go.RowKit
theorem Xv (a b:List Int) (ha:a.length≤1000000000) (hb:b.length≤1000000000):zY Try.prog 26 [.list 1 (a.map zj),.list 1 (b.map zj)] .fr (.bool (decide (a=b))):=by
 refine zY.of_body (c:=(xa Try.prog zD zq 26)) ⟨Try.func26,rfl,Try.ntmps26,by kernel_rfl⟩ zC zp rfl ?_;change FW _ _ _ ⟨[(0,.list 1 (a.map zj)),(1,.list 1 (b.map zj))],[]⟩;refine za ?_;refine FW.cond rfl (fun h=>?_) (fun h=>?_)
 ·refine za ?_;refine FW.ret ⟨.inl rfl,zm rfl rfl ?_ rfl⟩;have:a≠b:=by rintro rfl;simp at h
  simp [this];rfl
 ·have hlen:a.length=b.length:=by simp at h;omega
  refine za ?_;refine FW.loop (fun k:Nat=>⟨[(0,.list 1 (a.map zj)),(1,.list 1 (b.map zj)),(5,.int .i64 k)],[]⟩) (fun k=>k≤a.length∧a.take k=b.take k) (fun k=>a.length - k) 0 zc (FLe.cv [] zu zd) ?_;rintro k ⟨hk,hab⟩;refine za ?_;refine FW.cond rfl (fun h=>?_) (fun h=>?_)
  ·have hlt:k<a.length:=by simpa using h
   clear h;refine yf ?_;refine ⟨by kernel_rfl,?_⟩;refine FW.cond rfl (fun h=>?_) (fun h=>?_)
   ·refine za ?_;refine FW.ret ⟨.inl rfl,zm rfl rfl ?_ rfl⟩;have:a≠b:=by rintro rfl;simp at h
    simp [this];rfl
   ·refine za ?_;refine ⟨k+1,⟨by omega,?_⟩,by omega,(FLe.cv [] zu zd)⟩;have h1:nth a k=nth b k:=by simpa using h
    rw [List.take_succ_eq_append_getElem hlt,List.take_succ_eq_append_getElem zb,hab,← nth_eq hlt,← nth_eq zb,h1]
  ·refine za ?_;refine FW.ret ⟨.inl rfl,zm rfl rfl ?_ rfl⟩;have:k=a.length:=by simp at h;omega
   subst this;have:a=b:=by rw [List.take_of_length_le (Nat.le_refl _),List.take_of_length_le zb] at hab;exact hab
   simp [this];rfl
def bef (l:List OpV) (i k:Nat):Bool:=(nth l i).done && decide ((nth l i).ret<(nth l k).call)
theorem Wm (l:List OpV) (i k:Nat) (hi:i<l.length) (hk:k<l.length):zY Try.prog 33 [.list 8 (l.map OpV.fv),.int .i64 i,.int .i64 k] .fr (.bool (bef l i k)):=by
 refine zY.of_body (c:=(xa Try.prog zD zq 37)) ⟨Try.func33,rfl,Try.ntmps33,by kernel_rfl⟩ zC zp rfl ?_;change FW _ _ _ ⟨[(0,.list 8 (l.map OpV.fv)),(1,.int .i64 i),(2,.int .i64 k)],[]⟩;refine za ?_;refine zJ (fun h=>?_) (fun h=>?_)
 ·exfalso;simp at h;omega
 ·refine za ?_;refine FW.cond rfl (fun h=>?_) (fun h=>?_)
  ·exfalso;simp at h;omega
  refine yf ?_;refine yK (fun h=>?_) (fun h=>?_)
  ·refine zw ?_;refine ⟨by kernel_rfl,?_⟩;skip;refine FW.ret ⟨.inl rfl,zm rfl rfl ?_ rfl⟩;simp [bef,h];rfl
  ·refine zw ?_;refine ⟨by kernel_rfl,?_⟩;skip;refine FW.ret ⟨.inl rfl,zm rfl rfl ?_ rfl⟩;simp [bef,h];rfl
end
def zju (a b:OpV):Prop:=a.call<b.call∧(a.done=true→a.ret≠b.call∧(b.done=true→b.ret≠a.ret))∧(a.p=b.p→a.done=true∧a.ret≤b.call)
section
open Go.RowKit
def zew (l:List Int) (n:Int):Bool:=decide (n∈l)
theorem zdE (l:List Int) (n:Int) (hl:l.length≤1000000000):zY Try.prog 46 [.list 1 (l.map zj),.int .i64 n] .fr (.bool (zew l n)):=by
 refine zY.of_body (c:=(xa Try.prog zD zq 18)) ⟨Try.func46,rfl,Try.ntmps46,by kernel_rfl⟩ zC zp rfl ?_;change FW _ _ _ ⟨[(0,.list 1 (l.map zj)),(1,.int .i64 n)],[]⟩;refine za ?_;refine FW.loop (fun k:Nat=>⟨[(0,.list 1 (l.map zj)),(1,.int .i64 n),(5,.int .i64 k)],[]⟩) (fun k=>k≤l.length∧n∉l.take k) (fun k=>l.length - k) 0 zc (FLe.cv [] zu zd) ?_;rintro k ⟨hk,hn⟩;refine za ?_;refine FW.cond rfl (fun h=>?_) (fun h=>?_)
 ·have hlt:k<l.length:=by simpa using h
  refine za ?_;refine FW.cond rfl (fun h=>?_) (fun h=>?_)
  ·refine za ?_;refine FW.ret ⟨.inl rfl,?_⟩;have e:zew l n=true:=by
    have:nth l k=n:=by simpa using h
    simp only [zew,decide_eq_true_eq,← this];exact zL hlt
   rw [e];exact .flat (.cons (.tmp 4 rfl rfl) .nil) rfl rfl
  ·refine za ?_;refine ⟨k+1,⟨by omega,?_⟩,by omega,(FLe.cv [] zu zd)⟩;have:nth l k≠n:=by simpa using h
   rw [List.take_succ_eq_append_getElem hlt,List.mem_append];rintro (h1|h1)
   ·exact hn h1
   ·rw [nth_eq hlt] at this;simp at h1;exact this h1.symm
 ·refine za ?_;refine FW.ret ⟨.inl rfl,?_⟩;have e:zew l n=false:=by
   have:k=l.length:=by simp at h;omega
   subst this;simpa [zew] using hn
  rw [e];exact .flat (.cons (.tmp 4 rfl rfl) .nil) rfl rfl
def ziI (l:List OpV) (i k:Int):Bool:=if 0≤i∧0≤k∧i<l.length∧k<l.length then bef l i.toNat k.toNat else false
theorem zdp {l:List OpV} {i k:Int} (h:¬ (0≤i∧0≤k∧i<l.length∧k<l.length)):ziI l i k=false:=by unfold ziI;rw [if_neg h]
theorem zcA {l:List OpV} {i k:Nat} (hi:i<l.length) (hk:k<l.length):ziI l i k=bef l i k:=by
 unfold ziI;rw [if_pos zb];rfl
theorem hBeforeI_spec (l:List OpV) (i k:Int) (hl:l.length≤1000000000):zY Try.prog 33 [.list 8 (l.map OpV.fv),.int .i64 i,.int .i64 k] .fr (.bool (ziI l i k)):=by
 by_cases hin:0≤i∧0≤k∧i<l.length∧k<l.length
 ·obtain ⟨a,ha⟩:∃ a:Nat,i=a:=⟨i.toNat,by omega⟩
  obtain ⟨b,hb⟩:∃ b:Nat,k=b:=⟨k.toNat,by omega⟩
  subst ha;subst hb;rw [zcA zb zb];exact Wm l a b zb zb
 ·rw [zdp hin];refine zY.of_body (c:=(xa Try.prog zD zq 37)) ⟨Try.func33,rfl,Try.ntmps33,by kernel_rfl⟩ zC zp rfl ?_;change FW _ _ _ ⟨[(0,.list 8 (l.map OpV.fv)),(1,.int .i64 i),(2,.int .i64 k)],[]⟩;refine za ?_;refine zJ (fun h=>?_) (fun h=>?_)
  ·refine za ?_;exact FW.ret ⟨.inl rfl,zm rfl rfl rfl rfl⟩
  ·refine za ?_;refine FW.cond rfl (fun h2=>?_) (fun h2=>?_)
   ·refine za ?_;exact FW.ret ⟨.inl rfl,zm rfl rfl rfl rfl⟩
   ·exfalso;simp at h h2;exact hin zb
theorem Uw (l:List OpV) (i k:Int) (hl:l.length≤1000000000):zY Try.prog 49 [.list 8 (l.map OpV.fv),.int .i64 i,.int .i64 k] .fr (.bool (ziI l i k)):=by
 by_cases hin:0≤i∧0≤k∧i<l.length∧k<l.length
 ·obtain ⟨a,ha⟩:∃ a:Nat,i=a:=⟨i.toNat,by omega⟩
  obtain ⟨b,hb⟩:∃ b:Nat,k=b:=⟨k.toNat,by omega⟩
  subst ha;subst hb;rw [zcA zb zb];have hal:a<l.length:=by omega
  have hbl:b<l.length:=by omega
  refine zY.of_body (c:=(xa Try.prog zD zq 43)) ⟨Try.func49,rfl,Try.ntmps49,by kernel_rfl⟩ zC zp rfl ?_;change FW _ _ _ ⟨[(0,.list 8 (l.map OpV.fv)),(1,.int .i64 a),(2,.int .i64 b)],[]⟩;refine za ?_;refine zJ (fun h=>absurd h zI) (fun _=>?_);refine za ?_;refine FW.cond rfl (fun h=>absurd h zI) (fun _=>?_);refine yf ?_;refine yK (fun h=>?_) (fun h=>?_)
  ·refine zw ?_;refine ⟨by kernel_rfl,?_⟩;skip;refine FW.ret ⟨.inl rfl,zm rfl rfl ?_ rfl⟩;simp [bef,h];rfl
  ·refine zw ?_;refine ⟨by kernel_rfl,?_⟩;skip;refine FW.ret ⟨.inl rfl,zm rfl rfl ?_ rfl⟩;simp [bef,h];rfl
 ·rw [zdp hin];refine zY.of_body (c:=(xa Try.prog zD zq 43)) ⟨Try.func49,rfl,Try.ntmps49,by kernel_rfl⟩ zC zp rfl ?_;change FW _ _ _ ⟨[(0,.list 8 (l.map OpV.fv)),(1,.int .i64 i),(2,.int .i64 k)],[]⟩;refine za ?_;refine zJ (fun h=>?_) (fun h1=>?_)
  ·refine za ?_;exact FW.ret ⟨.inl rfl,zm rfl rfl rfl rfl⟩
  ·refine za ?_;refine zJ (fun h=>?_) (fun h2=>?_)
   ·refine za ?_;exact FW.ret ⟨.inl rfl,zm rfl rfl rfl rfl⟩
   ·refine za ?_;refine zJ (fun h=>?_) (fun h3=>?_)
    ·refine za ?_;exact FW.ret ⟨.inl rfl,zm rfl rfl rfl rfl⟩
    ·refine za ?_;refine FW.cond rfl (fun h=>?_) (fun h4=>?_)
     ·refine za ?_;exact FW.ret ⟨.inl rfl,zm rfl rfl rfl rfl⟩
     ·exfalso;simp at h1 h2 h3 h4;exact hin zb
end
def zS (o:OpV):Bool:=o.done && (decide (o.k=0) || decide (o.k=2))
def xg (a b:OpV) (kind:Int):Bool:=decide (a.k=2) && decide (a.key=b.key) && decide (a.arg=b.res) && decide (b.k=kind)
def YP (i k:Nat) (a b:OpV):Bool:=decide (i≠k) && decide (a.key=b.key) && decide (a.res=b.res) && decide (b.k=2)
def xP (b:Bool) (w:Int):List Int:=if b=true then [w] else []
def zh7 (l:List OpV) (strict:Bool) (i k:Nat):List Int:=
 xP (xg (nth l i) (nth l k) 0) 2++(xP (xg (nth l i) (nth l k) 2) 3++(xP (YP i k (nth l i) (nth l k)) 4++xP (strict && bef l i k) 5))
def xy (l:List OpV) (strict:Bool) (i k:Nat):List Int:=if (zS (nth l i) && zS (nth l k))=true then zh7 l strict i k else []
abbrev EdV:=Nat×Nat×Int
def xh (l:List OpV) (strict:Bool) (i k:Nat):List EdV:=(xy l strict i k).map fun w=>(i,k,w)
def ya (l:List OpV) (strict:Bool) (i k:Nat):List EdV:=(List.range k).flatMap fun j=>xh l strict i j
def Xd (l:List OpV) (strict:Bool) (i:Nat):List EdV:=(List.range i).flatMap fun j=>ya l strict j l.length
def yb (l:List OpV) (strict:Bool):List EdV:=Xd l strict l.length
def prs (E:List EdV):List (Nat×Nat):=E.map fun e=>(e.1,e.2.1)
theorem xD (b:Bool) (w:Int):(xP b w).length≤1:=by unfold xP;split <;> simp
theorem zhj {b:Bool} {w x:Int}:x∈xP b w↔b=true∧x=w:=by unfold xP;split <;> simp_all
theorem zhL (l:List OpV) (strict:Bool) (i k:Nat):(zh7 l strict i k).length≤4:=by
 unfold zh7;simp only [List.length_append];have:=xD (xg (nth l i) (nth l k) 0) 2;have:=xD (xg (nth l i) (nth l k) 2) 3;have:=xD (YP i k (nth l i) (nth l k)) 4;have:=xD (strict && bef l i k) 5;omega
theorem Ue (l:List OpV) (strict:Bool) (i k:Nat):(xy l strict i k).length≤4:=by
 unfold xy;split
 ·exact zhL l strict i k
 ·simp
theorem zbl (l:List OpV) (strict:Bool) (i k:Nat):(xh l strict i k).length≤4:=by unfold xh;rw [List.length_map];exact Ue l strict i k
theorem ZA (l:List OpV) (strict:Bool) (i k:Nat):ya l strict i (k+1)=ya l strict i k++xh l strict i k:=by
 unfold ya;rw [List.range_succ,List.flatMap_append];simp
theorem WR (l:List OpV) (strict:Bool) (i:Nat):Xd l strict (i+1)=Xd l strict i++ya l strict i l.length:=by
 unfold Xd;rw [List.range_succ,List.flatMap_append];simp
theorem XG (l:List OpV) (strict:Bool) (i:Nat):∀ k,(ya l strict i k).length≤4 * k
 | 0 => by simp [ya]
 | k+1 => by
  rw [ZA,List.length_append];have:=XG l strict i k;have:=zbl l strict i k;omega
theorem Yr (l:List OpV) (strict:Bool):∀ i,(Xd l strict i).length≤4 * l.length * i
 | 0 => by simp [Xd]
 | i+1 => by
  rw [WR,List.length_append,Nat.mul_succ];have:=Yr l strict i;have:=XG l strict i l.length;omega
theorem WS {l:List OpV} {strict:Bool} {e:EdV}:e∈yb l strict↔e.1<l.length∧e.2.1<l.length∧e.2.2∈xy l strict e.1 e.2.1:=by
 unfold yb Xd ya xh;simp only [List.mem_flatMap,List.mem_map,List.mem_range];constructor
 ·rintro ⟨a,ha,b,hb,w,hw,rfl⟩;exact ⟨ha,hb,hw⟩
 ·rintro ⟨h1,h2,h3⟩;exact ⟨e.1,h1,e.2.1,h2,e.2.2,h3,rfl⟩
theorem zgi {l:List OpV} {strict:Bool} {a b:Nat}:(a,b)∈prs (yb l strict)↔a<l.length∧b<l.length∧xy l strict a b≠[]:=by
 unfold prs;rw [List.mem_map];constructor
 ·rintro ⟨e,he,h⟩;injection h with h1 h2
  subst h1;subst h2;obtain ⟨h1,h2,h3⟩:=WS.1 he;exact ⟨h1,h2,fun h=>by rw [h] at h3;cases h3⟩
 ·rintro ⟨h1,h2,h3⟩;obtain ⟨w,hw⟩:=List.exists_mem_of_ne_nil _ h3;exact ⟨(a,b,w),WS.2 ⟨h1,h2,hw⟩,rfl⟩
structure ziN (l:List OpV):Prop where
 kind:∀ i,i<l.length→(nth l i).k=0∨(nth l i).k=2
 arg:∀ i,i<l.length→(nth l i).k=2→(nth l i).arg≠0
 uniq:∀ i j,i<l.length→j<l.length→(nth l i).k=2→(nth l j).k=2→(nth l i).key=(nth l j).key→(nth l i).arg=(nth l j).arg→i=j
 pend:∀ i k,i<l.length→k<l.length→(nth l k).k=2→(nth l k).key=(nth l i).key→(nth l i).done=true→(nth l k).arg=(nth l i).res→(nth l k).done=true
section
variable {l:List OpV} {strict:Bool} {o:List Int}
end
section
open Go.RowKit
def Vt (k:Nat):Nat→List (Nat×zn)
 | 0 => []
 | m+1 => (k, {}) :: Vt (k+1) m
def Xn (N:Nat):List (Nat×zn):=Vt 0 N
def Ul (B n:Nat) (f:Nat→zn):List (Nat×zn):=(List.range n).map fun v=>(B+v,f v)
theorem xN {α:Type} {d:α}:∀ {l m:List (Nat×α)} {k:Nat},look d (l++m) k=if l.any (fun p=>Nat.beq p.1 k) then look d l k else look d m k
 | [], m, k => by simp
 | p::l,m,k=>by
  obtain ⟨i,x⟩:=p;rw [List.cons_append,zE,zE,xN,List.any_cons];by_cases h:i=k
  ·subst h;simp
  ·have:Nat.beq i k=false:=by
    cases hb:Nat.beq i k with
    | true => exact absurd (Nat.eq_of_beq_eq_true hb) h
    | false => rfl
   simp only [if_neg h,this,Bool.false_or]
theorem UQ {p:Nat×zn}:∀ {m k:Nat},p∈Vt k m→p.1<k+m
 | 0, _, h => by cases h
 | m+1, k, h => by
  rcases List.mem_cons.1 h with rfl|h
  ·show k<k+(m+1);omega
  ·have:=UQ h;omega
theorem zbL {k:Nat} {l:List (Nat×zn)}:∀ {m q:Nat},look {} (Vt q m++l) k=if q≤k∧k<q+m then {} else look {} l k
 | 0, q => by rw [if_neg zb]; rfl
 | m+1,q=>by
  show look ({}:zn) ((q,{})::(Vt (q+1) m++l)) k=_;rw [zE,zbL];by_cases h:q=k
  ·subst h;simp
  ·rw [if_neg h];by_cases h2:q+1≤k∧k<q+1+m
   ·rw [if_pos h2,if_pos zb]
   ·rw [if_neg h2,if_neg zb]
theorem zdK {N k:Nat} {l:List (Nat×zn)}:look {} (Xn N++l) k=if k<N then {} else look {} l k:=by
 unfold Xn;rw [zbL];simp
theorem zaD {B n k:Nat} {f:Nat→zn}:look {} (Ul B n f) k=if B≤k∧k<B+n then f (k - B) else {}:=by
 have key:∀ (L:List Nat),L.Nodup→look ({}:zn) (L.map fun v=>(B+v,f v)) k=if ∃ v∈L,B+v=k then f (k - B) else {}:=by
  intro L
  induction L with
  | nil => intro _; simp [look]
  | cons x L ih=>
   intro hn;rw [List.nodup_cons] at hn;rw [List.map_cons,zE,ih hn.2];by_cases h:B+x=k
   ·rw [if_pos h,if_pos ⟨x,by simp,h⟩,show k - B=x by omega]
   ·rw [if_neg h];by_cases h2:∃ v∈L,B+v=k
    ·rw [if_pos h2,if_pos (let ⟨v,h3,h4⟩:=h2;⟨v,by simp [h3],h4⟩)]
    ·rw [if_neg h2,if_neg];rintro ⟨v,hv,e⟩;rcases List.mem_cons.1 hv with rfl|hv
     ·exact h e
     ·exact h2 ⟨v,hv,e⟩
 unfold Ul;rw [key _ List.nodup_range];by_cases h:B≤k∧k<B+n
 ·rw [if_pos h,if_pos ⟨k - B,List.mem_range.2 zb,by omega⟩]
 ·rw [if_neg h,if_neg];rintro ⟨v,hv,e⟩;have:=List.mem_range.1 hv;omega
def zdy (B n:Nat) (s:Nat→Option Nat) (vo:Nat→Nat) (f:Nat→zn):List Ent:=(List.range n).map fun j=>⟨B+j,s j,vo j,f j⟩
theorem Ys {B n:Nat} {s:Nat→Option Nat} {vo:Nat→Nat} {f:Nat→zn} {j:Nat} (h:j<n):(⟨B+j,s j,vo j,f j⟩:Ent)∈zdy B n s vo f:=List.mem_map.2 ⟨j,List.mem_range.2 h,rfl⟩
theorem zg6 (B n:Nat) (s:Nat→Option Nat) (vo:Nat→Nat) (f:Nat→zn):((zdy B n s vo f).map fun e=>(e.new,e.b))=Ul B n f:=by
 unfold zdy Ul;rw [List.map_map];rfl
def zgT (ob:List (Nat×zn)) (s:Option Nat) (vo:Nat) (b:zn):Prop:=(s=none∧b.life=.own∧b.es=[])∨∃ i,s=some i∧look {} ob i=⟨vo,b.life,b.E,b.sz,b.es⟩∧b.life.plain=true
theorem yC.fam {L:List Nat} {ob:List (Nat×zn)} {M0:List Ent} {B:Nat} {s:Nat→Option Nat} {vo:Nat→Nat} {f:Nat→zn} (h:∀ j∈L,zgT ob (s j) (vo j) (f j)):yC ob M0 (L.map fun j=>(⟨B+j,s j,vo j,f j⟩:Ent)):=by
 induction L with
 | nil => exact .nil
 | cons j L ih =>
  have hj:=h j zc;have ih':=ih fun k hk=>h k (by simp [hk]);rw [List.map_cons];generalize s j=sj at hj;generalize f j=b at hj;obtain ⟨v,l,E,sz,es⟩:=b;rcases hj with ⟨rfl,h1,h2⟩|⟨i,rfl,h1,h2⟩
  ·dsimp only at h1 h2;subst h1;subst h2;exact .new ih'
  ·exact .old h1 h2 rfl ih'
theorem yC.append {ob:List (Nat×zn)} {M0 M1 M2:List Ent} (h1:yC ob M0 M1) (h2:yC ob M0 M2):yC ob M0 (M1++M2):=by
 induction h1 with
 | nil => exact h2
 | old h hl e _ ih => exact .old h hl e ih
 | new _ ih => exact .new ih
 | oldH h e _ ih => exact .oldH h e ih
 | oldK h e _ ih => exact .oldK h e ih
 | oldM h e _ ih => exact .oldM h e ih
theorem zal.all {ob:List (Nat×zn)}:∀ {M:List Ent},(∀ q∈M,q.new<zB)→zal ob M
 | [], _ => .nil
 | q ::M,h=>.low (by
     have:=h q zc;cases hb:Nat.ble zB q.new with
     | false => rfl
     | true => have := Nat.le_of_ble_eq_true hb; omega) (zal.all fun p hp => h p (by simp [hp]))
theorem zg9 {ob:List (Nat×zn)} (h:∀ p∈ob,p.1<zB):ziS ob=true:=List.all_eq_true.2 fun p hp=>by
 have:=h p hp;cases hb:Nat.ble zB p.1 with
 | false => rfl
 | true => have := Nat.le_of_ble_eq_true hb; omega
theorem FLe.ext {t:List (Nat×FV)} {ob ob' : List (Nat×zn)} (h:∀ k,look {} ob' k=look {} ob k):FLe ⟨t,ob⟩ ⟨t,ob'⟩:=fun _ _ _ _ _ β hF=>⟨β,hF.ext (fun _=>rfl) h⟩
theorem FLe.pad {t:List (Nat×FV)} {C:List (Nat×zn)} {N B n:Nat} {f:Nat→zn} (h:N≤B):FLe ⟨t,C++Ul B n f⟩ ⟨t,C++(Xn N++Ul B n f)⟩:=by
 refine FLe.ext fun k=>?_;rw [xN,xN (l:=C) (m:=Ul B n f),zdK];split
 ·rfl
 ·split
  ·rw [zaD,if_neg zb]
  ·rfl
theorem FLe.convF {t t' : List (Nat×FV)} {ob:List (Nat×zn)} (C:List Ent) (N B n:Nat) (s:Nat→Option Nat) (vo:Nat→Nat) (f:Nat→zn) (hNB:N≤B) (hBn:B+n≤zB) (hCl:C.all (fun q=>Nat.blt q.new B)=true) (hCn:(C.map Ent.new).Nodup)
  (hsn:(C.filterMap Ent.src++(List.range n).filterMap s).Nodup) (hlow:∀ p∈ob,p.1<zB) (hf:∀ j,j<n→zgT ob (s j) (vo j) (f j)) (hC:yC ob (C++zdy B n s vo f) C) (ht:SlC t (C++zdy B n s vo f) t') :
  FLe ⟨t,ob⟩ ⟨t',(C.map fun e=>(e.new,e.b))++(Xn N++Ul B n f)⟩:=by
 have hlt:∀ q∈C,q.new<B:=fun q hq=>Nat.le_of_ble_eq_true (List.all_eq_true.1 hCl q hq);refine FLe.trans ?_ (FLe.pad hNB);rw [← zg6 B n s vo f,← List.map_append];refine FLe.conv (C++zdy B n s vo f) ?_ ?_ (zfQ (zg9 hlow) _) (zal.all fun q hq=>?_) (hC.append (yC.fam fun j hj=>hf j (List.mem_range.1 hj))) ht
 ·rw [List.map_append];refine List.nodup_append.2 ⟨hCn,?_,fun a ha b hb=>?_⟩
  ·unfold zdy;rw [List.map_map];exact List.Pairwise.map _ (fun a b (hab:a≠b)=>by show B+a≠B+b;omega) List.nodup_range
  ·obtain ⟨q,hq,rfl⟩:=List.mem_map.1 ha;obtain ⟨p,hp,rfl⟩:=List.mem_map.1 hb;obtain ⟨j,hj,rfl⟩:=List.mem_map.1 hp;have:=hlt q hq;dsimp only;omega
 ·rw [List.filterMap_append];unfold zdy;rw [List.filterMap_map];exact hsn
 ·rcases List.mem_append.1 hq with hq|hq
  ·have:=hlt q hq;omega
  ·obtain ⟨j,hj,rfl⟩:=List.mem_map.1 hq;have:=List.mem_range.1 hj;show B+j<zB;omega
theorem zcw.of {M:List Ent}:∀ {n:Nat} {c c' : Nat→FV},(∀ j,j<n→WG M (c j) (c' j))→zcw M ((List.range n).map fun j=>[c j]) ((List.range n).map fun j=>[c' j]):=by
 intro n c c' h;have key:∀ L:List Nat,(∀ j∈L,WG M (c j) (c' j))→zcw M (L.map fun j=>[c j]) (L.map fun j=>[c' j]):=by
  intro L
  induction L with
  | nil => intro _; exact .nil
  | cons x L ih => intro h; exact .cons (h x zc) (ih fun j hj => h j (by simp [hj]))
 exact key _ fun j hj=>h j (List.mem_range.1 hj)
theorem Vw {α:Type} (n v:Nat) (f:Nat→α) (x:α):((List.range n).map f).set v x=(List.range n).map fun j=>if j=v then x else f j:=by
 apply List.ext_getElem
 ·simp
 ·intro i h1 h2;rw [List.getElem_set,List.getElem_map,List.getElem_map,List.getElem_range];by_cases h:v=i
  ·subst h;simp
  ·rw [if_neg h,if_neg (fun e=>h e.symm)]
theorem zbZ {w:World} {base:Nat} {I I' : Nat→Prop} {βid:Option Nat} {ob:zn} {u:Value} {o n:Nat} (hg:YC w βid ob u o n) (hr:zia w base I βid ob) (hb:∀ b,βid=some b→I' b) (hI:∀ b,I b→I' b):Rd w I' u (.list ob.sz ((ob.es.drop o).take n)):=by
 obtain ⟨A,cc,rfl,e2,e3,e4,e5⟩:=hg.ex;have hw:=hr.wide;have hone:=hr.one;have hwd:∀ e∈ob.es.drop o,e.length=ob.sz:=fun e he=>hw e (List.mem_of_mem_drop he);have hlen:((ob.es.drop o).take n).length=n:=by simp;omega
 have hfl:((ob.es.drop o).take n).flatten=(ob.es.flatten.drop (o * ob.sz)).take (n * ob.sz):=by rw [xL _ hwd,xj _ hw]
 have hone' : ∀ f∈((ob.es.drop o).take n).flatten,f.one=true:=fun f hf=>by rw [hfl] at hf;exact hone f (List.mem_of_mem_drop (List.mem_of_mem_take hf))
 cases hbi:βid with
 | none =>
  obtain ⟨rfl,rfl⟩:=e4 hbi;obtain rfl:n=0:=by omega
  exact .list none 0 0 _ _ [] zc (Nat.le_refl _) zc zc zc zc zc
 | some b=>
  obtain ⟨o',rfl,k2,k3⟩:=e5 b hbi;obtain ⟨v',us,r1,r2,r3⟩:=hr.row;have hR:RdL w I' ((us.drop (o * ob.sz)).take (n * ob.sz)) ((ob.es.drop o).take n).flatten:=by
   rw [hfl];exact ((r3.mono fun b hb=>⟨hI b hb,rfl⟩).drop _).take _
  refine .list _ n cc ob.sz _ _ hlen e2 (fun e he=>hwd e (List.mem_of_mem_take he)) hone' (fun h0=>⟨b,o',rfl,hb b hbi,fun j u hu=>?_⟩) hR.1 hR.2;have:=k2 (.inl zb);subst this;rw [List.getElem?_take] at hu;split at hu
  ·rw [List.getElem?_drop] at hu;have hcell:=r1.cells (g:=b) (by rw [r2];exact hbi) _ u hu;rwa [yM,Nat.zero_add] at hcell
  ·cases hu
theorem FLe.deep {t:List (Nat×FV)} {ob:List (Nat×zn)} (id B n:Nat) {w E2 E sz:Nat} (vs:Nat→Nat) (es:Nat→List (List FV)) (h:look {} ob id=⟨w,.hrow,E2,1,(List.range n).map fun j=>[.own (B+j) (vs j) 0 (es j).length]⟩)
  (hf:∀ j,j<n→look {} ob (B+j)=⟨vs j,.own,E,sz,es j⟩) (hid:id<B):FLe ⟨t,ob⟩ ⟨t,(id,⟨w,.own,E2,1,(List.range n).map fun j=>[.list sz (es j)]⟩)::(Ul B n (fun j=>⟨vs j,.dead,E,sz,es j⟩)++ob)⟩:=by
 intro N w0 J a wd β hF;refine ⟨β,?_⟩;have ho:(⟨t,ob⟩:FSt).ob id=⟨w,.hrow,E2,1,(List.range n).map fun j=>[.own (B+j) (vs j) 0 (es j).length]⟩:=h;have hlive:((⟨t,ob⟩:FSt).ob id).life≠.dead:=by rw [ho];exact (by decide:zX.hrow≠.dead)
 obtain ⟨s',hs'⟩:∃ s' : FSt,s'=⟨t,(id,⟨w,.own,E2,1,(List.range n).map fun j=>[.list sz (es j)]⟩)::(Ul B n (fun j=>⟨vs j,.dead,E,sz,es j⟩)++ob)⟩:=⟨_,rfl⟩
 rw [← hs'];have hob:∀ k,s'.ob k=if id=k then ⟨w,.own,E2,1,(List.range n).map fun j=>[.list sz (es j)]⟩ else if B≤k∧k<B+n then ⟨vs (k - B),.dead,E,sz,es (k - B)⟩ else (⟨t,ob⟩:FSt).ob k:=fun k=>by
  rw [hs'];show look ({}:zn) _ k=_;rw [zE];split
  ·rfl
  ·rw [xN];have hany:(Ul B n (fun j=>(⟨vs j,.dead,E,sz,es j⟩:zn))).any (fun p=>Nat.beq p.1 k)=decide (B≤k∧k<B+n):=by
    rw [Bool.eq_iff_iff,List.any_eq_true,decide_eq_true_eq];constructor
    ·rintro ⟨p,hp,e⟩;obtain ⟨j,hj,rfl⟩:=List.mem_map.1 hp;have h1:=Nat.eq_of_beq_eq_true e;have h2:=List.mem_range.1 hj;dsimp only at h1;omega
    ·intro hk;exact ⟨(k,_),List.mem_map.2 ⟨k - B,List.mem_range.2 zb,by rw [show B+(k - B)=k by omega]⟩,Nat.beq_refl k⟩
   rw [hany,zaD];by_cases hk:B≤k∧k<B+n
   ·rw [decide_eq_true hk,if_pos rfl,if_pos hk,if_pos hk]
   ·rw [decide_eq_false hk,if_neg zg,if_neg hk];rfl
 have hsub:∀ k,(s'.ob k).life≠.dead→((⟨t,ob⟩:FSt).ob k).life≠.dead:=fun k hl=>by
  rw [hob] at hl;split at hl
  ·rename_i e;subst e;exact hlive
  ·split at hl
   ·exact absurd rfl hl
   ·exact hl
 have hmine:∀ k,(s'.ob k).life.mine=true→((⟨t,ob⟩:FSt).ob k).life.mine=true:=fun k hl=>by
  rw [hob] at hl;split at hl
  ·rename_i e;subst e;rw [ho];rfl
  ·split at hl
   ·cases hl
   ·exact hl
 have hI:∀ b,Imm J wd β ⟨t,ob⟩ b→Imm J wd β s' b:=fun b hb=>⟨hb.1,hb.2.1,fun k hl=>hb.2.2 k (hmine k hl)⟩
 have hver:∀ k,(s'.ob k).ver=((⟨t,ob⟩:FSt).ob k).ver:=fun k=>by
  rw [hob];split
  ·rename_i e;subst e;rw [ho]
  ·split
   ·rename_i hk;have:=hf (k - B) zb;rw [show B+(k - B)=k by omega] at this;have e:(⟨t,ob⟩:FSt).ob k=look ({}:zn) ob k:=rfl;rw [e,this]
   ·rfl
 refine hF.step (C:=fun k=>k=id∨(B≤k∧k<B+n)) hF.size hF.defers hF.bel (fun b hb=>⟨hI b hb,rfl⟩) (fun k=>.inl ⟨rfl,by rw [hs'];rfl⟩) (fun k hC=>?_) (fun k _=>Nat.le_of_eq (hver k).symm) (fun k hC hl _=>?_) (fun k hC hl T=>?_) (fun k k' b hl hl' e e'=>hF.inj k k' b (hsub k hl) (hsub k' hl') e e') (fun b _ hn=>⟨rfl,fun k hl=>hn k (hsub k hl)⟩)
 ·refine ⟨?_,rfl,fun _ _ _=>rfl⟩;rw [hob,if_neg (fun e=>hC (.inl e.symm)),if_neg (fun e=>hC (.inr e))]
 ·rcases hC with rfl|hC
  ·refine ⟨hlive,rfl,by rw [hob,if_pos rfl,ho],by rw [hob,if_pos rfl,ho];rfl,fun v o m hv=>?_⟩;rw [ho] at hv;obtain ⟨A,c,k1,k2,k3,k4,k5⟩:=hv.ex;rw [hob,if_pos rfl];exact ⟨rfl,A,c,k1,k2,by simpa using k3,k4,k5⟩
  ·exfalso;rw [hob,if_neg zb,if_pos hC] at hl;exact hl rfl
 ·rcases hC with rfl|hC
  ·rw [hob,if_pos rfl];have hH:=(hF.obj k hlive).rowH (by rw [ho];rfl) (by rw [ho];rfl);rw [ho] at hH;obtain ⟨v,us,r1,r2,r3,r4⟩:=hH.row;dsimp only at r1 r3 r4;have hfl:∀ (g:Nat→FV),((List.range n).map fun j=>[g j]).flatten=(List.range n).map g:=fun g=>by
    generalize List.range n=L
    induction L with
    | nil => rfl
    | cons x L ih => simp [ih]
   rw [hfl] at r3 r4;refine .ofRow ⟨fun e he=>?_,fun f hf'=>?_,v,us,?_,r2,?_,fun j u f hu hff=>?_⟩ (.own rfl) rfl
   ·obtain ⟨j,_,rfl⟩:=List.mem_map.1 he;rfl
   ·dsimp only at hf';rw [hfl] at hf';obtain ⟨j,_,rfl⟩:=List.mem_map.1 hf';rfl
   ·dsimp only;rw [List.length_map] at r1 ⊢;exact r1
   ·dsimp only;rw [hfl,List.length_map] at *;exact r3
   ·dsimp only at hff;rw [hfl] at hff;have hjn:j<n:=by have:=(List.getElem?_eq_some_iff.1 hff).1;simpa using this
    rw [List.getElem?_map,List.getElem?_range hjn] at hff;injection hff with hff
    subst hff;have hv:=r4 j u _ hu (by rw [List.getElem?_map,List.getElem?_range hjn];rfl);have hoj:(⟨t,ob⟩:FSt).ob (B+j)=⟨vs j,.own,E,sz,es j⟩:=hf j hjn;have hlj:((⟨t,ob⟩:FSt).ob (B+j)).life≠.dead:=by rw [hoj];exact (by decide:zX.own≠.dead)
    have hov:=hv hlj (by rw [hoj]);have hO:=hF.obj (B+j) hlj;have hrr:=hO.rowR (by rw [hoj];rfl);have:=zbZ (I':=Imm J wd β s') hov hrr (fun b hb=>?_) hI
    ·rw [hoj] at this;dsimp only at this;rwa [List.drop_zero,List.take_length] at this
    ·have hlt:=hO.lt hb;refine ⟨hlt.2,hF.fresh b hlt.1 (.inr ⟨_,hlj,hb⟩),fun k' hl' e=>?_⟩;have:=hF.inj (B+j) k' b hlj (hsub k' (zX.mine_ne hl')) hb e;subst this;rw [hob,if_neg zb,if_pos ⟨by omega,by omega⟩] at hl';cases hl'
  ·exfalso;rw [hob,if_neg zb,if_pos hC] at hl;exact hl rfl
theorem ziR {C:List (Nat×zn)} {N B n:Nat} {f:Nat→zn} (h1:∀ p∈C,p.1<zB) (h2:N≤zB) (h3:B+n≤zB):∀ p∈C++(Xn N++Ul B n f),p.1<zB:=by
 intro p hp;rcases List.mem_append.1 hp with hp|hp
 ·exact h1 p hp
 ·rcases List.mem_append.1 hp with hp|hp
  ·have:=UQ hp;omega
  ·obtain ⟨j,hj,rfl⟩:=List.mem_map.1 hp;have:=List.mem_range.1 hj;show B+j<zB;omega
theorem Za {C:List (Nat×zn)} {N B n j:Nat} {f:Nat→zn} (hC:C.all (fun p=>Nat.blt p.1 B)=true) (hN:N≤B) (hj:j<n):look {} (C++(Xn N++Ul B n f)) (B+j)=f j:=by
 rw [xN,zdK,zaD,if_neg,if_neg zb,if_pos ⟨by omega,by omega⟩,Nat.add_sub_cancel_left];intro h;obtain ⟨p,hp,e⟩:=List.any_eq_true.1 h;have h1:=Nat.le_of_ble_eq_true (List.all_eq_true.1 hC p hp);have h2:=Nat.eq_of_beq_eq_true e;omega
theorem zbU {α:Type} (n:Nat) (x:α):List.replicate n x=(List.range n).map fun _=>x:=by
 apply List.ext_getElem
 ·simp
 ·intro i h1 h2;simp
theorem Vv {α:Type} (n v:Nat) (f:Nat→α) (h:v<n):((List.range n).map f)[v]? = some (f v):=by
 rw [List.getElem?_map,List.getElem?_range h];rfl
def Low (ob:List (Nat×zn)):Prop:=∀ p∈ob,p.1<zB
theorem Low.nil:Low []:=fun p hp=>by cases hp
theorem Low.cons {i:Nat} {b:zn} {l:List (Nat×zn)} (h:Nat.blt i zB=true) (hl:Low l):Low ((i,b)::l):=fun p hp=>by
 rcases List.mem_cons.1 hp with rfl|hp
 ·exact Nat.le_of_ble_eq_true h
 ·exact hl p hp
theorem Low.fam {N B n:Nat} {f:Nat→zn} (h1:Nat.ble N zB=true) (h2:B+n≤zB):Low (Xn N++Ul B n f):=by
 have:=ziR (C:=[]) (N:=N) (f:=f) zc (Nat.le_of_ble_eq_true h1) h2;exact fun p hp=>this p hp
theorem zbn (n a B:Nat) (x:Option Nat) (l:List Nat) (h1:(l++x.toList).Nodup) (h2:∀ i∈l++x.toList,i<B∨i=B+a):(l++(List.range n).filterMap fun j=>if j=a then x else some (B+j)).Nodup:=by
 have hx:∀ i,x=some i→i∉l:=fun i hi hl=>by
  rw [hi] at h1;exact (List.nodup_append.1 h1).2.2 i hl i zc rfl
 refine List.nodup_append.2 ⟨(List.nodup_append.1 h1).1,?_,fun i hi k hk e=>?_⟩
 ·refine List.Pairwise.filterMap _ (R:=(·≠·)) (fun j j' hjj i hi i' hi' e=>?_) List.nodup_range;subst e;by_cases h:j=a
  ·by_cases h' : j'=a
   ·exact hjj (h.trans h'.symm)
   ·rw [if_pos h] at hi;rw [if_neg h'] at hi';have hi2:i=B+j':=by simpa using hi'.symm
    have:=h2 i (by simp;right;simpa using hi);omega
  ·by_cases h' : j'=a
   ·rw [if_neg h] at hi;rw [if_pos h'] at hi';have hi2:i=B+j:=by simpa using hi.symm
    have:=h2 i (by simp;right;simpa using hi');omega
   ·rw [if_neg h] at hi;rw [if_neg h'] at hi';have h3:i=B+j:=by simpa using hi.symm
    have h4:i=B+j':=by simpa using hi'.symm
    omega
 ·subst e;obtain ⟨j,_,hj⟩:=List.mem_filterMap.1 hk;split at hj
  ·exact hx i hj hi
  ·have h3:i=B+j:=by simpa using hj.symm
   have:=h2 i (by simp [hi]);rename_i hne;omega
theorem FLe.convS {t t' : List (Nat×FV)} {ob:List (Nat×zn)} (C:List Ent) (B n a:Nat) (x:Option Nat) (vo:Nat→Nat) (f:Nat→zn) (hB:Nat.ble 200 B=true) (hBn:B+n≤zB) (hCl:C.all (fun q=>Nat.blt q.new B)=true) (hCn:(C.map Ent.new).Nodup)
  (hs1:(C.filterMap Ent.src++x.toList).Nodup) (hs2:∀ i∈C.filterMap Ent.src++x.toList,i<B∨i=B+a) (hlow:Low ob) (hf:∀ j,j<n→zgT ob (if j=a then x else some (B+j)) (vo j) (f j)) (hC:yC ob (C++zdy B n (fun j=>if j=a then x else some (B+j)) vo f) C) (ht:SlC t (C++zdy B n (fun j=>if j=a then x else some (B+j)) vo f) t') :
  FLe ⟨t,ob⟩ ⟨t',(C.map fun e=>(e.new,e.b))++(Xn 200++Ul B n f)⟩:=
 FLe.convF C 200 B n _ vo f (Nat.le_of_ble_eq_true hB) hBn hCl hCn (zbn n a B x _ hs1 hs2) hlow hf hC ht
theorem FLe.convK {t t' : List (Nat×FV)} {ob:List (Nat×zn)} (C:List Ent) (B n:Nat) (vo:Nat→Nat) (f:Nat→zn) (hB:Nat.ble 200 B=true) (hBn:B+n≤zB) (hCl:C.all (fun q=>Nat.blt q.new B)=true) (hCn:(C.map Ent.new).Nodup)
  (hs1:(C.filterMap Ent.src).Nodup) (hs2:∀ i∈C.filterMap Ent.src,i<B) (hlow:Low ob) (hf:∀ j,j<n→zgT ob (some (B+j)) (vo j) (f j)) (hC:yC ob (C++zdy B n (fun j=>some (B+j)) vo f) C) (ht:SlC t (C++zdy B n (fun j=>some (B+j)) vo f) t') :
  FLe ⟨t,ob⟩ ⟨t',(C.map fun e=>(e.new,e.b))++(Xn 200++Ul B n f)⟩:=
 FLe.convF C 200 B n _ vo f (Nat.le_of_ble_eq_true hB) hBn hCl hCn (by
  refine List.nodup_append.2 ⟨hs1,?_,fun i hi k hk e=>?_⟩
  ·refine List.Pairwise.filterMap _ (R:=(·≠·)) (fun j j' hjj i hi i' hi' e=>?_) List.nodup_range;injection hi with hi;injection hi' with hi';omega
  ·obtain ⟨j,_,hj⟩:=List.mem_filterMap.1 hk;injection hj with hj
   have:=hs2 i hi;omega) hlow hf hC ht
theorem FLe.convN {t t' : List (Nat×FV)} {ob:List (Nat×zn)} (C:List Ent) (B n:Nat) (f:Nat→zn) (hB:Nat.ble 200 B=true) (hBn:B+n≤zB) (hCl:C.all (fun q=>Nat.blt q.new B)=true) (hCn:(C.map Ent.new).Nodup)
  (hs1:(C.filterMap Ent.src).Nodup) (hlow:Low ob) (hf:∀ j,j<n→(f j).life=.own∧(f j).es=[]) (hC:yC ob (C++zdy B n (fun _=>none) (fun _=>0) f) C) (ht:SlC t (C++zdy B n (fun _=>none) (fun _=>0) f) t') :
  FLe ⟨t,ob⟩ ⟨t',(C.map fun e=>(e.new,e.b))++(Xn 200++Ul B n f)⟩:=
 FLe.convF C 200 B n _ _ f (Nat.le_of_ble_eq_true hB) hBn hCl hCn (by
  have:(List.range n).filterMap (fun _=>(none:Option Nat))=[]:=by induction List.range n <;> simp_all
  rw [this,List.append_nil];exact hs1) hlow (fun j hj=>.inl ⟨rfl,hf j hj⟩) hC ht
def edf (e:Nat×Nat):List FV:=[.int .i64 (e.1:Int),.int .i64 (e.2:Int)]
def Zs (E:List (Nat×Nat)) (v k:Nat):List Int:=((E.take k).filter fun e=>decide (e.1=v)).map fun e=>(e.2:Int)
def zhG (z:List Int):List Int:=Lib.compact (z.mergeSort fun x y=>decide (x≤y))
def zy (E:List (Nat×Nat)) (v:Nat):List Int:=zhG (Zs E v E.length)
theorem zfb (E:List (Nat×Nat)) (v k:Nat) (h:k<E.length):Zs E v (k+1)=Zs E v k++(if (nth E k).1=v then [((nth E k).2:Int)] else []):=by
 unfold Zs;rw [List.take_succ_eq_append_getElem h,List.filter_append,List.map_append,nth_eq h];congr 1;by_cases hv:E[k].1=v <;> simp [hv]
theorem VQ (E:List (Nat×Nat)) (v k:Nat):(Zs E v k).length≤E.length:=by
 unfold Zs;rw [List.length_map];exact Nat.le_trans (List.length_filter_le _ _) (by rw [List.length_take];omega)
theorem zgI (z:List Int):(zhG z).length≤z.length:=by
 unfold zhG Lib.compact Lib.compactUpTo;rw [List.length_map];refine Nat.le_trans (List.length_filter_le _ _) ?_;rw [List.length_range,List.length_mergeSort];exact Nat.le_refl _
def zfs (E:List (Nat×Nat)) (k j:Nat):zn:=⟨0,.own,3,1,(Zs E j k).map zj⟩
def zhT (E:List (Nat×Nat)) (k j:Nat):FV:=.own (1000+j) 0 0 (Zs E j k).length
def zhB (E:List (Nat×Nat)) (i j:Nat):List Int:=if j<i then zy E j else Zs E j E.length
def zft (E:List (Nat×Nat)) (i j:Nat):zn:=⟨0,.own,3,1,(zhB E i j).map zj⟩
def zg0 (E:List (Nat×Nat)) (i j:Nat):FV:=.own (1000+j) 0 0 (zhB E i j).length
theorem zcf (E:List (Nat×Nat)) (j:Nat):zhB E 0 j=Zs E j E.length:=if_neg zb
theorem xS (n:Nat) (E:List (Nat×Nat)) (hn:n≤1000) (hE:E.length≤1000000) (hin:∀ e∈E,e.1<n∧e.2<n):zY Try.prog 34 [.int .i64 n,.list 2 (E.map edf)] .sh (.list 1 ((List.range n).map fun v=>[.list 1 ((zy E v).map zj)])):=by
 refine zY.of_body (c:=(xa Try.prog zD zq 51)) ⟨Try.func34,rfl,Try.ntmps34,by kernel_rfl⟩ zC zp rfl ?_;change FW _ _ _ ⟨[(0,.int .i64 n),(1,.list 2 (E.map edf))],[]⟩;refine za ?_;rw [zbU];refine FW.loop (fun k:Nat=>⟨[(5,.own 100 0 0 n),(11,.list 2 (E.map edf)),(12,.int .i64 E.length),(13,.int .i64 k)],[(100,⟨0,.hrow,22,1,(List.range n).map fun j=>[zhT E k j]⟩)]++(Xn 200++Ul 1000 n (zfs E k))⟩) (fun k=>k≤E.length) (fun k=>E.length - k) 0 (Nat.zero_le _) ?_ ?_
 ·exact (FLe.toH (i:=10) rfl).trans (FLe.convN [⟨100,some 10,0+1,⟨0,.hrow,22,1,(List.range n).map fun j=>[zhT E 0 j]⟩⟩] 1000 n (zfs E 0) rfl (by unfold zB;omega) rfl zc zc (by repeat (first|exact Low.nil|exact Low.fam rfl (by unfold zB;omega)|refine Low.cons rfl ?_))
   (fun j _=>⟨rfl,rfl⟩) (.oldH rfl (zcw.of fun j hj=>.nil (List.mem_append_right _ (Ys hj)) rfl) .nil) zd)
 intro k hk;refine za ?_;refine FW.cond rfl (fun h=>?_) (fun h=>?_)
 ·have hlt:k<E.length:=by simpa using h
  clear h;obtain ⟨⟨a,b⟩,he⟩:∃ e,nth E k=e:=⟨_,rfl⟩
  obtain ⟨ha,hb⟩:=hin (nth E k) (zL hlt);have hrs:=fun v=>zfb E v k hlt;rw [he] at ha hb;simp only [he] at hrs;have hrl:=VQ E a k;refine za ?_;refine FW.le (s':=⟨[(7,.ptr 7 1 0 0),(5,.own 100 0 0 n),(11,.list 2 (E.map edf)),(12,.int .i64 E.length),(13,.int .i64 k)],[(100,⟨0,.hrow,22,1,(List.range n).map fun j=>[if j=a then .own 150 0 0 (Zs E a k).length else zhT E k j]⟩),(150,zfs E k a),(7,⟨1,.own,56,2,[edf (a,b)]⟩)]++(Xn 200++Ul 1000 n fun j=>if j=a then ⟨0,.own,3,1,[]⟩ else zfs E k j)⟩) ?_ ?_
  ·refine FW.draw ?_;refine Zh rfl rfl rfl ?_;refine XR rfl rfl rfl rfl rfl rfl rfl zg (by simp;done) rfl rfl ?_;refine xE rfl rfl rfl rfl rfl (by simp;done) rfl rfl rfl rfl rfl ?_;refine Zh rfl rfl rfl ?_;refine XR rfl rfl rfl rfl rfl rfl rfl zg (by simp;done) rfl rfl ?_;refine xE rfl rfl rfl rfl rfl (by simp;done) rfl rfl rfl rfl rfl ?_;refine Zq rfl rfl rfl rfl rfl rfl zg rfl zb rfl rfl ?_;refine zdS rfl rfl rfl rfl (Vv n a _ ha) rfl rfl ?_;rw [if_pos rfl];refine XR rfl rfl rfl rfl rfl rfl rfl zg (by simp;done) rfl rfl ?_;refine xE rfl rfl rfl rfl rfl (by simp;done) rfl rfl rfl rfl rfl ?_;refine Zo rfl rfl rfl rfl rfl rfl rfl rfl ?_;refine zaH rfl rfl (by first|exact (List.length_map _).symm|(simp;omega)) rfl rfl rfl zg (by exact xV.own rfl rfl zg (by first|exact List.length_map _|exact (List.length_map _).symm|exact List.length_replicate|rfl|(simp;done)|omega|(simp;omega))) zI zI rfl rfl rfl ?_;refine Zq rfl rfl rfl rfl rfl rfl zg rfl yv rfl rfl ?_;refine UU rfl rfl rfl rfl rfl rfl zg yv rfl ?_;refine zK.nil ⟨by kernel_rfl,?_⟩;refine FW.region ?_;refine Xp rfl rfl zb rfl rfl ?_;refine zG rfl rfl rfl ?_;refine zi.nil ?_;have h1:∀ j,Zs E j (k+1)=Zs E j k++if a=j then [(b:Int)] else []:=hrs
   rw [Vw];refine ⟨k+1,by omega,by omega,?_⟩;refine FLe.convS [⟨100,some 100,0,⟨0,.hrow,22,1,(List.range n).map fun j=>[zhT E (k+1) j]⟩⟩] 1000 n a (some 28) (fun j=>if j=a then 1 else 0) (zfs E (k+1)) rfl (by unfold zB;omega) rfl zc zc zc (by repeat (first|exact Low.nil|exact Low.fam rfl (by unfold zB;omega)|refine Low.cons rfl ?_)) ?_ ?_ ?_
   ·intro j hj;by_cases hja:j=a
    ·subst hja;rw [if_pos rfl,if_pos rfl];refine .inr ⟨28,rfl,?_,rfl⟩;unfold zfs;rw [h1,if_pos rfl,List.map_append];rfl
    ·rw [if_neg hja,if_neg hja];refine .inr ⟨_,rfl,(Za (C:=[(100,_),(28,_),(150,_),(27,_),(100,_),(150,_),(7,_)]) rfl zg hj).trans ?_,rfl⟩;rw [if_neg hja];unfold zfs;rw [h1,if_neg (fun e=>hja e.symm),List.append_nil]
   ·refine .oldH rfl ?_ .nil;rw [show ((List.range n).map fun j=>if j=(a,b).1 then [FV.own 28 (0+1) 0 (List.map zj (Zs E a k)++[[FV.int IntKind.i64 ((a,b).2:Int)]]).length] else [if j=a then FV.own 150 0 0 (Zs E a k).length else zhT E k j])=(List.range n).map fun j=>[if j=a then FV.own 28 1 0 ((Zs E a k).length+1) else zhT E k j] from List.map_congr_left fun j _=>by
     by_cases hja:j=a
     ·rw [if_pos hja,if_pos hja,List.length_append,List.length_map];rfl
     ·rw [if_neg hja,if_neg hja,if_neg hja]]
    refine zcw.of fun j hj=>?_;have hm:=Ys (B:=1000) (s:=fun j=>if j=a then some 28 else some (1000+j)) (vo:=fun j=>if j=a then 1 else 0) (f:=zfs E (k+1)) hj;unfold zhT;by_cases hja:j=a
    ·subst hja;simp only [if_pos] at hm;rw [if_pos rfl,h1,if_pos rfl];exact .own (List.mem_append_right _ hm) rfl rfl zc
    ·simp only [if_neg hja] at hm;rw [if_neg hja,h1,if_neg (fun e=>hja e.symm),List.append_nil];exact .own (List.mem_append_right _ hm) rfl rfl rfl
   ·exact zd
  ·refine FLe.convS [⟨100,some 100,0,⟨0,.hrow,22,1,(List.range n).map fun j=>[if j=a then .own 150 0 0 (Zs E a k).length else zhT E k j]⟩⟩,⟨150,some (1000+a),0,zfs E k a⟩,⟨7,some 7,1,⟨1,.own,56,2,[edf (a,b)]⟩⟩] 1000 n a none (fun _=>0) (fun j=>if j=a then ⟨0,.own,3,1,[]⟩ else zfs E k j) rfl (by unfold zB;omega) rfl zc (by simp <;> omega) (by simp <;> omega) (by repeat (first|exact Low.nil|exact Low.fam rfl (by unfold zB;omega)|refine Low.cons rfl ?_)) ?_ ?_ ?_
   ·intro j hj;by_cases hja:j=a
    ·rw [if_pos hja,if_pos hja];exact .inl ⟨rfl,rfl,rfl⟩
    ·rw [if_neg hja,if_neg hja];exact .inr ⟨_,rfl,Za (C:=[(7,_),(7,_),(100,_)]) rfl zg hj,rfl⟩
   ·refine .oldH rfl (zcw.of fun j hj=>?_) (.old (Za (C:=[(7,_),(7,_),(100,_)]) rfl zg ha) rfl rfl (.old rfl rfl (by rw [he]) .nil));by_cases hja:j=a
    ·subst hja;rw [if_pos rfl];exact .own (List.mem_cons_of_mem _ (List.mem_cons_self ..)) rfl rfl rfl
    ·rw [if_neg hja];have hm:=Ys (B:=1000) (s:=fun j=>if j=a then none else some (1000+j)) (vo:=fun _=>0) (f:=fun j=>if j=a then ⟨0,.own,3,1,[]⟩ else zfs E k j) hj;simp only [if_neg hja] at hm;exact .own (List.mem_append_right _ hm) rfl rfl rfl
   ·exact zd
 ·obtain rfl:k=E.length:=by simp at h;omega
  clear h hk;refine za ?_;refine FW.loop (fun i:Nat=>⟨[(5,.own 100 0 0 n),(32,.int .i64 n),(33,.int .i64 i)],[(100,⟨0,.hrow,22,1,(List.range n).map fun j=>[zg0 E i j]⟩)]++(Xn 200++Ul 1000 n (zft E i))⟩) (fun i=>i≤n) (fun i=>n - i) 0 (Nat.zero_le _) ?_ ?_
  ·refine FLe.convK [⟨100,some 100,0,⟨0,.hrow,22,1,(List.range n).map fun j=>[zg0 E 0 j]⟩⟩] 1000 n (fun _=>0) (zft E 0) rfl (by unfold zB;omega) rfl zc zc zc (by repeat (first|exact Low.nil|exact Low.fam rfl (by unfold zB;omega)|refine Low.cons rfl ?_)) (fun j hj=>.inr ⟨_,rfl,(Za (C:=[(100,_)]) rfl zg hj).trans ?_,rfl⟩) (.oldH rfl (zcw.of fun j hj=>?_) .nil) zd
   ·unfold zft zfs;rw [zcf]
   ·have hm:=Ys (B:=1000) (s:=fun j=>some (1000+j)) (vo:=fun _=>0) (f:=zft E 0) hj;exact .own (List.mem_append_right _ hm) rfl rfl (by rw [zcf])
  intro i hi;refine za ?_;refine FW.cond rfl (fun h=>?_) (fun h=>?_)
  ·have hlt:i<n:=by simpa using h
   clear h;have hri:zhB E i i=Zs E i E.length:=if_neg zb;have hrl:=VQ E i E.length;have hr1:∀ j,zhB E (i+1) j=if j=i then zy E i else zhB E i j:=fun j=>by
    unfold zhB;by_cases h1:j=i
    ·subst h1;rw [if_pos rfl,if_pos zb]
    ·rw [if_neg h1];by_cases h2:j<i
     ·rw [if_pos h2,if_pos zb]
     ·rw [if_neg h2,if_neg zb]
   obtain ⟨z,hz⟩:∃ z,Zs E i E.length=z:=⟨_,rfl⟩
   have hsl:(z.mergeSort fun x y=>decide (x≤y)).length=z.length:=List.length_mergeSort _;have hsz:zy E i=Lib.compact (z.mergeSort fun x y=>decide (x≤y)):=by rw [← hz];rfl
   rw [hz] at hri hrl;refine FW.le (s':=⟨[(5,.own 100 0 0 n),(32,.int .i64 n),(33,.int .i64 i)],[(100,⟨0,.hrow,22,1,(List.range n).map fun j=>[if j=i then .own 150 0 0 z.length else zg0 E i j]⟩),(150,⟨0,.own,3,1,z.map zj⟩)]++(Xn 200++Ul 1000 n fun j=>if j=i then ⟨0,.own,3,1,[]⟩ else zft E i j)⟩) ?_ ?_
   ·refine yd ?_;refine zG rfl rfl rfl ?_;refine zO rfl rfl rfl ?_;refine yd ?_;refine zG rfl rfl rfl ?_;refine zG rfl rfl rfl ?_;refine yY rfl rfl rfl rfl rfl rfl zg rfl zb rfl rfl ?_;refine zaN rfl rfl rfl rfl (Vv n i _ hlt) rfl rfl ?_;rw [if_pos rfl];refine xe (zfh 0 z zb) [(5000,150)] rfl (zF.cons rfl rfl rfl zF.nil) rfl rfl rfl rfl rfl rfl ?_;rintro _ _ ⟨rfl,h1⟩;refine yH.one [(150,⟨0,.own,3,1,(z.mergeSort fun x y=>decide (x≤y)).map zj⟩)] (.tup []) rfl (congrArg (fun b=>[(150,zn.ren (gOf [(5000,150)]) b)]) h1) ?_;refine yd ?_;refine zG rfl rfl rfl ?_;refine zG rfl rfl rfl ?_;refine zG rfl rfl rfl ?_;refine zG rfl rfl rfl ?_;refine yY rfl rfl rfl rfl rfl rfl zg rfl zb rfl rfl ?_;refine zaN rfl rfl rfl rfl (Vv n i _ hlt) rfl rfl ?_;rw [if_pos rfl];refine xe (zaq 0 (z.mergeSort fun x y=>decide (x≤y)) (by rw [hsl];omega)) [(5000,150)] ?_ (zF.cons rfl rfl rfl zF.nil) rfl rfl rfl rfl rfl rfl ?_
    ·rw [hsl];rfl
    rintro _ _ ⟨rfl,h1⟩;refine yH.one [(150,⟨1,.own,3,1,(zy E i).map zj⟩)] (.own 150 1 0 (zy E i).length) (by rw [hsz];rfl) (by rw [hsz];exact congrArg (fun b=>[(150,zn.ren (gOf [(5000,150)]) b)]) h1) ?_;refine yY rfl rfl rfl rfl rfl rfl zg rfl yv rfl rfl ?_;refine ze6 rfl rfl rfl rfl rfl rfl zg yv rfl ?_;refine yd ?_;refine Xp rfl rfl zb rfl rfl ?_;refine zG rfl rfl rfl ?_;refine yd ?_;rw [Vw];refine ⟨i+1,by omega,by omega,?_⟩;refine FLe.convS [⟨100,some 100,0,⟨0,.hrow,22,1,(List.range n).map fun j=>[zg0 E (i+1) j]⟩⟩] 1000 n i (some 150) (fun j=>if j=i then 1 else 0) (zft E (i+1)) rfl (by unfold zB;omega) rfl zc zc zc (by repeat (first|exact Low.nil|exact Low.fam rfl (by unfold zB;omega)|refine Low.cons rfl ?_)) ?_ ?_ ?_
    ·intro j hj;by_cases hja:j=i
     ·subst hja;rw [if_pos rfl,if_pos rfl];refine .inr ⟨150,rfl,?_,rfl⟩;unfold zft;rw [hr1,if_pos rfl];rfl
     ·rw [if_neg hja,if_neg hja];refine .inr ⟨_,rfl,(Za (C:=[(100,_),(150,_),(150,_),(100,_),(150,_)]) rfl zg hj).trans ?_,rfl⟩;rw [if_neg hja];unfold zft;rw [hr1,if_neg hja]
    ·refine .oldH rfl ?_ .nil;rw [show ((List.range n).map fun j=>if j=i then [FV.own 150 1 0 (zy E i).length] else [if j=i then FV.own 150 0 0 z.length else zg0 E i j])=(List.range n).map fun j=>[if j=i then FV.own 150 1 0 (zy E i).length else zg0 E i j] from List.map_congr_left fun j _=>by
      by_cases hja:j=i
      ·rw [if_pos hja,if_pos hja]
      ·rw [if_neg hja,if_neg hja,if_neg hja]]
     refine zcw.of fun j hj=>?_;have hm:=Ys (B:=1000) (s:=fun j=>if j=i then some 150 else some (1000+j)) (vo:=fun j=>if j=i then 1 else 0) (f:=zft E (i+1)) hj;unfold zg0;by_cases hja:j=i
     ·subst hja;simp only [if_pos] at hm;rw [if_pos rfl,hr1,if_pos rfl];exact .own (List.mem_append_right _ hm) rfl rfl rfl
     ·simp only [if_neg hja] at hm;rw [if_neg hja,hr1,if_neg hja];exact .own (List.mem_append_right _ hm) rfl rfl rfl
    ·exact zd
   ·refine FLe.convS [⟨100,some 100,0,⟨0,.hrow,22,1,(List.range n).map fun j=>[if j=i then .own 150 0 0 z.length else zg0 E i j]⟩⟩,⟨150,some (1000+i),0,⟨0,.own,3,1,z.map zj⟩⟩] 1000 n i none (fun _=>0) (fun j=>if j=i then ⟨0,.own,3,1,[]⟩ else zft E i j) rfl (by unfold zB;omega) rfl zc (by simp <;> omega) (by simp <;> omega) (by repeat (first|exact Low.nil|exact Low.fam rfl (by unfold zB;omega)|refine Low.cons rfl ?_)) ?_ ?_ ?_
    ·intro j hj;by_cases hja:j=i
     ·rw [if_pos hja,if_pos hja];exact .inl ⟨rfl,rfl,rfl⟩
     ·rw [if_neg hja,if_neg hja];exact .inr ⟨_,rfl,Za (C:=[(100,_)]) rfl zg hj,rfl⟩
    ·refine .oldH rfl (zcw.of fun j hj=>?_) (.old ((Za (C:=[(100,_)]) rfl zg hlt).trans (by unfold zft;rw [hri])) rfl rfl .nil);by_cases hja:j=i
     ·subst hja;rw [if_pos rfl];exact .own (List.mem_cons_of_mem _ (List.mem_cons_self ..)) rfl rfl (by rw [hri])
     ·rw [if_neg hja];have hm:=Ys (B:=1000) (s:=fun j=>if j=i then none else some (1000+j)) (vo:=fun _=>0) (f:=fun j=>if j=i then ⟨0,.own,3,1,[]⟩ else zft E i j) hj;simp only [if_neg hja] at hm;exact .own (List.mem_append_right _ hm) rfl rfl rfl
    ·exact zd
  ·obtain rfl:i=n:=by simp at h;omega
   clear h hi;refine yd ?_;refine zG rfl rfl rfl ?_;refine zO rfl rfl rfl ?_;refine zi.le ?_ ((FLe.deep 100 1000 i (w:=0) (E2:=22) (E:=3) (sz:=1) (fun _=>0) (fun j=>(zhB E i j).map zj) ?_ (fun j hj=>Za (C:=[(100,_)]) rfl zg hj) zg).trans (FLe.share 4 rfl rfl zc))
   ·refine yd ?_;refine FW.ret ⟨.inl rfl,.sh (.cons (.tmp 4 rfl rfl) .nil) ?_ rfl⟩;show FV.list 1 _=FV.list 1 _;refine congrArg (FV.list 1) (List.map_congr_left fun j hj=>?_);rw [show zhB E i j=zy E j from if_pos (List.mem_range.1 hj)]
   ·refine Eq.trans (b:=(⟨0,.hrow,22,1,(List.range i).map fun j=>[zg0 E i j]⟩:zn)) rfl ?_;refine congrArg (fun l=>(⟨0,.hrow,22,1,l⟩:zn)) (List.map_congr_left fun j _=>?_);rw [List.length_map];rfl
theorem zcD {zs:List Int} (h:zs.Pairwise (·≤·)):(Lib.compact zs).Pairwise (· < ·):=by
 unfold Lib.compact Lib.compactUpTo;have hs:(List.range zs.length).Pairwise (· < ·):=List.pairwise_lt_range;rw [List.pairwise_map];refine ((hs.filter (Lib.keeps zs.toArray)).imp_of_mem ?_);intro i j hi hj hij;have hj':=List.mem_filter.1 hj;have hjl:j<zs.length:=List.mem_range.1 hj'.1;have hk:=hj'.2;have hil:i<zs.length:=by omega
 have e1:zs.toArray[i]! = zs[i]:=by simp [hil]
 have e2:zs.toArray[j]! = zs[j]:=by simp [hjl]
 have e3:zs.toArray[j - 1]! = zs[j - 1]:=by simp [show j - 1<zs.length by omega]
 have hk2:zs[j]≠zs[j - 1]:=by
  unfold Lib.keeps at hk;rw [e2,e3] at hk;have:j≠0:=by omega
  simpa [this] using hk
 rw [e1,e2];have h1:zs[i]≤zs[j - 1]:=by
  rcases Nat.lt_or_ge i (j - 1) with hl|hl
  ·exact List.pairwise_iff_getElem.1 h i (j - 1) hil zb hl
  ·have:i=j - 1:=by omega
   subst this;exact Int.le_refl _
 have h2:zs[j - 1]≤zs[j]:=List.pairwise_iff_getElem.1 h (j - 1) j zb hjl zb;omega
theorem zcE {zs:List Int} {y:Int}:y∈Lib.compact zs↔y∈zs:=by
 unfold Lib.compact Lib.compactUpTo;constructor
 ·intro h;obtain ⟨j,hj,rfl⟩:=List.mem_map.1 h;have hjl:j<zs.length:=List.mem_range.1 (List.mem_filter.1 hj).1;have e2:zs.toArray[j]! = zs[j]:=by simp [hjl]
  rw [e2];exact List.getElem_mem hjl
 ·intro h;have key:∀ n j,j≤n→(hj:j<zs.length)→zs[j]=y→∃ k,k∈(List.range zs.length).filter (Lib.keeps zs.toArray)∧zs.toArray[k]! = y:=by
   intro n
   induction n with
   | zero =>
    intro j hjn hj e;have:j=0:=by omega
    subst this;exact ⟨0,List.mem_filter.2 ⟨List.mem_range.2 hj,by simp [Lib.keeps]⟩,by simp [hj,e]⟩
   | succ n ih=>
    intro j hjn hj e;have e2:zs.toArray[j]! = zs[j]:=by simp [hj]
    by_cases hk:Lib.keeps zs.toArray j=true
    ·exact ⟨j,List.mem_filter.2 ⟨List.mem_range.2 hj,hk⟩,by rw [e2,e]⟩
    ·have hj0:j≠0:=by rintro rfl;exact hk (by simp [Lib.keeps])
     have e3:zs.toArray[j - 1]! = zs[j - 1]:=by simp [show j - 1<zs.length by omega]
     have:zs[j]=zs[j - 1]:=by
      unfold Lib.keeps at hk;rw [e2,e3] at hk;simpa [hj0] using hk
     exact ih (j - 1) zb zb (by rw [← this];exact e)
  obtain ⟨j,hj,e⟩:=List.getElem_of_mem h;obtain ⟨k,h1,h2⟩:=key j j (Nat.le_refl _) hj e;exact List.mem_map.2 ⟨k,h1,h2⟩
theorem zgJ (zs:List Int):(zs.mergeSort fun x y=>decide (x≤y)).Pairwise (·≤·):=by
 have:=List.pairwise_mergeSort (le:=fun x y:Int=>decide (x≤y)) (by intro a b c h1 h2;simp at *;omega) (by intro a b;simp;omega) zs;exact this.imp (by intro a b h;simpa using h)
end
end Go.Proofs.Ytlnehfplfoikaaa
