/-
  Some texts as one: FmCau6, ShelfZ, FmSortZ, FmCau7, CauPlain, FmPerm, FmCau8.
-/
import Derived.Test.YtmnmakhpjgjdaaaZFmRgM
import Derived.Test.YtmnmakhpjgjdaaaChecked
import Derived.Shelf.SlIterI.Nil
import Derived.Shelf.SortM.Plain
import Derived.Shelf.SortM.SortNone
import Derived.Test.YtmnmakhpjgjdaaaZC
namespace Go.Proofs.Ytmnmakhpjgjdaaa
set_option linter.unusedVariables false
set_option maxHeartbeats 16000000
section
open Go.RowKit
def Zz (P:List (Nat×Nat)) (x:Nat):List Nat:=(P.filter fun e=>decide (e.2=x)).map (·.1)
def zkU (ks:List Nat) (e:Nat×Nat):List Nat:=if e.2∈ks then ks else ks++[e.2]
def xP (X:List (Nat×Nat)):List Nat:=X.foldl zkU []
theorem ziV (X:List (Nat×Nat)) (e:Nat×Nat):xP (X++[e])=if e.2∈xP X then xP X else xP X++[e.2]:=by
 unfold xP;rw [List.foldl_append];rfl
theorem zhH:∀ (X:List (Nat×Nat)) (ks:List Nat),ks.Nodup→(X.foldl zkU ks).Nodup
 | [], _, h => h
 | e :: X, ks, h => zhH X _ (by
  unfold zkU;split
  ·exact h
  ·rename_i hk;exact List.nodup_append.2 ⟨h,by simp,fun x hx y hy=>by rw [List.mem_singleton.1 hy];exact fun e=>hk (e▸hx)⟩)
theorem zhG (X:List (Nat×Nat)):(xP X).Nodup:=zhH X [] List.nodup_nil
theorem zff (q:Nat):∀ (X:List (Nat×Nat)) (ks:List Nat),q∈X.foldl zkU ks↔q∈ks∨∃ e∈X,e.2=q
 | [], ks => by simp
 | e ::X,ks=>by
  rw [List.foldl_cons,zff q X];unfold zkU;split
  ·rename_i h;constructor
   ·rintro (h1|⟨e',h1,h2⟩)
    ·exact .inl h1
    ·exact .inr ⟨e',by simp [h1],h2⟩
   ·rintro (h1|⟨e',h1,h2⟩)
    ·exact .inl h1
    ·rcases List.mem_cons.1 h1 with rfl|h1
     ·exact .inl (h2▸h)
     ·exact .inr ⟨e',h1,h2⟩
  ·constructor
   ·rintro (h1|⟨e',h1,h2⟩)
    ·rcases List.mem_append.1 h1 with h1|h1
     ·exact .inl h1
     ·exact .inr ⟨e,by simp,(List.mem_singleton.1 h1).symm⟩
    ·exact .inr ⟨e',by simp [h1],h2⟩
   ·rintro (h1|⟨e',h1,h2⟩)
    ·exact .inl (by simp [h1])
    ·rcases List.mem_cons.1 h1 with rfl|h1
     ·exact .inl (by simp [h2])
     ·exact .inr ⟨e',h1,h2⟩
theorem YC {q:Nat} {X:List (Nat×Nat)}:q∈xP X↔∃ e∈X,e.2=q:=by unfold xP;rw [zff];simp
theorem Zh (X:List (Nat×Nat)) (e:Nat×Nat) (q:Nat):Zz (X++[e]) q=Zz X q++if e.2=q then [e.1] else []:=by
 unfold Zz;rw [List.filter_append,List.map_append];congr 1;by_cases h:e.2=q
 ·rw [if_pos h,List.filter_cons_of_pos (by simpa using h)];rfl
 ·rw [if_neg h,List.filter_cons_of_neg (by simpa using h)];rfl
theorem zhm {X:List (Nat×Nat)} {q:Nat} (h:q∉xP X):Zz X q=[]:=by
 unfold Zz;rw [List.map_eq_nil_iff,List.filter_eq_nil_iff];intro e he h2;exact h (YC.2 ⟨e,he,by simpa using h2⟩)
def krows (KS:List Nat) (g:Nat→FV):List (List FV):=KS.map fun q:Nat=>[.int .i64 (q:Int),g q]
theorem YD {KS:List Nat} {g:Nat→FV} (h:∀ q∈KS,q<1000):∀ row∈krows KS g,∀ kf,row.head? = some kf→Zy Try.prog 3 kf:=fun row hr kf hk=>by
 obtain ⟨q,hq,rfl⟩:=List.mem_map.1 hr;injection hk with hk
 subst hk;have:=h q hq;exact Zw (by unfold I64;omega)
theorem zfh {KS:List Nat} {g:Nat→FV} {k:Nat} {vf:FV} (hn:KS.Nodup):zj2 (krows KS g) (.int .i64 (k:Int)) vf (krows (if k∈KS then KS else KS++[k]) fun q=>if q=k then vf else g q):=by
 by_cases hk:k∈KS
 ·rw [if_pos hk];obtain ⟨j,hj⟩:=List.getElem?_of_mem hk;refine .inl ⟨j,g k,by unfold krows;rw [List.getElem?_map,hj];rfl,?_⟩;apply List.ext_getElem?;intro i;unfold krows;rw [List.getElem?_set,List.getElem?_map];by_cases hij:j=i
  ·subst hij;rw [if_pos rfl,hj,if_pos (by rw [List.length_map];exact (List.getElem?_eq_some_iff.1 hj).1)];simp
  ·rw [if_neg hij,List.getElem?_map];cases hi:KS[i]? with
   | none => rfl
   | some q =>
    have:q≠k:=fun e=>hij (zkP hn hj (e▸hi));simp [this]
 ·rw [if_neg hk];refine .inr ⟨fun row hr e=>?_,?_⟩
  ·obtain ⟨q,hq,rfl⟩:=List.mem_map.1 hr;simp at e;have:q=k:=by omega
   exact hk (this▸hq)
  ·unfold krows;rw [List.map_append,List.map_singleton];dsimp only;rw [if_pos rfl];congr 1;refine List.map_congr_left fun q hq=>?_;rw [if_neg (fun e:q=k=>hk (e▸hq))]
theorem Ub {KS:List Nat} {g:Nat→FV} {k:Nat} {z:FV}:Xw (krows KS g) (.int .i64 (k:Int)) z (if k∈KS then g k else z) (decide (k∈KS)):=by
 by_cases hk:k∈KS
 ·rw [if_pos hk];exact .inl ⟨by simpa using hk,List.mem_map.2 ⟨k,hk,rfl⟩⟩
 ·rw [if_neg hk];refine .inr ⟨by simpa using hk,rfl,fun row hr e=>?_⟩;obtain ⟨q,hq,rfl⟩:=List.mem_map.1 hr;simp at e;have:q=k:=by omega
  exact hk (this▸hq)
theorem zka.krows {M:List Ent} {KS:List Nat} {g g' : Nat→FV} (h:∀ q∈KS,UL M (g q) (g' q)):zka M (krows KS g) (krows KS g'):=by
 refine ⟨by unfold Go.Proofs.Ytmnmakhpjgjdaaa.krows;simp,fun j row' hr=>?_⟩;unfold Go.Proofs.Ytmnmakhpjgjdaaa.krows at hr ⊢;rw [List.getElem?_map] at hr;cases hj:KS[j]? with
 | none => rw [hj] at hr; cases hr
 | some q =>
  rw [hj] at hr;injection hr with hr
  subst hr;exact ⟨_,g q,g' q,by rw [List.getElem?_map,hj];rfl,rfl,h q (List.mem_of_getElem? hj)⟩
def gD (X:List (Nat×Nat)) (q:Nat):FV:=.own (1000+q) 0 0 (Zz X q).length
def zhx (X:List (Nat×Nat)) (q:Nat):zq:=⟨0,.own,3,1,(Zz X q).map yp⟩
theorem zhf {A:List (Nat×Nat)} {y:Nat} (h:alk A y=none):∀ p∈A,p.1≠y:=fun p hp e=>by
 unfold alk at h;have:=List.find?_eq_none.1 (Option.map_eq_none_iff.1 h) p hp;simp [e] at this
theorem zhe {A:List (Nat×Nat)} {y:Nat} (h:alk A y=none):∀ row∈A.map yU,row.head?≠some (.int .i64 (y:Int)):=fun row hr e=>by
 obtain ⟨p,hp,rfl⟩:=List.mem_map.1 hr;unfold yU at e;simp at e;exact zhf h p hp za
theorem Yl (A:List (Nat×Nat)) (y:Nat):Xw (A.map yU) (.int .i64 (y:Int)) (.int .i64 0) (.int .i64 (((alk A y).getD 0:Nat):Int)) (alk A y).isSome:=by
 cases h:alk A y with
 | none => exact .inr ⟨rfl, rfl, zhe h⟩
 | some d => exact .inl ⟨rfl, List.mem_map.2 ⟨_, YX h, rfl⟩⟩
theorem YW {A:List (Nat×Nat)} (h:∀ p∈A,p.1<1000):∀ row∈A.map yU,∀ kf,row.head? = some kf→Zy Try.prog 3 kf:=fun row hr kf hk=>by
 obtain ⟨p,hp,rfl⟩:=List.mem_map.1 hr;injection hk with hk
 subst hk;have:=h p hp;exact Zw (by unfold I64;omega)
theorem Yy.hmapK {t:List (Nat×FV)} {ob:List (Nat×zq)} {id ver E sz:Nat} {KS:List Nat} {g g' : Nat→FV} (h:look {} ob id=⟨ver,.hmap,E,sz,krows KS g⟩) (hv:∀ q∈KS,Yy ⟨t,ob⟩ (g q) (g' q)):Yy ⟨t,ob⟩ (.omap id ver) (.smap (krows KS g')):=by
 have ho:(⟨t,ob⟩:FSt).ob id=⟨ver,.hmap,E,sz,krows KS g⟩:=h;have key:∀ (j:Nat) row row',(krows KS g)[j]? = some row→(krows KS g')[j]? = some row'→∃ q∈KS,row=[.int .i64 (q:Int),g q]∧row'=[.int .i64 (q:Int),g' q]:=fun j row row' h1 h2=>by
  unfold krows at h1 h2;rw [List.getElem?_map] at h1 h2;cases hj:KS[j]? with
  | none => rw [hj] at h1; cases h1
  | some q =>
   rw [hj] at h1 h2;injection h1 with h1;injection h2 with h2
   exact ⟨q,List.mem_of_getElem? hj,h1.symm,h2.symm⟩
 refine .hmap (zR ho zg) (by rw [ho]) (by rw [ho];unfold krows;simp) (fun j row row' h1 h2=>?_) (fun j row row' f f' h1 h2 hf hf'=>?_)
 ·rw [ho] at h1;obtain ⟨q,_,rfl,rfl⟩:=key j row row' h1 h2;exact ⟨rfl,rfl⟩
 ·rw [ho] at h1;obtain ⟨q,hq,rfl,rfl⟩:=key j row row' h1 h2;injection hf with hf;injection hf' with hf'
  subst hf;subst hf';exact hv q hq
section
variable {c:Ctx} {ops:Array Oper} {rest:List Oper} {t:List (Nat×FV)} {ob:List (Nat×zq)} {ty:TypeId} {pos:String} {af:Array Edge} {gd:Option (Nat×Bool)} {QS:FSt→Prop}
theorem zlG {T k e id ver E sz:Nat} {x y z:Operand} {kf vf:FV} {es es' : List (List FV)} (K:Maps.Keyed c.P k) (hkk:∀ row∈es,∀ kf,row.head? = some kf→Zy c.P k kf) (hkf:Zy c.P k kf) (hs:zj2 es kf vf es') (hx:(⟨t,ob⟩:FSt).ev x=.omap id ver) (hy:(⟨t,ob⟩:FSt).ev y=kf) (hz:(⟨t,ob⟩:FSt).ev z=vf)
  (hT:(c.ty T).k=.map k e) (hn:vf.hand=none) (hb:(⟨t,ob⟩:FSt).ob id=⟨ver,.mapo,E,sz,es⟩) (hw:zT ops ⟨t,ob⟩ (⟨none,.insert T x y z,ty,pos,af,gd⟩:Oper) true)
  (k:zn c ops rest ⟨t,(id,⟨ver,.mapo,E,sz,es'⟩)::ob⟩ QS):zn c ops ((⟨none,.insert T x y z,ty,pos,af,gd⟩:Oper)::rest) ⟨t,ob⟩ QS:=fun QQ w0 J a w β hQ hF=>by
 unfold wpList;rw [if_pos (hw.model hF)];refine .inl ?_;obtain ⟨W,h2,h3⟩:=za3 (ty:=ty) (pos:=pos) (after:=af) (g:=gd) (dst:=none) hF hT K x y z hx (by rw [hb]) (by rw [hb]) hy hz (by rw [hb];exact hkk) hkf hn (es':=es') (by rw [hb];exact hs);unfold Oper.wp;rw [show (execOp a.eval ⟨none,.insert T x y z,ty,pos,af,gd⟩).run c.P w=.ok .skip W from h2,Oper.upon_skip];rw [hb] at h3;exact k QQ w0 J _ W β hQ h3
end
theorem zcl (l:List OpV) (r2 f1:FV) (K:Nat→Option (List (Nat×Nat))) (n t0:Nat) (hll:l.length=n) (hn:n≤1000) (hK:∀ i L,i<n→K i=some L→L.length≤2000∧∀ p∈L,p.1<n) (ht:t0<n) :
  yD Try.prog 57 [.eptr 4 [[.list 8 (l.map OpV.fv),f1,r2,.list 1 ((List.range n).map fun q=>[xk (K q)])]] 0 0,.int .i64 t0] [] [] (fun res _=>∃ A,Yx (yH K n) t0 n A∧res=.smap (A.map yU)):=by
 refine yD.of_gw (c:=(xx Try.prog zE zt 78)) ⟨Try.func57,rfl,Try.ntmps57,by kernel_rfl⟩ zw (fun res o ⟨A,_,e⟩=>zfk (by rw [e];rfl)) ?_;intro w0 J;change GW _ _ _ _ _ ⟨[(0,.eptr 4 [[.list 8 (l.map OpV.fv),f1,r2,.list 1 ((List.range n).map fun q=>[xk (K q)])]] 0 0),(1,.int .i64 t0)],[]⟩;refine GW.seq ?_;refine zb ?_;change GW _ _ _ _ _ _;refine GW.seq ?_;refine zb ?_;change GW _ _ _ _ _ _;refine GW.le ?_ (FLe.toHM (i:=15) rfl);refine GW.seq ?_;refine zb ?_;refine xR (zcP (.list 8 (l.map OpV.fv)) r2 f1 K n hn (fun i L hi hl=>⟨(hK i L hi hl).1,fun p hp=>Nat.lt_of_lt_of_le ((hK i L hi hl).2 p hp) hn⟩)) [] rfl zJ.nil rfl rfl rfl rfl rfl rfl ?_;rintro _ _ ⟨P,hP,rfl⟩;refine xf.one [] (.list 2 (P.map edf)) rfl rfl ?_;refine zb ?_;have hPn:∀ e∈P,e.1<n∧e.2<n:=fun e he=>by
  obtain ⟨a,ha,h2⟩:=List.mem_flatMap.1 (hP.mem_iff.1 he);obtain ⟨p,hp,rfl⟩:=List.mem_map.1 h2;have ha:=List.mem_range.1 ha;refine ⟨ha,?_⟩;cases hk:K a with
  | none => rw [hk] at hp; cases hp
  | some L => rw [hk] at hp; exact (hK a L ha hk).2 p hp
 have hPl:P.length≤2000000:=by
  have h3:=XZ (K:=K) (i:=n) (n:=n) (Nat.le_refl _) (fun a L ha hl=>(hK a L ha hl).1);have h4:=hP.length_eq;omega
 refine FW.loop (fun i:Nat=>⟨[(0,.eptr 4 [[.list 8 (l.map OpV.fv),f1,r2,.list 1 ((List.range n).map fun q=>[xk (K q)])]] 0 0),(1,.int .i64 t0),(5,.omap 105 0),(17,.list 2 (P.map edf)),(18,.int .i64 P.length),(19,.int .i64 i)],[(105,⟨0,.hmap,112,0,krows (xP (P.take i)) (gD (P.take i))⟩)]++(YJ 200++VY 1000 n (zhx (P.take i)))⟩) (fun i=>i≤P.length) (fun i=>P.length - i) 0 (Nat.zero_le _) ?_ ?_
 ·exact FLe.convN [⟨105,some 15,0+1,⟨0,.hmap,112,0,[]⟩⟩] 1000 n (zhx []) rfl (by unfold zh;omega) rfl zc zc (by repeat (first|exact Low.nil|exact Low.fam rfl (by unfold zh;omega)|refine Low.cons rfl ?_)) (fun j _=>⟨rfl,rfl⟩) (.oldM rfl zka.nil .nil) zd
 intro i hi;refine zb ?_;refine FW.cond rfl (fun h=>?_) (fun h=>?_)
 ·have hlt:i<P.length:=by simpa using h
  clear h;obtain ⟨e,he⟩:∃ e,nth P i=e:=⟨_,rfl⟩
  have hem:=hPn e (by rw [← he];exact zC hlt);have htk:P.take (i+1)=P.take i++[e]:=by rw [List.take_succ_eq_append_getElem hlt,← nth_eq hlt,he]
  obtain ⟨X,hX⟩:∃ X,P.take i=X:=⟨_,rfl⟩
  rw [hX] at htk ⊢;have hXn:∀ q∈xP X,q<1000:=fun q hq=>by
   obtain ⟨e',h1,rfl⟩:=YC.1 hq;rw [← hX] at h1;have:=(hPn e' (List.mem_of_mem_take h1)).2;omega
  refine zb ?_;rw [he];skip;have hlk:=Ub (KS:=xP X) (g:=gD X) (k:=e.2) (z:=.nil);have hst:=fun vf=>zfh (g:=gD X) (k:=e.2) (vf:=vf) (zhG X);have hks:=ziV X e;have hKn:∀ q∈xP X,q<n:=fun q hq=>by
   obtain ⟨e',h1,rfl⟩:=YC.1 hq;rw [← hX] at h1;exact (hPn e' (List.mem_of_mem_take h1)).2
  have hKn2:∀ q∈xP (X++[e]),q<n:=fun q hq=>by
   rw [← htk] at hq;obtain ⟨e',h1,rfl⟩:=YC.1 hq;exact (hPn e' (List.mem_of_mem_take h1)).2
  obtain ⟨KS2,hKS2⟩:∃ KS2,xP (X++[e])=KS2:=⟨_,rfl⟩
  rw [hKS2] at hks hKn2;have hbl:(Zz X e.2).length≤2000000:=by
   have h1:(Zz X e.2).length≤X.length:=by unfold Zz;rw [List.length_map];exact List.length_filter_le ..
   have h2:X.length≤P.length:=by rw [← hX,List.length_take];omega
   have h3:=XZ (K:=K) (i:=n) (n:=n) (Nat.le_refl _) (fun a L ha hl=>(hK a L ha hl).1);have h4:=hP.length_eq;omega
  by_cases hk:e.2∈xP X
  ·rw [if_pos hk] at hks;simp only [if_pos hk] at hst hlk;have hlk:=Ub (KS:=xP X) (g:=(fun q=>if q=e.2 then .own 150 0 0 (Zz X e.2).length else gD X q)) (k:=e.2) (z:=.nil);have hst:∀ vf,zj2 (krows (xP X) (fun q=>if q=e.2 then .own 150 0 0 (Zz X e.2).length else gD X q)) (.int .i64 (e.2:Int)) vf (krows KS2 fun q=>if q=e.2 then vf else if q=e.2 then .own 150 0 0 (Zz X e.2).length else gD X q):=fun vf=>by
    have:=zfh (g:=(fun q=>if q=e.2 then .own 150 0 0 (Zz X e.2).length else gD X q)) (k:=e.2) (vf:=vf) (zhG X);rw [if_pos hk] at this;rw [hks];exact this
   rw [if_pos hk] at hlk;simp only [if_true,ite_true] at hlk;refine FW.le (s':=⟨[(0,.eptr 4 [[.list 8 (l.map OpV.fv),f1,r2,.list 1 ((List.range n).map fun q=>[xk (K q)])]] 0 0),(1,.int .i64 t0),(5,.omap 105 0),(7,.ptr 107 0 0 0),(17,.list 2 (P.map edf)),(18,.int .i64 P.length),(19,.int .i64 i)],[(105,⟨0,.hmap,112,0,krows (xP X) (fun q=>if q=e.2 then .own 150 0 0 (Zz X e.2).length else gD X q)⟩),(107,⟨0,.own,75,2,[edf e]⟩),(150,⟨0,.own,3,1,(Zz X e.2).map yp⟩)]++(YJ 200++VY 1000 n (fun q=>if q=e.2 then (⟨0,.own,3,1,[]⟩:zq) else zhx X q))⟩) ?_ ?_
   ·refine zQ ?_;refine zh4 xw (YD hXn) (Zw (by unfold I64;omega)) hlk rfl rfl rfl rfl rfl rfl rfl rfl ?_;refine zp ?_;refine zc0 (d:=0) xw (YD hXn) (Zw (by unfold I64;omega)) (hst _) rfl rfl rfl rfl rfl rfl ?_;refine zN.nil ⟨by kernel_rfl,?_⟩;refine zb ?_;refine ⟨i+1,by omega,by omega,?_⟩;rw [htk,hKS2];refine FLe.convS [⟨105,some 105,0,⟨0,.hmap,112,0,krows KS2 (gD (X++[e]))⟩⟩] 1000 n e.2 (some 33) (fun q=>if q=e.2 then 1 else 0) (zhx (X++[e])) rfl (by unfold zh;omega) rfl zc zc zc (by repeat (first|exact Low.nil|exact Low.fam rfl (by unfold zh;omega)|refine Low.cons rfl ?_)) ?_ ?_ zd
    ·intro q hq;by_cases hqk:q=e.2
     ·subst hqk;rw [if_pos rfl,if_pos rfl];refine .inr ⟨33,rfl,?_,rfl⟩;unfold zhx;rw [Zh,if_pos rfl,List.map_append];rfl
     ·rw [if_neg hqk,if_neg hqk];refine .inr ⟨_,rfl,(ye (C:=[(105,_),(33,_),(150,_),(32,_),(105,_),(107,_),(150,_)]) rfl zg hq).trans ?_,rfl⟩;show (if q=e.2 then _ else zhx X q)=_;rw [if_neg hqk];unfold zhx;rw [Zh,if_neg (fun h=>hqk h.symm),List.append_nil]
    ·refine .oldM rfl (zka.krows fun q hq=>?_) .nil;have hqn:q<n:=hKn2 q hq;have hmm:=yF (B:=1000) (s:=fun q=>if q=e.2 then some 33 else some (1000+q)) (vo:=fun q=>if q=e.2 then 1 else 0) (f:=zhx (X++[e])) hqn;by_cases hqk:q=e.2
     ·subst hqk;rw [if_pos rfl,if_pos rfl] at hmm;rw [if_pos rfl];unfold gD;refine .own (List.mem_append_right _ hmm) rfl rfl ?_;rw [Zh,if_pos rfl];simp
     ·rw [if_neg hqk,if_neg hqk] at hmm;rw [if_neg hqk];show UL _ (if q=e.2 then _ else gD X q) _;rw [if_neg hqk];unfold gD;refine .own (List.mem_append_right _ hmm) rfl rfl ?_;rw [Zh,if_neg (fun h=>hqk h.symm),List.append_nil]
   ·refine FLe.convS [⟨105,some 105,0,⟨0,.hmap,112,0,krows (xP X) (fun q=>if q=e.2 then .own 150 0 0 (Zz X e.2).length else gD X q)⟩⟩,⟨107,some 7,0+1,⟨0,.own,75,2,[edf e]⟩⟩,⟨150,some (1000+e.2),0,⟨0,.own,3,1,(Zz X e.2).map yp⟩⟩] 1000 n e.2 none (fun _=>0) (fun q=>if q=e.2 then (⟨0,.own,3,1,[]⟩:zq) else zhx X q) rfl (by unfold zh;omega) rfl zc XW XW (by repeat (first|exact Low.nil|exact Low.fam rfl (by unfold zh;omega)|refine Low.cons rfl ?_)) ?_ ?_ zd
    ·intro q hq;by_cases hqk:q=e.2
     ·rw [if_pos hqk,if_pos hqk];exact .inl ⟨rfl,rfl,rfl⟩
     ·rw [if_neg hqk,if_neg hqk];exact .inr ⟨_,rfl,(ye (C:=[(7,_),(7,_),(105,_)]) rfl zg hq).trans rfl,rfl⟩
    ·refine .oldM rfl (zka.krows fun q hq=>?_) (.old rfl zg rfl (.old ((ye (C:=[(7,_),(7,_),(105,_)]) rfl zg hem.2).trans rfl) zg rfl .nil));have hqn:q<n:=hKn q hq;have hmm:=yF (B:=1000) (s:=fun q=>if q=e.2 then none else some (1000+q)) (vo:=fun _=>0) (f:=(fun q=>if q=e.2 then (⟨0,.own,3,1,[]⟩:zq) else zhx X q)) hqn;by_cases hqk:q=e.2
     ·subst hqk;rw [if_pos rfl];unfold gD;exact .own (.tail _ (.tail _ (.head _))) rfl rfl rfl
     ·rw [if_neg hqk,if_neg hqk] at hmm;rw [if_neg hqk];unfold gD;exact .own (List.mem_append_right _ hmm) rfl rfl rfl
  ·rw [if_neg hk] at hlk hks;simp only [if_neg hk] at hst;rw [← hks] at hst;have hbn:=zhm hk;refine zQ ?_;refine zh4 xw (YD hXn) (Zw (by unfold I64;omega)) hlk rfl rfl rfl rfl rfl rfl rfl rfl ?_;refine zp ?_;refine zc0 (d:=0) xw (YD hXn) (Zw (by unfold I64;omega)) (hst _) rfl rfl rfl rfl rfl rfl ?_;refine zN.nil ⟨by kernel_rfl,?_⟩;refine zb ?_;refine ⟨i+1,by omega,by omega,?_⟩;rw [htk,hKS2];refine FLe.convS [⟨105,some 105,0,⟨0,.hmap,112,0,krows KS2 (gD (X++[e]))⟩⟩] 1000 n e.2 (some 33) (fun q=>if q=e.2 then 1 else 0) (zhx (X++[e])) rfl (by unfold zh;omega) rfl zc zc zc (by repeat (first|exact Low.nil|exact Low.fam rfl (by unfold zh;omega)|refine Low.cons rfl ?_)) ?_ ?_ zd
   ·intro q hq;by_cases hqk:q=e.2
    ·subst hqk;rw [if_pos rfl,if_pos rfl];refine .inr ⟨33,rfl,?_,rfl⟩;unfold zhx;rw [Zh,if_pos rfl,hbn,List.nil_append];rfl
    ·rw [if_neg hqk,if_neg hqk];refine .inr ⟨_,rfl,(ye (C:=[(105,_),(33,_),(32,_),(7,_),(7,_),(105,_)]) rfl zg hq).trans ?_,rfl⟩;unfold zhx;rw [Zh,if_neg (fun h=>hqk h.symm),List.append_nil]
   ·refine .oldM rfl (zka.krows fun q hq=>?_) .nil;have hqn:q<n:=hKn2 q hq;have hmm:=yF (B:=1000) (s:=fun q=>if q=e.2 then some 33 else some (1000+q)) (vo:=fun q=>if q=e.2 then 1 else 0) (f:=zhx (X++[e])) hqn;by_cases hqk:q=e.2
    ·subst hqk;rw [if_pos rfl,if_pos rfl] at hmm;rw [if_pos rfl];unfold gD;refine .own (List.mem_append_right _ hmm) rfl rfl ?_;rw [Zh,if_pos rfl,hbn,List.nil_append];simp
    ·rw [if_neg hqk,if_neg hqk] at hmm;rw [if_neg hqk];unfold gD;refine .own (List.mem_append_right _ hmm) rfl rfl ?_;rw [Zh,if_neg (fun h=>hqk h.symm),List.append_nil]
 ·have hie:i=P.length:=by simp at h;omega
  subst hie;clear h hi;rw [List.take_length];refine zb ?_;change GW _ _ _ _ _ _;refine GW.le (s':=⟨[(0,.eptr 4 [[.list 8 (l.map OpV.fv),f1,r2,.list 1 ((List.range n).map fun q=>[xk (K q)])]] 0 0),(1,.int .i64 t0),(5,.smap (krows (xP P) fun q=>.list 1 ((Zz P q).map yp)))],[]⟩) ?_ (FLe.freeze (Low.gh (by repeat (first|exact Low.nil|exact Low.fam rfl (by unfold zh;omega)|refine Low.cons rfl ?_))) (.cons rfl (.plain rfl) rfl (.cons rfl (.plain rfl) rfl (.cons rfl (Yy.hmapK rfl fun q hq=>?_) rfl .nil))))
  ·refine GW.seq ?_;refine zb ?_;refine zlG xw (fun row hr=>by cases hr) (Zw (by unfold I64;omega)) (.inr ⟨fun row hr=>(by cases hr),rfl⟩) rfl rfl rfl rfl rfl rfl rfl ?_;refine zb ?_;change GW _ _ _ _ _ _;refine GW.le (s':=⟨[(0,.eptr 4 [[.list 8 (l.map OpV.fv),f1,r2,.list 1 ((List.range n).map fun q=>[xk (K q)])]] 0 0),(1,.int .i64 t0),(5,.smap (krows (xP P) fun q=>.list 1 ((Zz P q).map yp))),(8,.omap 106 0)],[(106,⟨0,.mapo,67,0,[(t0,0)].map yU⟩)]⟩) ?_ (FLe.cv [⟨106,some 35,0+1,⟨0,.mapo,67,0,[(t0,0)].map yU⟩⟩] zf zd);refine GW.seqG ?_;change GW _ _ _ (.region _ ([_,_,_,_,_,_]++([_,_]:List Oper)).toArray false) _ _;refine GW.make (n:=n+1) (dir:=.both) (e:=3) (ag:=false) zj rfl (by show 8 * (n+1)≤_;omega) za zg ?_;refine zb ?_;refine ⟨by show FV.int .i64 ((l.length:Int)+1)=_;rw [hll];rfl,?_⟩;rintro ⟨d,cid,cap⟩ hd hcap hout a w hch;dsimp only at hd hcap;subst hd;subst hcap;obtain ⟨h,hh⟩:∃ h:Ch,h=⟨9,cid,n+1⟩:=⟨_,rfl⟩
   rw [← hh] at hch hout;refine wp_mono (Q:=fun e a' w'=>∃ s' q',((e=.ret∨e=.normal)∧∃ res,znA (xx Try.prog zE zt 78) Try.f57 s' res∧∃ A,Yx (yH K n) t0 n A∧res=.smap (A.map yU))∧ChR (xx Try.prog zE zt 78) w0 J h q' s' a' w') ?_ (fun e a' w' ⟨s',q',hq,hr⟩=>let ⟨β,hf⟩:=hout _ _ _ _ hr;⟨s',β,hq,hf⟩);refine (show CW (xx Try.prog zE zt 78) w0 J h _ (fun e s' q'=>((e=.ret∨e=.normal)∧∃ res,znA (xx Try.prog zE zt 78) Try.f57 s' res∧∃ A,Yx (yH K n) t0 n A∧res=.smap (A.map yU))) ⟨_,_⟩ [] from ?_) a w hch;refine CW.seq ?_;subst hh;refine CW.send (h:=⟨9,cid,n+1⟩) rfl (by show 0<n+1;omega) ⟨by decide,by decide,by decide,by show 45≠9;decide,by show 46≠9;decide⟩ ?_;refine CW.seq ?_;refine CW.block ?_;refine CW.loop (fun x:List (Nat×Nat)×List (Nat×Nat)=>⟨[(5,.smap (krows (xP P) fun q=>.list 1 ((Zz P q).map yp))),(8,.omap 106 0)],[(106,⟨0,.mapo,67,0,(x.1++x.2).map yU⟩)]⟩) (fun x=>x.2.map fun y=>(y.1:Int)) (fun x=>zl9 (yH K n) t0 n x.1 x.2) (fun x=>n - x.1.length) ([],[(t0,0)]) (.start ht) rfl ?_ ?_
   ·exact (FLe.cv [⟨106,some 106,0,⟨0,.mapo,67,0,[(t0,0)].map yU⟩⟩] zf zd)
   rintro ⟨D,q⟩ hI;dsimp only at hI ⊢;refine CW.seq ?_;refine CW.seq ?_;refine CW.len (h:=⟨9,cid,n+1⟩) (dir:=.both) (e:=3) zj ⟨by decide,by decide⟩ zj ?_;refine zb ?_;change CW _ _ _ _ _ _ _ _;refine CW.cond rfl (fun h=>?_) (fun h=>?_)
   ·refine CW.skip ?_;cases q with
    | nil => simp at h
    | cons xd q=>
     obtain ⟨x,d⟩:=xd;clear h;have hX0:=hI.take;have hxm:(x,d)∈D++(x,d)::q:=by simp
     have hlen:=hX0.len;refine CW.block ?_;refine CW.seq ?_;refine CW.recv (h:=⟨9,cid,n+1⟩) (dir:=.both) (e:=3) (bb:=0) (ag:=false) zj rfl ⟨by decide,by decide,by decide,by show 50≠9;decide,by show 51≠9;decide,by show 10≠9;decide⟩ ?_;refine CW.seq ?_;refine CW.of zj ?_;have hlk:=Ub (KS:=xP P) (g:=fun q=>.list 1 ((Zz P q).map yp)) (k:=x) (z:=.nil);have hPk:∀ q∈xP P,q<1000:=fun q hq=>by
      obtain ⟨e',h1,rfl⟩:=YC.1 hq;have:=(hPn e' h1).2;omega
     have hxn:x<n:=(hX0.rng _ hxm).1;have hdb:d≤1000:=by have:=(hX0.rng _ hxm).2;dsimp only at this;omega
     have hbP:∀ y,y∈Zz P x↔(y,x)∈yH K n:=fun y=>by
      rw [← hP.mem_iff];unfold Zz;rw [List.mem_map];constructor
      ·rintro ⟨⟨a,b⟩,he,rfl⟩;obtain ⟨h1,h2⟩:=List.mem_filter.1 he;simp at h2;rw [← h2];exact h1
      ·intro he;exact ⟨(y,x),List.mem_filter.2 ⟨he,by simp⟩,rfl⟩
     by_cases hk:x∈xP P
     ·rw [if_pos hk] at hlk;refine zb ?_;refine VH (e:=22) xw (YD hPk) (Zw (by unfold I64;omega)) hlk rfl rfl rfl rfl rfl rfl rfl ?_;refine zb ?_;change CW _ _ _ _ _ _ _ _;have hbl:(Zz P x).length≤2000000:=by
       have h1:(Zz P x).length≤P.length:=by unfold Zz;rw [List.length_map];exact List.length_filter_le ..
       omega
      refine CW.block ?_;refine CW.loop (fun z:Nat×List (Nat×Nat)=>⟨[(5,.smap (krows (xP P) fun q=>.list 1 ((Zz P q).map yp))),(8,.omap 106 0),(10,.int .i64 x),(54,.list 1 ((Zz P x).map yp)),(55,.int .i64 (Zz P x).length),(56,.int .i64 z.1)],[(106,⟨0,.mapo,67,0,(D++(x,d)::z.2).map yU⟩)]⟩) (fun z=>z.2.map fun y=>(y.1:Int)) (fun z=>z.1≤(Zz P x).length∧zj0 (yH K n) t0 n D x d z.2 ((Zz P x).take z.1)) (fun z=>(Zz P x).length - z.1) (0,q) ⟨Nat.zero_le _,hX0⟩ rfl ?_ ?_
      ·exact (FLe.cv [⟨106,some 106,0,⟨0,.mapo,67,0,(D++(x,d)::q).map yU⟩⟩] zf zd)
      rintro ⟨j,u⟩ ⟨hj,hX⟩;dsimp only at hj hX ⊢;have hBl:=hX.len;have hBk:∀ p∈D++(x,d)::u,p.1<n:=fun p hp=>(hX.rng p hp).1;have hBx:alk (D++(x,d)::u) x=some d:=zer hX.nd zc;have hul:u.length+1≤(D++(x,d)::u).length:=by simp
      have hst:∀ h:j<(Zz P x).length,(Zz P x).take (j+1)=(Zz P x).take j++[nth (Zz P x) j]:=fun h=>by rw [List.take_succ_eq_append_getElem h,nth_eq h]
      obtain ⟨B,hB⟩:∃ B,D++(x,d)::u=B:=⟨_,rfl⟩
      rw [hB] at hBl hBk hBx hul;rw [hB];refine CW.seq ?_;refine CW.of zj ?_;refine zb ?_;change CW _ _ _ _ _ _ _ _;refine CW.seq ?_;refine CW.cond rfl (fun h=>?_) (fun h=>?_)
      ·have hjl:j<(Zz P x).length:=by simpa using h
       clear h;refine CW.skip ?_;refine CW.seq ?_;refine CW.block ?_;refine CW.seq ?_;refine CW.of zj ?_;refine zb ?_;change CW _ _ _ _ _ _ _ _;obtain ⟨y,hy⟩:∃ y,nth (Zz P x) j=y:=⟨_,rfl⟩
       have hym:y∈Zz P x:=by rw [← hy];exact zC hjl
       have hyE:=(hbP y).1 hym;have hyn:y<n:=(hPn _ (hP.mem_iff.2 hyE)).1;have hst:=hst hjl;rw [hy] at hst;rw [hy];have hBk2:∀ p∈B,p.1<1000:=fun p hp=>Nat.lt_of_lt_of_le (hBk p hp) hn;have hly:=Yl B y;have hlx:=Yl B x;rw [hBx] at hlx;refine CW.seq ?_;refine CW.of zj ?_;refine zb ?_;refine XO (e:=3) xw (YW hBk2) (Zw (by unfold I64;omega)) hly rfl rfl zg rfl rfl rfl rfl rfl rfl ?_;refine zb ?_;change CW _ _ _ _ _ _ _ _;refine CW.seq ?_;refine CW.of zj ?_;refine zb ?_;change CW _ _ _ _ _ _ _ _;refine CW.cond rfl (fun h=>?_) (fun h=>?_)
       ·have hno:alk B y=none:=by cases ha:alk B y with|none=>rfl|some d=>rw [ha] at h;cases h
        rw [hno];refine CW.seq ?_;refine CW.of zj ?_;refine zb ?_;refine zfV (e:=3) xw (YW hBk2) (Zw (by unfold I64;omega)) hlx rfl rfl zg rfl rfl rfl rfl rfl rfl ?_;rw [Option.getD_some];refine zb ?_;refine Ye xw (YW hBk2) (Zw (by unfold I64;omega)) (show zj2 (B.map yU) (.int .i64 (y:Int)) (.int .i64 ((d:Int)+1)) (B.map yU++[[.int .i64 (y:Int),.int .i64 ((d:Int)+1)]]) from .inr ⟨zhe hno,rfl⟩) rfl rfl rfl rfl rfl rfl rfl ?_;refine zb ?_;change CW _ _ _ _ _ _ _ _;refine CW.send (h:=⟨9,cid,n+1⟩) rfl (by rw [List.length_map];show u.length<n+1;omega) ⟨by decide,by decide,by decide,by show 74≠9;decide,by show 75≠9;decide⟩ ?_;change CW _ _ _ _ _ _ _ _;refine CW.of zj ?_;refine zb ?_;refine ⟨(j+1,u++[(y,d+1)]),⟨hjl,?_⟩,by show (Zz P x).length - (j+1)<(Zz P x).length - j;omega,by simp,?_⟩
        ·rw [hst];exact hX.push hyn hyE (by rw [hB];exact zhf hno)
        dsimp only;rw [show (D++(x,d)::(u++[(y,d+1)])).map yU=B.map yU++[[.int .i64 (y:Int),.int .i64 ((d:Int)+1)]] by rw [← hB];simp [yU]];generalize B.map yU++[[FV.int .i64 (y:Int),.int .i64 ((d:Int)+1)]]=ES;show FLe _ ⟨[(5,.smap (krows (xP P) fun q=>.list 1 ((Zz P q).map yp))),(8,.omap 106 0),(10,.int .i64 x),(54,.list 1 ((Zz P x).map yp)),(55,.int .i64 (Zz P x).length),(56,.int .i64 (j+1:Nat))],[(106,⟨0,.mapo,67,0,ES⟩)]⟩;exact (FLe.cv [⟨106,some 106,0,⟨0,.mapo,67,0,ES⟩⟩] zf zd)
       ·refine CW.skip ?_;change CW _ _ _ _ _ _ _ _;refine CW.of zj ?_;refine zb ?_;obtain ⟨d',hd'⟩:∃ d',alk B y=some d':=by cases ha:alk B y with|none=>rw [ha] at h;cases h|some d'=>exact ⟨d',rfl⟩
        refine ⟨(j+1,u),⟨hjl,?_⟩,by show (Zz P x).length - (j+1)<(Zz P x).length - j;omega,rfl,?_⟩
        ·rw [hst];exact hX.seen (by rw [hB];exact YX hd')
        dsimp only;rw [hB];exact (FLe.cv [⟨106,some 106,0,⟨0,.mapo,67,0,B.map yU⟩⟩] zf zd)
      ·refine CW.exit ?_;have hje:j=(Zz P x).length:=by simp at h;omega
       rw [hje,List.take_length] at hX;refine ⟨(D++[(x,d)],u),hX.done fun y hy=>(hbP y).2 hy,by show n - (D++[(x,d)]).length<n - D.length;rw [← hB] at hBl;simp at hBl ⊢;omega,rfl,?_⟩;dsimp only;rw [show D++[(x,d)]++u=B by rw [← hB];simp];exact (FLe.cv [⟨106,some 106,0,⟨0,.mapo,67,0,B.map yU⟩⟩] zf zd)
     ·rw [if_neg hk] at hlk;refine zb ?_;refine VH (e:=22) xw (YD hPk) (Zw (by unfold I64;omega)) hlk rfl rfl rfl rfl rfl rfl rfl ?_;refine zb ?_;change CW _ _ _ _ _ _ _ _;refine CW.block ?_;refine CW.loop (fun _:Unit=>⟨[(5,.smap (krows (xP P) fun q=>.list 1 ((Zz P q).map yp))),(8,.omap 106 0),(55,.int .i64 0),(56,.int .i64 0)],[(106,⟨0,.mapo,67,0,(D++(x,d)::q).map yU⟩)]⟩) (fun _=>q.map fun y=>(y.1:Int)) (fun _=>True) (fun _=>0) () trivial rfl ?_ ?_
      ·exact (FLe.cv [⟨106,some 106,0,⟨0,.mapo,67,0,(D++(x,d)::q).map yU⟩⟩] zf zd)
      rintro _ _;refine CW.seq ?_;refine CW.of zj ?_;refine zb ?_;change CW _ _ _ _ _ _ _ _;refine CW.seq ?_;refine CW.cond rfl (fun h=>absurd h zg) (fun h=>?_);refine CW.exit ?_;have hnb:Zz P x=[]:=zhm hk;refine ⟨(D++[(x,d)],q),hX0.done (fun y hy=>by have:=(hbP y).2 hy;rw [hnb] at this;cases this),by show n - (D++[(x,d)]).length<n - D.length;simp at hlen ⊢;omega,rfl,?_⟩;dsimp only;rw [show D++[(x,d)]++q=D++(x,d)::q by simp];exact (FLe.cv [⟨106,some 106,0,⟨0,.mapo,67,0,(D++(x,d)::q).map yU⟩⟩] zf zd)
   ·refine CW.exit ?_;change CW _ _ _ _ _ _ _ _;refine CW.of zj ?_;refine zb ?_;have hq0:q=[]:=by cases q with|nil=>rfl|cons y q=>simp at h
    subst hq0;rw [List.append_nil];refine FW.le (s':=⟨[(4,.smap (D.map yU))],[]⟩) (FW.ret ⟨.inl rfl,_,.tmp rfl rfl,D,hI.finish,rfl⟩) ?_;exact FLe.freeze (Low.gh (by repeat (first|exact Low.nil|exact Low.fam rfl (by unfold zh;omega)|refine Low.cons rfl ?_))) (.cons rfl (Yy.omapP rfl) rfl .nil)
  ·have hqn:q<n:=by
    obtain ⟨e',h1,rfl⟩:=YC.1 hq;exact (hPn e' h1).2
   exact Yy.ownP ((ye (C:=[(105,_)]) rfl zg hqn).trans rfl) zc (fun e he=>by obtain ⟨q,_,rfl⟩:=List.mem_map.1 he;rfl) (fun g hg=>by obtain ⟨e,he,hg⟩:=List.mem_flatten.1 hg;obtain ⟨q,_,rfl⟩:=List.mem_map.1 he;rw [List.mem_singleton.1 hg];rfl)
end
section
open Go.Shelf
def zfM:Go.Shelf.Ren:=
{
 f:=fun x=>
  match x with
  | 7 => 74
  | 10 => 85
  | n => n,
 t:=fun x=>
  match x with
  | 23 => 67
  | 26 => 3
  | 3 => 3
  | 28 => 116
  | 0 => 0
  | 27 => 115
  | 33 => 72
  | 4 => 4
  | n => n,
 g:=fun x=>
  have n:=x;
  n }
theorem zcF:SlLaysZI.n7 Try.prog zfM where
 mixed:=by kernel_rfl
 f7:=⟨"maps.Keys[map[int]int,int,int]",by decide,by kernel_rfl⟩
 f10:=⟨"maps.Keys[map[int]int,int,int]$1",by decide,by kernel_rfl⟩
 t0:=by kernel_rfl
 a0:=fun _=>by kernel_rfl
 z0:=fun _=>by kernel_rfl
 v0:=fun _=>by kernel_rfl
 t4:=by kernel_rfl
 a4:=fun _=>by kernel_rfl
 z4:=fun _=>by kernel_rfl
 v4:=fun _=>by kernel_rfl
 t23:=by kernel_rfl
 a23:=fun _=>by kernel_rfl
 z23:=fun _=>by kernel_rfl
 v23:=fun _=>by kernel_rfl
 t26:=by kernel_rfl
 a26:=fun _=>by kernel_rfl
 z26:=fun _=>by kernel_rfl
 v26:=fun _=>by kernel_rfl
 t27:=by kernel_rfl
 a27:=fun _=>by kernel_rfl
 z27:=fun _=>by kernel_rfl
 v27:=fun _=>by kernel_rfl
 t28:=by kernel_rfl
 a28:=fun _=>by kernel_rfl
 z28:=fun _=>by kernel_rfl
 v28:=fun _=>by kernel_rfl
 t33:=by kernel_rfl
 a33:=fun _=>by kernel_rfl
 z33:=fun _=>by kernel_rfl
 v33:=fun _=>by kernel_rfl
def zbs:Go.Shelf.Ren:=
{
 f:=fun x=>
  match x with
  | 6 => 73
  | 8 => 84
  | 9 => 75
  | 11 => 89
  | 13 => 87
  | 12 => 86
  | 23 => 99
  | 24 => 100
  | 14 => 90
  | 15 => 91
  | 16 => 92
  | 17 => 93
  | 18 => 94
  | 19 => 95
  | 20 => 96
  | 21 => 97
  | 22 => 98
  | 25 => 103
  | 26 => 104
  | 27 => 105
  | 28 => 106
  | 29 => 107
  | 30 => 108
  | 31 => 109
  | n => n,
 t:=fun x=>
  match x with
  | 26 => 3
  | 28 => 116
  | 24 => 22
  | 0 => 0
  | 3 => 3
  | 37 => 132
  | 48 => 145
  | 50 => 147
  | 4 => 4
  | 40 => 139
  | 39 => 138
  | 45 => 90
  | 5 => 5
  | 9 => 9
  | 51 => 152
  | 55 => 156
  | 57 => 158
  | 58 => 159
  | 33 => 72
  | n => n,
 g:=fun x=>
  have n:=x;
  n }
theorem zfj:SlLaysZI.n6 Try.prog zbs where
 mixed:=by kernel_rfl
 f6:=⟨"slices.Sorted[int]",by decide,by kernel_rfl⟩
 f8:=⟨"slices.Collect[int]",by decide,by kernel_rfl⟩
 f11:=⟨"slices.AppendSeq[[]int,int]",by decide,by kernel_rfl⟩
 t0:=by kernel_rfl
 a0:=fun _=>by kernel_rfl
 z0:=fun _=>by kernel_rfl
 v0:=fun _=>by kernel_rfl
 t24:=by kernel_rfl
 a24:=fun _=>by kernel_rfl
 z24:=fun _=>by kernel_rfl
 v24:=fun _=>by kernel_rfl
 t26:=by kernel_rfl
 a26:=fun _=>by kernel_rfl
 z26:=fun _=>by kernel_rfl
 v26:=fun _=>by kernel_rfl
 t28:=by kernel_rfl
 a28:=fun _=>by kernel_rfl
 z28:=fun _=>by kernel_rfl
 v28:=fun _=>by kernel_rfl
 i26:=by kernel_rfl
def zlw:Go.Shelf.Ren:=
{
 f:=fun x=>
  match x with
  | 5 => 75
  | 8 => 87
  | 7 => 86
  | 19 => 99
  | 20 => 100
  | 10 => 90
  | 11 => 91
  | 12 => 92
  | 13 => 93
  | 14 => 94
  | 15 => 95
  | 16 => 96
  | 17 => 97
  | 18 => 98
  | 30 => 103
  | 31 => 104
  | 32 => 105
  | 33 => 106
  | 34 => 107
  | 35 => 108
  | 40 => 109
  | n => n,
 t:=fun x=>
  match x with
  | 23 => 22
  | 25 => 3
  | 3 => 3
  | 32 => 132
  | 22 => 22
  | 0 => 0
  | 44 => 145
  | 46 => 147
  | 4 => 4
  | 36 => 139
  | 35 => 138
  | 41 => 90
  | 5 => 5
  | 9 => 9
  | 53 => 152
  | 57 => 156
  | 63 => 158
  | 64 => 159
  | n => n,
 g:=fun x=>
  have n:=x;
  n }
theorem zcG:SlLaysM.n5 Try.prog zlw where
 mixed:=by kernel_rfl
 f5:=⟨"slices.Sort[[]int,int]",by decide,by kernel_rfl⟩
 f7:=⟨"slices.pdqsortOrdered[int]",by decide,by kernel_rfl⟩
 f8:=by kernel_rfl
 f10:=⟨"slices.insertionSortOrdered[int]",by decide,by kernel_rfl⟩
 f11:=⟨"slices.heapSortOrdered[int]",by decide,by kernel_rfl⟩
 f12:=⟨"slices.breakPatternsOrdered[int]",by decide,by kernel_rfl⟩
 f13:=⟨"slices.choosePivotOrdered[int]",by decide,by kernel_rfl⟩
 f14:=⟨"slices.reverseRangeOrdered[int]",by decide,by kernel_rfl⟩
 f15:=⟨"slices.partialInsertionSortOrdered[int]",by decide,by kernel_rfl⟩
 f16:=⟨"cmp.Less[int]",by decide,by kernel_rfl⟩
 f17:=⟨"slices.partitionEqualOrdered[int]",by decide,by kernel_rfl⟩
 f18:=⟨"slices.partitionOrdered[int]",by decide,by kernel_rfl⟩
 f19:=by kernel_rfl
 f20:=by kernel_rfl
 f30:=⟨"slices.siftDownOrdered[int]",by decide,by kernel_rfl⟩
 f31:=by kernel_rfl
 f32:=by kernel_rfl
 f33:=⟨"slices.medianAdjacentOrdered[int]",by decide,by kernel_rfl⟩
 f34:=⟨"slices.medianOrdered[int]",by decide,by kernel_rfl⟩
 f35:=⟨"cmp.isNaN[int]",by decide,by kernel_rfl⟩
 f40:=⟨"slices.order2Ordered[int]",by decide,by kernel_rfl⟩
 t0:=by kernel_rfl
 a0:=fun _=>by kernel_rfl
 z0:=fun _=>by kernel_rfl
 v0:=fun _=>by kernel_rfl
 t3:=by kernel_rfl
 a3:=fun _=>by kernel_rfl
 z3:=fun _=>by kernel_rfl
 v3:=fun _=>by kernel_rfl
 t4:=by kernel_rfl
 a4:=fun _=>by kernel_rfl
 z4:=fun _=>by kernel_rfl
 v4:=fun _=>by kernel_rfl
 t5:=by kernel_rfl
 a5:=fun _=>by kernel_rfl
 z5:=fun _=>by kernel_rfl
 v5:=fun _=>by kernel_rfl
 t9:=by kernel_rfl
 a9:=fun _=>by kernel_rfl
 z9:=fun _=>by kernel_rfl
 v9:=fun _=>by kernel_rfl
 t22:=by kernel_rfl
 a22:=fun _=>by kernel_rfl
 z22:=fun _=>by kernel_rfl
 v22:=fun _=>by kernel_rfl
 t23:=by kernel_rfl
 a23:=fun _=>by kernel_rfl
 z23:=fun _=>by kernel_rfl
 v23:=fun _=>by kernel_rfl
 t25:=by kernel_rfl
 a25:=fun _=>by kernel_rfl
 z25:=fun _=>by kernel_rfl
 v25:=fun _=>by kernel_rfl
 t32:=by kernel_rfl
 a32:=fun _=>by kernel_rfl
 z32:=fun _=>by kernel_rfl
 v32:=fun _=>by kernel_rfl
 t35:=by kernel_rfl
 a35:=fun _=>by kernel_rfl
 z35:=fun _=>by kernel_rfl
 v35:=fun _=>by kernel_rfl
 t36:=by kernel_rfl
 a36:=fun _=>by kernel_rfl
 z36:=fun _=>by kernel_rfl
 v36:=fun _=>by kernel_rfl
 t41:=by kernel_rfl
 a41:=fun _=>by kernel_rfl
 z41:=fun _=>by kernel_rfl
 v41:=fun _=>by kernel_rfl
 t44:=by kernel_rfl
 a44:=fun _=>by kernel_rfl
 z44:=fun _=>by kernel_rfl
 v44:=fun _=>by kernel_rfl
 t46:=by kernel_rfl
 a46:=fun _=>by kernel_rfl
 z46:=fun _=>by kernel_rfl
 v46:=fun _=>by kernel_rfl
 t53:=by kernel_rfl
 a53:=fun _=>by kernel_rfl
 z53:=fun _=>by kernel_rfl
 v53:=fun _=>by kernel_rfl
 t57:=by kernel_rfl
 a57:=fun _=>by kernel_rfl
 z57:=fun _=>by kernel_rfl
 v57:=fun _=>by kernel_rfl
 t63:=by kernel_rfl
 a63:=fun _=>by kernel_rfl
 z63:=fun _=>by kernel_rfl
 v63:=fun _=>by kernel_rfl
 t64:=by kernel_rfl
 a64:=fun _=>by kernel_rfl
 z64:=fun _=>by kernel_rfl
 v64:=fun _=>by kernel_rfl
end
section
open Go.RowKit Go.Sort
theorem zo6 (m:Nat):AnyZI.SortsIn Try.prog zbs Fence.wide m:=
 ⟨fun blk off cap ss W hH hblk hsz=>callsIn_wide.2 (AnyM.slices_Sort_int zcG blk off cap ss W hH hblk hsz),
 fun p cap W=>callsIn_wide.2 (AnyM.slices_Sort_int_none zcG p cap W)⟩
def WG (L:List (Nat×Nat)):List Int:=(L.map fun p=>(p.1:Int)).mergeSort leI
theorem zdd (L:List (Nat×Nat)):(WG L).Perm (L.map fun p=>(p.1:Int)):=List.mergeSort_perm _ _
theorem zl1 (L:List (Nat×Nat)):(WG L).Pairwise (·≤·):=by
 have:=List.pairwise_mergeSort (le:=leI) (fun a b c h1 h2=>by simp only [leI,decide_eq_true_eq] at *;omega) (fun a b=>by simp only [leI,Bool.or_eq_true,decide_eq_true_eq];omega) (L.map fun p=>(p.1:Int));exact this.imp fun h=>by simpa [leI] using h
theorem zkw {w:World} {I:Nat→Prop} {b clock:Nat} {ents:Array MapEntry} {L:List (Nat×Nat)} (hM:Mp w I b clock ents (L.map yU)):ents.toList.map (·.key)=L.map fun p=>Value.int .i64 (p.1:Int):=by
 have hl:=hM.sz;rw [List.length_map] at hl;apply List.ext_getElem?;intro j;rw [List.getElem?_map,List.getElem?_map];rcases Nat.lt_or_ge j L.length with hj|hj
 ·have h1:ents[j]? = some ents[j]:=by simp [hl,hj]
  obtain ⟨kf,vf,h2,_,h4,_⟩:=hM.row h1;rw [List.getElem?_map,List.getElem?_eq_getElem hj] at h2;simp [yU] at h2;rw [List.getElem?_eq_getElem hj,show ents.toList[j]? = some ents[j] by simp [hl,hj]];simp [h4,← h2.1,FV.val,FV.val1]
 ·rw [List.getElem?_eq_none hj,show ents.toList[j]? = none by simp;omega];rfl
section
variable {w:World} {I:Nat→Prop} {b clock:Nat} {ents:Array MapEntry} {L:List (Nat×Nat)}
def zlf (H:Type) (_:Value):Option (DataW H×List MemPlace):=some (.nil,[])
theorem Mp.owns (hM:Mp w I b clock ents (L.map yU)) (hL:∀ p∈L,p.1<1000) (hl:L.length≤1000000):∃ D0:DataW Unit,w.ownsMap Try.prog 3 (zlf Unit) b ents.size D0∧(Go.intKeys D0).Perm (L.map fun p=>(p.1:Int))∧Maps.size D0≤1000000:=by
 have hk:=zkw hM;have hsz:=hM.sz;rw [List.length_map] at hsz;have hkey:∀ x∈ents.toList,∃ p∈L,x.key=Value.int .i64 (p.1:Int):=fun x hx=>by
  have:x.key∈ents.toList.map (·.key):=List.mem_map.2 ⟨x,hx,rfl⟩;rw [hk] at this;obtain ⟨p,hp,e⟩:=List.mem_map.1 this;exact ⟨p,hp,e.symm⟩
 have hrd:∀ x∈ents.toList,∃ p∈L,x.key=Value.int .i64 (p.1:Int)∧WideElems.rd Try.prog 3 (zlf Unit) x=some (.int .i64 (p.1:Int),.nil):=fun x hx=>by
  obtain ⟨p,hp,e⟩:=hkey x hx;refine ⟨p,hp,e,?_⟩;have hko:keyOf Try.prog 3 x.key=some (.int .i64 (p.1:Int)):=by
   rw [e];exact Maps.keyOf_int_mk (q:=.i64) zj (zfn (by have:=hL p hp;unfold I64;omega))
  unfold WideElems.rd zlf;rw [hko];rfl
 have hrg:ents.toList.map (fun x=>(WideElems.rg Try.prog 3 (zlf Unit) x).1)=L.map fun p=>Lit.int .i64 (p.1:Int):=by
  have h1:ents.toList.map (fun x=>(WideElems.rg Try.prog 3 (zlf Unit) x).1)=(ents.toList.map (·.key)).map fun v=>match v with|.int q a=>Lit.int q a|_=>.bool false:=by
   rw [List.map_map];refine List.map_congr_left fun x hx=>?_;obtain ⟨p,hp,e1,e2⟩:=hrd x hx;rw [WideElems.rg_of e2];simp [e1]
  rw [h1,hk,List.map_map];rfl
 refine ⟨_,⟨ents,clock,hM.hb,⟨?_,hM.st,fun x hx=>?_⟩,Nat.le_refl _,rfl⟩,?_,?_⟩
 ·have:maxLen≥1000000:=by decide
  omega
 ·obtain ⟨p,_,_,e2⟩:=hrd x hx;exact ⟨_,e2⟩
 ·show ((ents.toList.map (WideElems.rg Try.prog 3 (zlf Unit))).foldr DataW.insert []).map (fun p=>Go.intOf p.1) |>.Perm _;have h1:=(WideShapes.sorted_perm (ents.toList.map (WideElems.rg Try.prog 3 (zlf Unit)))).map fun p=>Go.intOf p.1;refine h1.trans ?_;rw [List.map_map];have h2:ents.toList.map ((fun p=>Go.intOf p.1)∘WideElems.rg Try.prog 3 (zlf Unit))=(ents.toList.map fun x=>(WideElems.rg Try.prog 3 (zlf Unit) x).1).map Go.intOf:=by rw [List.map_map];rfl
  rw [h2,hrg,List.map_map];exact .of_eq rfl
 ·show ((ents.toList.map (WideElems.rg Try.prog 3 (zlf Unit))).foldr DataW.insert []).length≤_;rw [(WideShapes.sorted_perm _).length_eq,List.length_map,Array.length_toList];omega
end
section
variable {N:Nat} {ops:Array Oper} {rest:List Oper} {t:List (Nat×FV)} {ob:List (Nat×zq)} {QS:FSt→Prop} {c:Ctx}
theorem zd8 {x:Operand} {L:List (Nat×Nat)} {d1 d2 ty1 ty2:Nat} {ts1 ts2:Array TypeId} {p1 p2:String} {af1 af2:Array Edge} (hc:c.P=Try.prog) (hx:(⟨t,ob⟩:FSt).ev x=.smap (L.map yU)) (hL:∀ p∈L,p.1<1000) (hl:L.length≤1000000) (hd:d1<c.N∧d2<c.N)
  (k:zn c ops rest ⟨(d2,.list 1 ((WG L).map zD))::(d1,.undef)::t,ob⟩ QS) :
  zn c ops ((⟨some d1,.call { callee:=.value (.func 74),args:=#[x],argTypes:=ts1 },ty1,p1,af1,none⟩:Oper)::⟨some d2,.call { callee:=.value (.func 73),args:=#[.tmp d1],argTypes:=ts2 },ty2,p2,af2,none⟩::rest) ⟨t,ob⟩ QS:=by
 intro QQ w0 J a w β hQ hF;obtain ⟨b,clock,ents,ea,hM⟩:=hF.smp hx;unfold wpList;rw [if_pos (by unfold Region.wanted;rfl)];refine .inl ?_;unfold Oper.wp;have hgK:znp c.P 74=true:=by rw [hc];kernel_rfl
 have hgS:znp c.P 73=true:=by rw [hc];kernel_rfl
 have hrun1:(execOp a.eval ⟨some d1,.call { callee:=.value (.func 74),args:=#[x],argTypes:=ts1 },ty1,p1,af1,none⟩).run c.P w=.ok (.enter 74 #[.map (some b)]) w:=by
  have h1:=yn (P:=c.P) hgK (#[x].map a.eval) w;have h2:#[x].map a.eval=#[.map (some b)]:=by rw [← ea];simp
  rw [← h2];simp [execOp,resolve,Act.eval,Deferred.ofValue,invoke] at h1 ⊢;exact h1
 rw [hrun1,Oper.upon_enter];have hK:=callsIn_wide.1 (AnyZI.keys_in zcF Fence.wide 5 trivial rfl (some b) w);rw [← hc] at hK;refine Calls.mono hK ?_;rintro e w1 ⟨rfl,rfl⟩;dsimp only;have hbw:Below w.heap.size w (w.alloc (.cells #[.map (some b)] 67)):=(Below.refl _ w).alloc (Nat.le_refl _) _;have hF1:=(hF.grow hbw).put (f:=.undef) (v:=.func (.func 85) #[] #[.pointer (some ⟨w.heap.size,0,none⟩)]) hd.1 (VR.of_rd (.undef _) rfl) (fun id ver hm=>by simp [FV.hands] at hm);obtain ⟨D0,ho1,ho2,ho3⟩:=hM.owns hL hl;have ho4:(w.alloc (.cells #[.map (some b)] 67)).ownsMap Try.prog 3 (zlf Unit) b ents.size D0:=by
  have hbl:=ho1.lt;obtain ⟨es,clock,hb,Ft,hs,hD⟩:=ho1;exact ⟨es,clock,(Below.heap_alloc _ _ b hbl).trans hb,Ft,hs,hD⟩
 have hseq:SeqGives Fence.wide 2 Try.prog 85 #[.pointer (some ⟨w.heap.size,0,none⟩)] encZ (fun ss=>ss.Perm (Go.intKeys D0)) (Maps.size D0) (w.alloc (.cells #[.map (some b)] 67)):=
  AnyZI.keys_gives (ρ:=zfM) { zcF with } Fence.wide _ trivial rfl za w.heap.size b ents.size D0 _ zc zc ho4
 have hS:=AnyZI.sorted_in zfj Fence.wide 5 trivial trivial trivial trivial rfl za (zo6 _) (fun args w=>yn zj args w) 85 #[.pointer (some ⟨w.heap.size,0,none⟩)] trivial (fun args w=>yn zj args w) _ _ (by have:maxLen≥1000000:=zg;omega) za _ hseq;obtain ⟨w1,hw1⟩:∃ w1,w.alloc (.cells #[.map (some b)] 67)=w1:=⟨_,rfl⟩
 obtain ⟨a1,ha1⟩:∃ a1,a.put (some d1) (.func (.func 85) #[] #[.pointer (some ⟨w.heap.size,0,none⟩)])=a1:=⟨_,rfl⟩
 have ev1:a1.eval (.tmp d1)=.func (.func 85) #[] #[.pointer (some ⟨w.heap.size,0,none⟩)]:=by
  show a1.tmps.getD d1 undef=_;rw [← ha1,yo _ _ _ _ (hF.size▸hd.1),if_pos rfl]
 rw [hw1] at hF1 hS;rw [ha1] at hF1;show wpList c.P ops QQ _ (a.put (some d1) (.func (.func 85) #[] #[.pointer (some ⟨w.heap.size,0,none⟩)])) (w.alloc (.cells #[.map (some b)] 67));rw [ha1,hw1];unfold wpList;rw [if_pos (by unfold Region.wanted;rfl)];refine .inl ?_;unfold Oper.wp;have hrun2:(execOp a1.eval ⟨some d2,.call { callee:=.value (.func 73),args:=#[.tmp d1],argTypes:=ts2 },ty2,p2,af2,none⟩).run c.P w1=.ok (.enter 73 #[.func (.func 85) #[] #[.pointer (some ⟨w.heap.size,0,none⟩)]]) w1:=by
  have h1:=yn (P:=c.P) hgS (#[.tmp d1].map a1.eval) w1;have h2:#[.tmp d1].map a1.eval=#[.func (.func 85) #[] #[.pointer (some ⟨w.heap.size,0,none⟩)]]:=by rw [← ev1];simp
  rw [← h2];simp [execOp,resolve,Act.eval,Deferred.ofValue,invoke] at h1 ⊢;exact h1
 rw [hrun2,Oper.upon_enter];have hS2:=callsIn_wide.1 hS;rw [← hc] at hS2;refine Calls.mono hS2 ?_;rintro e w2 ⟨v,ss,rfl,hSS,hrow,_,hb2⟩;dsimp only;have hsk:ss.mergeSort (fun x y=>decide (x≤y))=WG L:=mergeSort_of_perm_i (hSS.trans ho2);rw [hsk] at hrow;have hsl:ss.length=(WG L).length:=by rw [← hsk,List.length_mergeSort]
 rw [hsl] at hrow;have hG:=hF1.grow hb2;have hrd:Rd w2 (Imm J w2 β ⟨(d1,.undef)::t,ob⟩) v (.list 1 ((WG L).map zD)):=by
  have hrl:=zfc.flatRd w2 (fun _=>False) (WG L);have hm:RdL w2 (Imm J w2 β ⟨(d1,.undef)::t,ob⟩) (flat XD (WG L)) ((WG L).map zD).flatten:=⟨hrl.1,fun j u f hu hf=>(hrl.2 j u f hu hf).mono fun b hb=>hb.elim⟩
  rcases hrow.2 with ⟨rfl,h0⟩|⟨b2,cap,cur,rfl,hlow,hgg,hn,_,hcs,htk⟩
  ·exact Rd.list none 0 0 1 _ _ (by simpa using h0) (Nat.le_refl _) (zfc.wideM _) (zfc.oneM _) (fun h=>absurd rfl h) hm.1 hm.2
  ·refine Rd.list (some ⟨b2,0,none⟩) (WG L).length cap 1 _ _ (List.length_map _) hn (zfc.wideM _) (zfc.oneM _) (fun _=>⟨b2,0,rfl,⟨(Array.getElem?_eq_some_iff.1 hgg).1,hF1.fresh b2 (Nat.le_trans hF1.bel.size hlow) (.inl hlow),fun id hl e=>?_⟩,fun j u hu=>?_⟩) hm.1 hm.2
   ·have:=((hF1.obj id (yf.mine_ne hl)).lt e).2;omega
   ·rw [cell_of_row _ b2 _ cur _ (0,0) hgg];rw [Zk] at hu;rw [Nat.mul_one] at htk;rw [← htk,List.getElem?_take] at hu;split at hu
    ·simpa using hu
    ·cases hu
 exact k QQ w0 J _ _ β hQ (hG.put hd.2 (VR.of_rd hrd rfl) (fun id ver e=>(FV.no_hands rfl e).elim))
end
end
section
open Go.RowKit
abbrev EdC:=Nat×Nat×Nat
def EdC.fv (e:EdC):List FV:=[.int .i64 (e.1:Int),.int .i64 (e.2.1:Int),.int .i64 (e.2.2:Int)]
def zmb (K:Nat→Option (List (Nat×Nat))) (a b:Nat):Nat:=(alk ((K a).getD []) b).getD 0
def xy (lab:Nat→Nat→Nat):List Nat→List EdC
 | a :: b :: r => (a, b, lab a b) :: xy lab (b :: r)
 | _ => []
def znr (K:Nat→Option (List (Nat×Nat))) (n x y:Nat):List EdC:=xy (zmb K) (ptV (yH K n) y n x)
theorem Wa {K:Nat→Option (List (Nat×Nat))} {n a b:Nat}:(a,b)∈yH K n↔a<n∧∃ L,K a=some L∧∃ p∈L,p.1=b:=by
 unfold yH;rw [List.mem_flatMap];constructor
 ·rintro ⟨x,hx,h⟩;obtain ⟨p,hp,e⟩:=List.mem_map.1 h;injection e with e1 e2
  subst e1;subst e2;refine ⟨List.mem_range.1 hx,?_⟩;cases hk:K x with
  | none => rw [hk] at hp; cases hp
  | some L => rw [hk] at hp; exact ⟨L, rfl, p, hp, rfl⟩
 ·rintro ⟨h1,L,h2,p,h3,rfl⟩;exact ⟨a,List.mem_range.2 h1,List.mem_map.2 ⟨p,by rw [h2];exact h3,rfl⟩⟩
theorem zl0 (L:List (Nat×Nat)) (hn:(L.map (·.1)).Nodup):∃ SK:List Nat,WG L=SK.map (fun k:Nat=>(k:Int))∧SK.Pairwise (· < ·)∧∀ b,b∈SK↔∃ p∈L,p.1=b:=by
 have hp:=zdd L;have hs:=zl1 L;have hm:∀ z∈WG L,∃ p∈L,z=(p.1:Int):=fun z hz=>by
  obtain ⟨p,h1,h2⟩:=List.mem_map.1 (hp.mem_iff.1 hz);exact ⟨p,h1,h2.symm⟩
 have he:WG L=((WG L).map Int.toNat).map (fun k:Nat=>(k:Int)):=by
  rw [List.map_map]
  conv=>lhs;rw [← List.map_id (WG L)]
  refine List.map_congr_left fun z hz=>?_;obtain ⟨p,_,rfl⟩:=hm z hz;simp
 have hnd:(WG L).Nodup:=hp.nodup_iff.2 (by
  rw [show (L.map fun p=>(p.1:Int))=(L.map (·.1)).map (fun k:Nat=>(k:Int)) by rw [List.map_map];rfl];exact List.pairwise_map.2 (hn.imp fun h e=>h za))
 refine ⟨_,he,?_,fun b=>?_⟩
 ·refine List.pairwise_map.2 ?_;have:=List.pairwise_iff_forall_sublist.2 fun {a b} hab=>And.intro (List.pairwise_iff_forall_sublist.1 hs hab) (List.pairwise_iff_forall_sublist.1 hnd hab);refine this.imp_of_mem fun {a b} ha hb h=>?_;obtain ⟨p,_,rfl⟩:=hm a ha;obtain ⟨q,_,rfl⟩:=hm b hb;have h1:=h.1;have h2:=h.2;simp;omega
 ·rw [List.mem_map];constructor
  ·rintro ⟨z,hz,rfl⟩;obtain ⟨p,hp,rfl⟩:=hm z hz;exact ⟨p,hp,by simp⟩
  ·rintro ⟨p,h1,rfl⟩;exact ⟨(p.1:Int),hp.mem_iff.2 (List.mem_map.2 ⟨p,h1,rfl⟩),by simp⟩
theorem EdC.flatsM (X:List EdC):∀ e∈X.map EdC.fv,FV.flat.flats e=true:=fun e he=>by
 obtain ⟨q,_,rfl⟩:=List.mem_map.1 he;rfl
theorem zdM (E:List (Nat×Nat)) (t n:Nat):∀ k x,(lwV E t n k x).length=k+1
 | 0, _ => rfl
 | k+1, x => by unfold lwV; rw [List.length_cons, zdM E t n k]
theorem Xc (lab:Nat→Nat→Nat):∀ X:List Nat,(xy lab X).length=X.length - 1
 | [] => rfl
 | [_] => rfl
 | a :: b :: r => by unfold xy; rw [List.length_cons, Xc lab (b :: r)]; simp
theorem zeL (lab:Nat→Nat→Nat) (E:List (Nat×Nat)) (t n k x:Nat):xy lab (lwV E t n (k+1) x)=(x,nxV E t n k x,lab x (nxV E t n k x))::xy lab (lwV E t n k (nxV E t n k x)):=by
 show xy lab (x::lwV E t n k _)=_;obtain ⟨r,hr⟩:∃ r,lwV E t n k (nxV E t n k x)=nxV E t n k x::r:=by cases k <;> exact ⟨_,rfl⟩
 rw [hr];rfl
structure KOk (K:Nat→Option (List (Nat×Nat))) (n:Nat):Prop where
 len:∀ i L,i<n→K i=some L→L.length≤2000
 rng:∀ i L,i<n→K i=some L→∀ p∈L,p.1<n
 nd:∀ i L,i<n→K i=some L→(L.map (·.1)).Nodup
 lab:∀ i L,i<n→K i=some L→∀ p∈L,p.2≤1000
theorem zfA (l:List OpV) (r2 f1:FV) (K:Nat→Option (List (Nat×Nat))) (n x0 y0:Nat) (hll:l.length=n) (hn:n≤1000) (hK:KOk K n) (hx0:x0<n) (hy0:y0<n) (hne:x0≠y0) :
  zX Try.prog 58 [.eptr 4 [[.list 8 (l.map OpV.fv),f1,r2,.list 1 ((List.range n).map fun q=>[xk (K q)])]] 0 0,.int .i64 x0,.int .i64 y0] (.ow 46 3) (.list 3 ((znr K n x0 y0).map EdC.fv)):=by
 have hE:∀ e∈yH K n,e.1<n∧e.2<n:=fun ⟨a,b⟩ he=>by
  obtain ⟨h1,L,h2,p,h3,rfl⟩:=Wa.1 he;exact ⟨h1,hK.rng a L h1 h2 p h3⟩
 refine zX.of_body (c:=(xx Try.prog zE zt 76)) ⟨Try.func58,rfl,Try.ntmps58,by kernel_rfl⟩ zH zw rfl ?_;change FW _ _ _ ⟨[(0,.eptr 4 [[.list 8 (l.map OpV.fv),f1,r2,.list 1 ((List.range n).map fun q=>[xk (K q)])]] 0 0),(1,.int .i64 x0),(2,.int .i64 y0)],[]⟩;refine zb ?_;refine xR (zcl l r2 f1 K n y0 hll hn (fun i L hi hl=>⟨hK.len i L hi hl,hK.rng i L hi hl⟩) hy0) [] rfl zJ.nil rfl rfl rfl rfl rfl rfl ?_;rintro _ _ ⟨A,hA,rfl⟩;refine xf.one [] (.smap (A.map yU)) rfl rfl ?_;have hAk:∀ p∈A,p.1<1000:=fun p hp=>Nat.lt_of_lt_of_le (hA.rng p hp).1 hn;have hlx:=Yl A x0;refine zb ?_;refine XN (e:=3) xw (YW hAk) (Zw (by unfold I64;omega)) hlx rfl rfl rfl rfl rfl rfl rfl ?_;refine zb ?_;obtain ⟨C,hC⟩:∃ C,C=List.map (fun q=>[xk (K q)]) (List.range n):=⟨_,rfl⟩
 have hCl:C.length=n:=by rw [hC];simp
 have hcell:∀ i,i<n→C.getD i []=[xk (K i)]:=fun i hi=>by rw [hC,List.getD_eq_getElem?_getD,xF n i _ hi];rfl
 rw [← hC];refine FW.cond rfl (fun h=>?_) (fun h=>?_)
 ·have hno:alk A x0=none:=by cases ha:alk A x0 with|none=>rfl|some d=>rw [ha] at h;cases h
  have hp0:znr K n x0 y0=[]:=by unfold znr;rw [hA.none hno];rfl
  rw [hp0];refine zb ?_;exact FW.ret ⟨.inl rfl,.owNil _ _ rfl rfl⟩
 have hyes:∃ d,alk A x0=some d:=by cases ha:alk A x0 with|none=>rw [ha] at h;cases h|some d=>exact ⟨d,rfl⟩
 obtain ⟨d0,hd0⟩:=hyes;clear h;obtain ⟨R,hR⟩:∃ R,znr K n x0 y0=R:=⟨_,rfl⟩
 have hRe:xy (zmb K) (lwV (yH K n) y0 n d0 x0)=R:=by rw [← hR];unfold znr;rw [hA.path hd0 hne]
 have hRl:R.length≤1000:=by
  rw [← hRe,Xc,zdM];have:=(hA.rng _ (YX hd0)).2;dsimp only at this;omega
 rw [hR];refine zb ?_;refine FW.loop (fun x:Nat×Nat×List EdC=>⟨[(0,.eptr 4 [[.list 8 (l.map OpV.fv),f1,r2,.list 1 C]] 0 0),(1,.int .i64 x.1),(2,.int .i64 y0),(7,.smap (A.map yU)),(10,.own 100 0 0 x.2.2.length)],[(100,⟨0,.own,46,3,x.2.2.map EdC.fv⟩)]⟩) (fun x=>x.1<n∧alk A x.1=some x.2.1∧x.2.2++xy (zmb K) (lwV (yH K n) y0 n x.2.1 x.1)=R) (fun x=>x.2.1) (x0,d0,[]) ⟨hx0,hd0,hRe⟩ ?_ ?_
 ·exact (FLe.cv [⟨100,none,0,⟨0,.own,46,3,[]⟩⟩] zf zd)
 rintro ⟨v,m,out⟩ ⟨hv,hdv,hout⟩;dsimp only at hv hdv hout ⊢;refine zb ?_;refine FW.cond rfl (fun h=>?_) (fun h=>?_)
 ·have hvy:v≠y0:=fun e=>by subst e;simp at h
  clear h;obtain ⟨m,rfl⟩:=hA.zero hdv hvy;have hcv:=hcell v hv;have hw:=hA.walk hdv;obtain ⟨u,hu1,hu2⟩:=ZK.1 hw;obtain ⟨_,L,hKv,_⟩:=Wa.1 hu1;rw [hKv] at hcv;have hLl:=hK.len v L hv hKv;have hLr:=hK.rng v L hv hKv;have hLn:=hK.nd v L hv hKv;have hLb:=hK.lab v L hv hKv;have hLk:∀ p∈L,p.1<1000:=fun p hp=>Nat.lt_of_lt_of_le (hLr p hp) hn;obtain ⟨SK,hSK,hSs,hSm⟩:=zl0 L hLn;have hSm2:∀ b,b∈SK↔(v,b)∈yH K n:=fun b=>by
   rw [hSm,Wa];constructor
   ·intro q;exact ⟨hv,L,hKv,q⟩
   ·rintro ⟨_,L',h1,q⟩;rw [hKv] at h1;injection h1 with h1;rw [h1];exact q
  have hfst:=zk9 (fun e he=>(hE e he).2) hSs hSm2 hw;have hstep:=zeL (zmb K) (yH K n) y0 n m v;rw [hstep] at hout;obtain ⟨z,hz⟩:∃ z,nxV (yH K n) y0 n m v=z:=⟨_,rfl⟩
  rw [hz] at hfst hout;have hSl:SK.length≤2000:=by have h1:=congrArg List.length hSK;rw [List.length_map,(zdd L).length_eq,List.length_map] at h1;omega
  refine zb ?_;refine xc rfl rfl rfl (by rw [hCl];exact hv) hcv rfl rfl rfl rfl ?_;refine zd8 rfl rfl hLk za ⟨by decide,by decide⟩ ?_;rw [hSK,List.map_map,show zD∘(fun k:Nat=>(k:Int))=yp from rfl];refine zb ?_;refine FW.loop (fun j:Nat=>⟨[(0,.eptr 4 [[.list 8 (l.map OpV.fv),f1,r2,.list 1 C]] 0 0),(1,.int .i64 v),(2,.int .i64 y0),(7,.smap (A.map yU)),(10,.own 100 0 0 out.length),(37,.list 1 (SK.map yp)),(38,.int .i64 SK.length),(39,.int .i64 j)],[(100,⟨0,.own,46,3,out.map EdC.fv⟩)]⟩) (fun j=>j≤SK.length∧∀ i,i<j→wkB (yH K n) y0 m (nth SK i)=false) (fun j=>SK.length - j) 0 ⟨Nat.zero_le _,fun i hi=>absurd hi (Nat.not_lt_zero _)⟩ ?_ ?_
  ·exact (FLe.cv [⟨100,some 100,0,⟨0,.own,46,3,out.map EdC.fv⟩⟩] zf zd)
  rintro j ⟨hj,hno⟩;refine zb ?_;refine FW.cond rfl (fun h=>?_) (fun h=>?_)
  ·have hjl:j<SK.length:=by simpa using h
   clear h;obtain ⟨k,hk⟩:∃ k,nth SK j=k:=⟨_,rfl⟩
   have hkE:=(hSm2 k).1 (by rw [← hk];exact zC hjl);have hkn:k<n:=(hE _ hkE).2;have hnx:=hA.next hdv hkE;have hlk:=Yl A k;have hlv:=Yl A v;rw [hdv,Option.getD_some] at hlv;have hmb:=(hA.rng _ (YX hdv)).2;dsimp only at hmb;refine zb ?_;rw [hk];skip;refine XN (e:=3) xw (YW hAk) (Zw (by unfold I64;omega)) hlk rfl rfl rfl rfl rfl rfl rfl ?_;refine zb ?_;have next:wkB (yH K n) y0 m k=false→∀ i,i<j+1→wkB (yH K n) y0 m (nth SK i)=false:=fun h i hi=>by
    rcases Nat.lt_succ_iff_lt_or_eq.1 hi with h'|rfl
    ·exact hno i h'
    ·rw [hk];exact h
   refine zP (fun h1=>?_) (fun h1=>?_)
   ·obtain ⟨dk,hdk⟩:∃ dk,alk A k=some dk:=by cases ha:alk A k with|none=>rw [ha] at h1;cases h1|some dk=>exact ⟨dk,rfl⟩
    have hdkb:=(hA.rng _ (YX hdk)).2;dsimp only at hdkb;rw [hdk,Option.getD_some];refine zb ?_;refine VH (e:=3) xw (YW hAk) (Zw (by unfold I64;omega)) hlv rfl rfl rfl rfl rfl rfl ⟨_,_,rfl,rfl,rfl⟩ ?_;refine zb ?_;refine FW.cond rfl (fun h2=>?_) (fun h2=>?_)
    ·have hdm:dk=m:=by simp at h2;omega
     have hwk:=hnx.1 (by rw [hdk,hdm]);have hkz:k=z:=by
      have h1:=hSs;obtain ⟨_,ua,ub,he,hn2⟩:=List.find?_eq_some_iff_append.1 hfst;have hkm:k∈SK:=by rw [← hk];exact zC hjl
      obtain ⟨hz1,hz2⟩:=zag (fun e he=>(hE e he).2) hw;rw [hz] at hz2;have h2:=hz2.2 k hkE hwk;rcases Nat.lt_or_ge z k with h3|h3
      ·exfalso;have hzm:=List.mem_of_find?_eq_some hfst;obtain ⟨i,hi,hiz⟩:=List.getElem_of_mem hzm;have hij:i<j:=by
        rcases Nat.lt_or_ge i j with h4|h4
        ·exact h4
        ·exfalso;rcases Nat.lt_or_eq_of_le h4 with h5|h5
         ·have:=List.pairwise_iff_getElem.1 hSs j i hjl hi h5;rw [hiz,← nth_eq hjl,hk] at this;omega
         ·subst h5;rw [← nth_eq hi,hk] at hiz;omega
       have:=hno i hij;rw [nth_eq hi,hiz,hz2.1] at this;cases this
      ·omega
     have hll:=Yl L k;have hlb:(alk L k).getD 0≤1000:=by
      cases ha:alk L k with
      | none => exact Nat.zero_le _
      | some q => exact hLb _ (YX ha)
     have hlab:zmb K v k=(alk L k).getD 0:=by unfold zmb;rw [hKv];rfl
     rw [← hkz,hlab] at hout;obtain ⟨lb,hlbe⟩:∃ lb,(alk L k).getD 0=lb:=⟨_,rfl⟩
     rw [hlbe] at hll hlb hout;have hol:out.length≤1000:=by rw [← hout] at hRl;simp at hRl;omega
     refine zb ?_;refine xc rfl rfl rfl (by rw [hCl];exact hv) hcv rfl rfl rfl rfl ?_;refine zb ?_;refine VH (e:=3) xw (YW hLk) (Zw (by unfold I64;omega)) hll rfl rfl rfl rfl rfl rfl rfl ?_;refine zb ?_;refine ⟨(k,m,out++[(v,k,lb)]),⟨hkn,by rw [hdk,hdm],by rw [← hout];simp⟩,by show m<m+1;omega,?_⟩;dsimp only;rw [List.map_append,show (out++[(v,k,lb)]).length=out.length+1 by simp,show (out.map EdC.fv++[(([FV.int .i64 0,.int .i64 0,.int .i64 0].set 0 (.int .i64 v)).set 1 (.int .i64 k)).set 2 (.int .i64 lb)]).length=out.length+1 by simp];exact (FLe.cv [⟨100,some 72,0+1,⟨0,.own,46,3,out.map EdC.fv++[(v,k,lb)].map EdC.fv⟩⟩] zf zd)
    ·refine zb ?_;refine ⟨j+1,⟨by omega,next ?_⟩,by omega,(FLe.cv [⟨100,some 100,0,⟨0,.own,46,3,out.map EdC.fv⟩⟩] zf zd)⟩;cases hwk:wkB (yH K n) y0 m k with
     | false => rfl
     | true =>
      have h3:=hnx.2 hwk;rw [hdk] at h3;injection h3 with h3
      simp at h2;omega
   ·refine zb ?_;refine ⟨j+1,⟨by omega,next ?_⟩,by omega,(FLe.cv [⟨100,some 100,0,⟨0,.own,46,3,out.map EdC.fv⟩⟩] zf zd)⟩;cases hwk:wkB (yH K n) y0 m k with
    | false => rfl
    | true => rw [hnx.2 hwk] at h1; cases h1
  ·exfalso;have hje:j=SK.length:=by simp at h;omega
   subst hje;have h1:=List.find?_some hfst;have h2:=List.mem_of_find?_eq_some hfst;obtain ⟨i,hi,hiz⟩:=List.getElem_of_mem h2;have:=hno i hi;rw [nth_eq hi,hiz,h1] at this;cases this
 ·have hvy:v=y0:=by simp at h;omega
  subst hvy;have hm0:m=0:=by have:=hA.least hdv (Xm.2 rfl);omega
  subst hm0;have hoR:out=R:=by rw [← hout];show out=out++xy (zmb K) [v];simp [xy]
  subst hoR;refine zb ?_;exact FW.ret ⟨.inl rfl,zc1 rfl rfl rfl zc zg rfl (EdC.flatsM _)⟩
end
def zb1 (l:List OpV) (q:Nat):List (Nat×Nat):=
 (yi l (zO l l.length) q).toList.map (fun k:Nat=>(k,1))++((zO l l.length).filter fun k=>decide (yR l k=some q∧yi l (zO l l.length) q≠some k)).map fun k:Nat=>(k,2)
def KC (l:List OpV) (q:Nat):Option (List (Nat×Nat)):=if q∈zO l l.length then some (zb1 l q) else none
def edC (l:List OpV):List (Nat×Nat):=yH (KC l) l.length
theorem zoh (l:List OpV) (q:Nat):zpa l (zO l l.length) (zO l l.length) q=xk (KC l q):=by
 unfold zpa KC;split
 ·unfold xk e4 e3 zb1;show FV.smap _=FV.smap (List.map yU (_++_));rw [List.map_append,List.map_map,List.map_map];rfl
 ·rfl
theorem zkv (l:List OpV):zos l (zO l l.length) (zO l l.length) l.length=.list 1 ((List.range l.length).map fun q=>[xk (KC l q)]):=by
 unfold zos;congr 1;exact List.map_congr_left fun q _=>by rw [zoh]
theorem xC {l:List OpV} {j:Nat}:j∈zO l l.length↔j<l.length∧zK l j=true:=by
 unfold zO;rw [List.mem_filter,List.mem_range]
theorem zae {l:List OpV} {i w:Nat} (h:yR l i=some w):w<l.length∧(nth l i).k=0∧(nth l i).res≠0∧wOf (nth l i).key (nth l i).res (nth l w)=true∧zK l w=true:=by
 unfold yR at h;split at h
 ·cases h
 ·rename_i hc;simp only [not_or,Classical.not_not] at hc;obtain ⟨h1,h2,h3⟩:=ZE h;exact ⟨h1,hc.1,hc.2,h2,h3⟩
theorem Vl {l:List OpV} {q k w:Nat} (h:(k,w)∈zb1 l q):k∈zO l l.length∧((w=1∧yi l (zO l l.length) q=some k)∨(w=2∧yR l k=some q∧yi l (zO l l.length) q≠some k)):=by
 unfold zb1 at h;rcases List.mem_append.1 h with h|h
 ·obtain ⟨a,ha,e⟩:=List.mem_map.1 h;injection e with e1 e2
  subst e1;subst e2;have ha:yi l (zO l l.length) q=some a:=by simpa using ha
  exact ⟨(YG ha).1,.inl ⟨rfl,ha⟩⟩
 ·obtain ⟨a,ha,e⟩:=List.mem_map.1 h;injection e with e1 e2
  subst e1;subst e2;obtain ⟨h1,h2⟩:=List.mem_filter.1 ha;exact ⟨h1,.inr ⟨rfl,by simpa using h2⟩⟩
theorem zeO {l:List OpV} {q k:Nat} (h:yi l (zO l l.length) q=some k):(k,1)∈zb1 l q:=by
 unfold zb1;rw [h];simp
theorem zeN {l:List OpV} {q k:Nat} (hk:k∈zO l l.length) (h:yR l k=some q) (h2:yi l (zO l l.length) q≠some k):(k,2)∈zb1 l q:=by
 unfold zb1;exact List.mem_append_right _ (List.mem_map.2 ⟨k,List.mem_filter.2 ⟨hk,by simpa using ⟨h,h2⟩⟩,rfl⟩)
theorem zaL (l:List OpV) (q:Nat):((zb1 l q).map (·.1)).Nodup:=by
 have h0:(zO l l.length).Nodup:=(za7 l l.length).imp fun h e=>by omega
 unfold zb1;rw [List.map_append,List.map_map,List.map_map];have e:∀ {w:Nat} {X:List Nat},X.map ((fun p:Nat×Nat=>p.1)∘fun k:Nat=>(k,w))=X:=fun {w X}=>by
  conv=>rhs;rw [← List.map_id X]
  rfl
 rw [e,e];refine List.nodup_append.2 ⟨by cases yi l (zO l l.length) q <;> simp,h0.filter _,fun a ha b hb=>?_⟩;have h1:yi l (zO l l.length) q=some a:=by simpa using ha
 have h2:=(List.mem_filter.1 hb).2;simp only [decide_eq_true_eq] at h2;rintro rfl;exact h2.2 h1
theorem kok (l:List OpV) (hl:l.length≤1000):KOk (KC l) l.length where
 len i L hi h:=by
  unfold KC at h;split at h
  ·injection h with h
   have h1:(zb1 l i).length≤l.length:=by
    have:=Wm (n:=l.length) (zaL l i) fun ⟨k,w⟩ hp=>xt (Vl hp).1;exact this
   rw [← h];omega
  ·cases h
 rng i L hi h:=by
  unfold KC at h;split at h
  ·injection h with h
   rintro ⟨k,w⟩ hp;rw [← h] at hp;exact xt (Vl hp).1
  ·cases h
 nd i L hi h:=by
  unfold KC at h;split at h
  ·injection h with h;rw [← h];exact zaL l i
  ·cases h
 lab i L hi h:=by
  unfold KC at h;split at h
  ·injection h with h
   rintro ⟨k,w⟩ hp;rw [← h] at hp;rcases (Vl hp).2 with ⟨h1,_⟩|⟨h1,_⟩ <;> (dsimp only;omega)
  ·cases h
theorem VW {l:List OpV} {a b:Nat}:(a,b)∈edC l↔a∈zO l l.length∧b∈zO l l.length∧(yi l (zO l l.length) a=some b∨yR l b=some a):=by
 unfold edC;rw [Wa];constructor
 ·rintro ⟨h1,L,h2,⟨k,w⟩,h3,rfl⟩;unfold KC at h2;split at h2
  ·rename_i ha;injection h2 with h2
   rw [← h2] at h3;obtain ⟨h4,h5⟩:=Vl h3;exact ⟨ha,h4,h5.imp (·.2) (·.2.1)⟩
  ·cases h2
 ·rintro ⟨ha,hb,h⟩;refine ⟨xt ha,zb1 l a,by unfold KC;rw [if_pos ha],?_⟩;by_cases hn:yi l (zO l l.length) a=some b
  ·exact ⟨_,zeO hn,rfl⟩
  ·rcases h with h|h
   ·exact absurd h hn
   ·exact ⟨_,zeN hb h hn,rfl⟩
theorem zht (l:List OpV):∀ e∈edC l,e.1<l.length∧e.2<l.length:=fun ⟨a,b⟩ he=>by
 obtain ⟨h1,h2,_⟩:=VW.1 he;exact ⟨xt h1,xt h2⟩
def ziW (l:List OpV) (a b:Nat):Nat:=zmb (KC l) a b
theorem znN {l:List OpV} {a b:Nat} (h:(a,b)∈edC l):ziW l a b=if yi l (zO l l.length) a=some b then 1 else 2:=by
 obtain ⟨ha,hb,h⟩:=VW.1 h;unfold ziW zmb KC;rw [if_pos ha];show (alk (zb1 l a) b).getD 0=_;by_cases hn:yi l (zO l l.length) a=some b
 ·rw [if_pos hn,zer (zaL l a) (zeO hn)];rfl
 ·rw [if_neg hn];rcases h with h|h
  ·exact absurd h hn
  ·rw [zer (zaL l a) (zeN hb h hn)];rfl
def Zr (l:List OpV) (x y:Nat):List EdC:=xy (ziW l) (ptV (edC l) y l.length x)
def XS (l:List OpV) (i:Nat):Bool:=decide ((nth l i).k=0) && decide ((nth l i).res≠0) && (yR l i).isNone
def WY (l:List OpV):Option Nat:=(zO l l.length).find? (XS l)
def ZF (l:List OpV) (c:List Int) (m:Nat):List EdC:=(List.range m).map fun i=>((nth c i).toNat,(nth c ((i+1) % c.length)).toNat,ziW l (nth c i).toNat (nth c ((i+1) % c.length)).toNat)
def WF (l:List OpV) (i w1 w2:Nat):Bool:=decide ((nth l w2).k=1) && decide ((nth l w2).key=(nth l i).key) && decide (w2≠w1) && !(Zr l w1 w2).isEmpty && !(Zr l w2 i).isEmpty
def xX (l:List OpV) (i:Nat):Option (Nat×Nat×Nat):=(yR l i).bind fun w1=>((zO l l.length).find? (WF l i w1)).map fun w2=>(w1,w2,i)
def Ug (l:List OpV):Option (Nat×Nat×Nat):=(zO l l.length).findSome? (xX l)
def WA (l:List OpV) (i w:Nat):Bool:=decide ((nth l w).k=1) && decide ((nth l w).key=(nth l i).key) && !(Zr l w i).isEmpty
def Zp (l:List OpV) (i:Nat):Option (Nat×Nat):=if (nth l i).k≠0∨(nth l i).res≠0 then none else ((zO l l.length).find? (WA l i)).map fun w=>(w,i)
def Ua (l:List OpV):Option (Nat×Nat):=(zO l l.length).findSome? (Zp l)
theorem zml {l:List OpV} (hd:Yi l) {i:Nat} {a b:Int} (hi:i<l.length) (hw:wOf a b (nth l i)=true) (hin:zK l i=true):cIx l a b=some i:=by
 cases hf:cIx l a b with
 | none => have := zhp hf i hi hin; rw [hw] at this; cases this
 | some q=>
  obtain ⟨h1,h2,_⟩:=ZE hf;rw [Yu] at hw h2;rcases Nat.lt_trichotomy q i with h|h|h
  ·rcases hd i hi with h3|⟨_,_,h3⟩
   ·omega
   ·have:=h3 q h;rw [show wOf (nth l i).key (nth l i).arg (nth l q)=true from Yu.2 ⟨h2.1,by rw [h2.2.1,hw.2.1],by rw [h2.2.2,hw.2.2]⟩] at this;cases this
  ·rw [h]
  ·rcases hd q h1 with h3|⟨_,_,h3⟩
   ·omega
   ·have:=h3 i h;rw [show wOf (nth l q).key (nth l q).arg (nth l i)=true from Yu.2 ⟨hw.1,by rw [h2.2.1,hw.2.1],by rw [h2.2.2,hw.2.2]⟩] at this;cases this
section
open Go.RowKit
theorem Rd.perm_inv {w:World} {I:Nat→Prop} {v:Value} {sz:Nat} {es:List (List FV)} (h:Rd w I v (.perm sz es)):∃ es',es'.Perm es∧Rd w I v (.list sz es'):=by
 cases h with
 | perm v sz es es' hp hr => exact ⟨es', hp, hr⟩
theorem zX.ofL {P:Program} {f:Nat} {args:List FV} {ex:List Nat} {Q:FV→(Nat→zq)→Prop} {r:FV} (h:yD P f args [] ex Q) (hn:∀ f∈args,f.hand=none) (hr:r.hand=none) (hq:∀ res o,Q res o→res.hand=none∧∀ (w:World) (I:Nat→Prop) v,Rd w I v res→Rd w I v r):zX P f args .sh r where
 go:=h.go
 hand:=hr
 calls w I vs hI hv:=by
  have hE:=FR.entry (N:=args.length) hI hv hn (Nat.le_refl _);have e1:vs.toArray++Array.replicate (args.length - vs.toArray.size) undef=vs.toArray:=by
   rw [show args.length - vs.toArray.size=0 by have:=hv.1;simp;omega];simp
  rw [e1] at hE;refine Calls.mono (h.calls w _ w _ vs hE) ?_;rintro e w' ⟨v,res,ob',β',rfl,hQ,hF⟩;obtain ⟨q1,q2⟩:=hq _ _ hQ;refine ⟨v,rfl,hF.bel,?_⟩;have h1:Rd w' (Imm _ w' β' ⟨[(0,res)],ob'⟩) v res:=hF.ev_rd (x:=.tmp 0) rfl q1;refine q2 _ _ _ (h1.mono fun b hb=>⟨?_,rfl⟩);rcases hb.2.1 with h|h
  ·exact .inl h
  ·exact .inr ⟨h,hb.1⟩
theorem zX.perm {P:Program} {f:Nat} {pre post:List FV} {m:zek} {r:FV} {sz:Nat} {es:List (List FV)} (h:∀ es',es'.Perm es→zX P f (pre++.list sz es'::post) m r):zX P f (pre++.perm sz es::post) m r where
 go:=(h es (.refl _)).go
 hand:=(h es (.refl _)).hand
 calls w I vs hI hv:=by
  have hl:pre.length<vs.length:=by rw [hv.1];simp
  have h1:=hv.2 pre.length vs[pre.length] (.perm sz es) (by simp [hl]) zc;obtain ⟨es',hp,hr⟩:=h1.perm_inv;refine (h es' hp).calls w I vs hI ⟨by rw [hv.1];simp,fun j u g hu hg=>?_⟩;by_cases hj:j=pre.length
  ·subst hj;have e1:g=.list sz es':=by simpa using hg.symm
   have e2:u=vs[pre.length]:=by simpa [hl] using hu.symm
   rw [e1,e2];exact hr
  ·refine hv.2 j u g hu ?_;rw [← hg,List.getElem?_append,List.getElem?_append];split
   ·rfl
   ·rename_i hlt;obtain ⟨k,hk⟩:∃ k,j - pre.length=k+1:=⟨j - pre.length - 1,by omega⟩
    rw [hk];rfl
theorem yD.perm {P:Program} {f:Nat} {pre post:List FV} {ob:List (Nat×zq)} {ex:List Nat} {Q:FV→(Nat→zq)→Prop} {sz:Nat} {es:List (List FV)} (h:∀ es',es'.Perm es→yD P f (pre++.list sz es'::post) ob ex Q):yD P f (pre++.perm sz es::post) ob ex Q where
 go:=(h es (.refl _)).go
 post:=(h es (.refl _)).post
 calls w0 J w β vs hF:=by
  have e1:(yu (pre++.perm sz es::post) ob).get pre.length=.perm sz es:=by rw [xZ];simp
  have hv:=VR.rd (by have:=hF.slot pre.length;rwa [e1] at this) rfl;obtain ⟨es',hp,hr⟩:=hv.perm_inv;refine (h es' hp).calls w0 J w β vs ?_;have hF2:=hF.slots (N2:=(pre++.list sz es'::post).length) (a2:=⟨vs.toArray,[]⟩) (t2:=(yu (pre++.list sz es'::post) ob).t) (by have:=hF.size;simpa using this) hF.defers fun d=>?_
  ·exact hF2
  ·have e3:(⟨(yu (pre++.list sz es'::post) ob).t,ob⟩:FSt).get d=(pre++.list sz es'::post).getD d .undef:=xZ _ ob d;rw [e3];by_cases hj:d=pre.length
   ·subst hj;rw [show (pre++FV.list sz es'::post).getD pre.length .undef=.list sz es' by simp];exact VR.plain hr rfl
   ·have e4:(pre++FV.list sz es'::post).getD d .undef=(yu (pre++.perm sz es::post) ob).get d:=by
     rw [xZ,List.getD_eq_getElem?_getD,List.getD_eq_getElem?_getD,List.getElem?_append,List.getElem?_append];split
     ·rfl
     ·obtain ⟨k,hk⟩:∃ k,d - pre.length=k+1:=⟨d - pre.length - 1,by omega⟩
      rw [hk];rfl
    rw [e4];exact ⟨hF.slot d,fun id ver hm=>hF.vers d id ver hm⟩
theorem zhW {α:Type} {f:α→List FV} {l:List α} {es:List (List FV)} (h:es.Perm (l.map f)):∃ l' : List α,l'.Perm l∧es=l'.map f:=by
 induction l generalizing es with
 | nil => exact ⟨[], .refl _, by simpa using h.eq_nil⟩
 | cons a l ih=>
  have ha:f a∈es:=h.mem_iff.2 zc;obtain ⟨ua,ub,rfl⟩:=List.append_of_mem ha;have h2:(ua++ub).Perm (l.map f):=by
   have h3:(f a::(ua++ub)).Perm (f a::l.map f):=List.perm_middle.symm.trans h;exact h3.cons_inv
  obtain ⟨l',hp,e⟩:=ih h2;obtain ⟨p,q,rfl,e1,e2⟩:=List.map_eq_append_iff.1 e.symm;exact ⟨p++a::q,List.perm_middle.trans (hp.cons a),by simp [e1,e2]⟩
theorem zX.sh_of_ow {P:Program} {f:Nat} {args:List FV} {E sz:Nat} {r:FV} (h:zX P f args (.ow E sz) r):zX P f args .sh r where
 go:=h.go
 hand:=h.hand
 calls w I vs hI hv:=(h.calls w I vs hI hv).mono fun e w' ⟨v,e1,hb,hr⟩=>by
  obtain ⟨es,us,rfl,hw,ho,hrow,hrd⟩:=hr;refine ⟨v,e1,hb,?_⟩;have hm:RdL w' (fun b=>I b∨(w.heap.size≤b∧b<w'.heap.size)) us es.flatten:=hrd.mono fun b hb=>⟨.inr ⟨hb.1,hb.2.1⟩,rfl⟩
  rcases hrow.2 with ⟨rfl,h0⟩|⟨b,cap,cur,rfl,hlow,hgg,hn,_,hcs,htk⟩
  ·exact Rd.list none 0 0 sz es us h0 (Nat.le_refl _) hw ho (fun h=>absurd rfl h) hm.1 hm.2
  ·refine Rd.list (some ⟨b,0,none⟩) es.length cap sz es us rfl hn hw ho (fun _=>⟨b,0,rfl,.inr ⟨hlow,(Array.getElem?_eq_some_iff.1 hgg).1⟩,fun j u hu=>?_⟩) hm.1 hm.2;rw [cell_of_row _ b _ cur _ (0,0) hgg];rw [← htk,List.getElem?_take] at hu;split at hu
   ·simpa using hu
   ·cases hu
theorem zbh (r1 r2 f1:FV) (K:Nat→Option (List (Nat×Nat))) (n:Nat) (hn:n≤1000) (hK:KOk K n) :
  zX Try.prog 37 [.eptr 4 [[r1,f1,r2,.list 1 ((List.range n).map fun q=>[xk (K q)])]] 0 0] .sh (.perm 2 ((yH K n).map edf)):=by
 refine zX.ofL (zcP r1 r2 f1 K n hn (fun i L hi hl=>⟨hK.len i L hi hl,fun p hp=>Nat.lt_of_lt_of_le (hK.rng i L hi hl p hp) hn⟩)) zH rfl ?_;rintro res o ⟨P,hP,rfl⟩;exact ⟨rfl,fun w I v h=>.perm v 2 _ _ (hP.map edf) h⟩
end
end Go.Proofs.Ytmnmakhpjgjdaaa
