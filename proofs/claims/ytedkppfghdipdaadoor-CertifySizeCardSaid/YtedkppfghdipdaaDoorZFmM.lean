/-
  The operations on states that are written out: one law each, for regions in the text's order (rn_) and for those that draw (rd_). (Printed by wip/fmm.py.)
-/
import Derived.Test.YtedkppfghdipdaaDoorZBxxx
namespace Go.Proofs.YtedkppfghdipdaaDoor
set_option linter.unusedVariables false
set_option maxHeartbeats 16000000
open Go.RowKit
variable {t:List (Nat×FV)} {ob wr:List (Nat×zS)} {E E0 c6 e i j k l o off sz fy v0 aa:Nat} {lf lf0:yV} {es bU av:List (List FV)} {aE cs gs z ze:List FV} {f g1 res:FV} {s:ab} {fs:List (Nat×Nat)} {ps:List (Nat×Operand)} {x y:Operand} {kk:IntKind} {m n:Int} {α:Type} {T T2:TypeId} {op:Op} {p:Nat×zS} {b:Bool} {xs:List Operand} {ts:Array TypeId} {dst:Option Nat} {gg:Nat×Bool}
theorem yF {id:Nat} (h:(⟨t,ob⟩:ab).ob id=⟨aa,lf,E,sz,es⟩) (hl:lf≠.dead):(⟨t,ob⟩:ab).live id aa:=by
 unfold ab.live;rw [h];exact ⟨hl,rfl⟩
theorem Yu {d v:Nat} (h:(⟨t,ob⟩:ab).ob d=⟨v,lf,E,sz,es⟩):((⟨t,ob⟩:ab).ob d).aa+1=v+1:=by rw [h]
theorem Wn (h:cs[o]? = some f):o<cs.length∧(cs.drop o).headD .undef=f:=by
 obtain ⟨h1,h2⟩:=zP.1 h;refine ⟨h1,?_⟩;rw [List.drop_eq_getElem_cons h1,h2];rfl
theorem xC (h:o<cs.length):ag cs o [f]=cs.set o f:=by
 unfold ag;rw [UU,if_pos h];simp
def lA (cs:List FV) (o:Nat):List FV→List FV
 | [] => cs
 | f :: fs => lA (cs.set o f) (o+1) fs
theorem Vj (cs:List FV) (o:Nat) (f:FV) (fs:List FV) (h:o<cs.length):ag (ag cs o [f]) (o+1) fs=ag cs o (f::fs):=by
 unfold ag;have h1:(List.take o cs++[f]++List.drop (o+1) cs).take (o+1)=List.take o cs++[f]:=by
  rw [YY yd,yn yd]
 have h2:(List.take o cs++[f]++List.drop (o+1) cs).drop (o+1+fs.length)=List.drop (o+1+fs.length) cs:=by
  rw [List.drop_append,List.drop_of_length_le yd,WJ,List.drop_drop];congr 1;simp;omega
 simp only [yK,WI,zY];rw [h1,h2];simp [Zm,Nat.add_left_comm]
theorem XS:∀ (fs:List FV) (cs:List FV) (o:Nat),o+fs.length≤cs.length→fs≠[]→ag cs o fs=lA cs o fs
 | [], _, _, _, h => absurd rfl h
 | [f], cs, o, h, _ => by rw [xC (by simp at h; omega)]; rfl
 | f :: g :: fs, cs, o, h, _ => by
  rw [← Vj cs o f (g::fs) (by simp at h;omega),xC (by simp at h;omega),XS (g::fs) _ _ (by simp at h ⊢;omega) zd];rfl
inductive XY (c:Ctx) (s:ab) (fs:List (Nat×Nat)):List FV→List (Nat×Operand)→List FV→Prop where
 | nil {cs:List FV}:XY c s fs cs [] cs
 | one {i off ft:Nat} {x:Operand} {f:FV} {ps:List (Nat × Operand)} {cs cQ : List FV} (hx:s.ev x=f) (hi:fs[i]? = some (off, ft)) (ho:f.cells=[f]) (h1:f.one=true) (hs:(c.ty ft).size=1) (hl:Nat.blt off cs.length=true) (h:XY c s fs (cs.set off f) ps cQ):XY c s fs cs ((i, x) :: ps) cQ
 | agg {i off ft:Nat} {x:Operand} {gs:List FV} {ps:List (Nat × Operand)} {cs cQ : List FV} (hx:s.ev x=.agg gs) (hi:fs[i]? = some (off, ft)) (h1:gs.all FV.one=true) (hs:gs.length=(c.ty ft).size) (hp:gs ≠ []) (hl:Nat.ble (off+gs.length) cs.length=true) (h:XY c s fs (lA cs off gs) ps cQ):XY c s fs cs ((i, x) :: ps) cQ
theorem Zp {place:Nat→Option (Nat×Nat)} {size:Nat} {rest:List (Nat×FV)} (hp:place i=some (off,size)) (h1:f.cells.all FV.one=true) (h2:f.cells.length=size) (h3:off+size≤cs.length) :
  xo place cs ((i,f)::rest)=xo place (ag cs off f.cells) rest:=by
 rw [xo,hp];exact if_pos ⟨h1,h2,h3⟩
theorem XY.get {c:Ctx} {cQ : List FV} (h:XY c s fs cs ps cQ) :
  xo (fun i=>(fs[i]?).map fun p=>(p.1,(c.ty p.2).size)) cs (s.parts ps.toArray)=some cQ:=by
 unfold ab.parts;simp only [List.toList_toArray]
 induction h with
 | nil => rfl
 | one hx hi ho h1 hs hl h ih =>
  have ba:=yo hl;rw [ya,hx,Zp (off:=_) (size:=_) (by rw [hi];rfl) (by rw [ho];simpa using h1) (by rw [ho];exact hs.symm) (by dsimp only;omega),ho,xC ba];exact ih
 | @agg i off ft x gs ps cs cQ hx hi h1 hs hp hl h ih =>
  have ba:=yo hl;rw [ya,hx,Zp (f:=.agg gs) (off:=off) (size:=(c.ty ft).size) (by rw [hi];rfl) h1 hs (by rw [← hs];exact ba)];rw [show (FV.agg gs).cells=gs from rfl,XS gs cs off ba hp];exact ih
def kP {α:Type} (d:α):List (Nat×α)→Nat→Option α
 | [], _ => some d
 | (i, a) :: l, k => bif Nat.beq i k then some a else kP d l k
theorem n6 {α:Type} (d:α) (k:Nat):∀ l:List (Nat×α),kP d l k=some (look d l k)
 | [] => rfl
 | (i, a) :: l => by
  unfold kP look;rw [n6 d k l];cases Nat.beq i k <;> rfl
def lx (v:Value):Option FV:=
 match v with
 | .int k n => some (.int k n)
 | .bool b => some (.bool b)
 | v => some (dN v)
theorem rG (v:Value):lx v=some (dN v):=by unfold lx;split <;> rfl
def fw (t:List (Nat×FV)):Operand→Option FV
 | .tmp i => kP .undef t i
 | .const v => lx v
 | .func f => some (.fn f [])
 | _ => some .undef
theorem Xt (h:fw t x=some f):(⟨t,ob⟩:ab).ev x=f:=by
 cases x with
 | tmp i => have h' : kP .undef t i=some f := h; rw [n6] at h'; injection h'
 | const v => have h' : lx v=some f := h; rw [rG] at h'; injection h'
 | _ => injection h
theorem Yk (h:f.one=true):f.cells=[f]:=by
 cases f <;> first|rfl|(simp [FV.one] at h)
inductive yf (s:ab) (sz:Nat):Nat→List (Nat×Operand)→List (List FV)→Prop where
 | nil {k:Nat}:yf s sz k [] []
 | one {k:Nat} {x:Operand} {f:FV} {ps:List (Nat × Operand)} {es:List (List FV)} (hx:s.ev x=f) (hc:f.cells=[f]) (h1:f.one=true) (hs:sz=1) (h:yf s sz (k+1) ps es):yf s sz k ((k, x) :: ps) ([f] :: es)
 | agg {k:Nat} {x:Operand} {gs:List FV} {ps:List (Nat × Operand)} {es:List (List FV)} (hx:s.ev x=.agg gs) (h1:gs.all FV.one=true) (hs:gs.length=sz) (h:yf s sz (k+1) ps es):yf s sz k ((k, x) :: ps) (gs :: es)
theorem yf.int (hx:s.ev x=.int kk n) (hs:sz=1) (h:yf s sz (k+1) ps es):yf s sz k ((k,x)::ps) ([.int kk n]::es):=.one hx rfl rfl hs h
theorem yf.len (h:yf s sz k ps es):es.length=ps.length∧(∀ e∈es,e.length=sz)∧(∀ f∈es.flatten,f.one=true):=by
 have key:∀ (e:List FV) (es:List (List FV)) (q:Nat×Operand) (ps:List (Nat×Operand)),e.length=sz→(∀ f∈e,f.one=true)→(es.length=ps.length∧(∀ e∈es,e.length=sz)∧(∀ f∈es.flatten,f.one=true))→
   ((e::es).length=(q::ps).length∧(∀ e'∈e::es,e'.length=sz)∧(∀ f∈(e::es).flatten,f.one=true)):=by
  intro e es q ps h1 h2 h3;refine ⟨by simp [h3.1],fun e' he=>?_,fun f hf=>?_⟩
  ·rcases zM.1 he with e1|e1
   ·rw [e1];exact h1
   ·exact h3.2.1 _ e1
  ·rw [yr] at hf;rcases yv.1 hf with e1|e1
   ·exact h2 f e1
   ·exact h3.2.2 _ e1
 induction h with
 | nil => exact ⟨rfl, by simp, by simp⟩
 | one hx hc h1 hs h ih => exact key [_] _ (_, _) _ (by rw [hs]; rfl) (by simpa using h1) ih
 | agg hx h1 hs h ih => exact key _ _ (_, _) _ hs (fun f hf => zC.1 h1 f hf) ih
theorem Wz (pre mI post ds:List α) (h:mI.length=ds.length):ag (pre++(mI++post)) pre.length ds=pre++(ds++post):=by
 unfold ag;rw [List.take_left,← h,← zw pre mI post,← zT,List.drop_left,zw]
theorem yf.fill (h:yf s sz k ps es):∀ (pre:List FV),pre.length=k * sz→
  xo (fun i=>some (i * sz,sz)) (pre++List.replicate (ps.length * sz) .undef) (ps.map fun p=>(p.1,s.ev p.2))=some (pre++es.flatten):=by
 induction h with
 | nil => intro pre _; simp [xo]
 | @one k x f ps es hx hc h1 hs h ih=>
  intro pre hp;have e1:List.replicate ((((k,x)::ps:List (Nat×Operand))).length * sz) FV.undef=List.replicate sz .undef++List.replicate (ps.length * sz) .undef:=by
   rw [yK,zF,Xe,Zm,UT]
  have e2:(pre++List.replicate ((((k,x)::ps:List (Nat×Operand))).length * sz) FV.undef).length=k * sz+(ps.length+1) * sz:=by simp [hp]
  rw [ya,hx,Zp (place:=fun i=>some (i * sz,sz)) (off:=k * sz) (size:=sz) rfl (by rw [hc];simpa using h1) (by rw [hc,hs];rfl) (by rw [e2,zF];omega),hc,e1,← hp,Wz _ _ _ _ (by simp [hs]),← zw,ih (pre++[f]) (by simp [hp,zF,hs])];simp
 | @agg k x gs ps es hx h1 hs h ih=>
  intro pre hp;have e1:List.replicate ((((k,x)::ps:List (Nat×Operand))).length * sz) FV.undef=List.replicate sz .undef++List.replicate (ps.length * sz) .undef:=by
   rw [yK,zF,Xe,Zm,UT]
  have e2:(pre++List.replicate ((((k,x)::ps:List (Nat×Operand))).length * sz) FV.undef).length=k * sz+(ps.length+1) * sz:=by simp [hp]
  rw [ya,hx,Zp (f:=.agg gs) (place:=fun i=>some (i * sz,sz)) (off:=k * sz) (size:=sz) rfl h1 hs (by rw [e2,zF];omega),e1,← hp];rw [show (FV.agg gs).cells=gs from rfl,Wz _ _ _ _ (by simp [hs]),← zw,ih (pre++gs) (by simp [hp,zF,hs])];simp
def xw (c:Ctx) (s:ab) (fs:List (Nat×Nat)) (ps:List (Nat×Operand)) (cs:List FV) (K:List FV→Prop):Prop:=∃ cQ,XY c s fs cs ps cQ∧K cQ
theorem xw.nil {c:Ctx} {s:ab} {fs:List (Nat×Nat)} {cs:List FV} {K:List FV→Prop} (h:K cs):xw c s fs [] cs K:=⟨cs,.nil,h⟩
theorem xw.one {c:Ctx} {t:List (Nat×FV)} {ob:List (Nat×zS)} {fs:List (Nat×Nat)} {i off ft:Nat} {x:Operand} {ps:List (Nat×Operand)} {cs:List FV} {K:List FV→Prop} {f:FV} (hx:fw t x=some f) (h1:f.one=true) (hi:fs[i]? = some (off,ft)) (hs:(c.ty ft).size=1) (hl:Nat.blt off cs.length=true) (h:xw c ⟨t,ob⟩ fs ps (cs.set off f) K):xw c ⟨t,ob⟩ fs ((i,x)::ps) cs K:=
 let ⟨cQ,q1,q2⟩:=h;⟨cQ,.one (Xt hx) hi (Yk h1) h1 hs hl q1,q2⟩
theorem xw.agg {c:Ctx} {s:ab} {fs:List (Nat×Nat)} {i off ft:Nat} {x:Operand} {gs:List FV} {ps:List (Nat×Operand)} {cs:List FV} {K:List FV→Prop} (hx:s.ev x=.agg gs) (hi:fs[i]? = some (off,ft)) (h1:gs.all FV.one=true) (hs:gs.length=(c.ty ft).size) (hp:gs≠[]) (hl:Nat.ble (off+gs.length) cs.length=true) (h:xw c s fs ps (lA cs off gs) K):xw c s fs ((i,x)::ps) cs K:=
 let ⟨cQ,q1,q2⟩:=h;⟨cQ,.agg hx hi h1 hs hp hl q1,q2⟩
def TK.known:TK→Bool
 | .other => false
 | _ => true
theorem TK.aD {k:TK} (h:k.known=true):k≠.other:=by rintro rfl;cases h
inductive Uk (t:List (Nat×FV)) (ob:List (Nat×zS)) (m:Vl):Operand→FV→Prop where
 | plain {x:Operand} {f:FV} (h:(⟨t, ob⟩:ab).ev x=f) (hn:f.hand=none):Uk t ob m x f
 | nil {x:Operand} {sz:Nat} (h:(⟨t, ob⟩:ab).ev x=.nil):Uk t ob m x (.list sz [])
 | sub {x:Operand} {f g:FV} (h:(⟨t, ob⟩:ab).ev x=f) (hn:f.hand=none) (hle:FV.le f g):Uk t ob m x g
 | own {x:Operand} {id aa n E sz:Nat} {es:List (List FV)} {lf:yV} (h:(⟨t, ob⟩:ab).ev x=(.own id aa 0 n)) (hb:(⟨t, ob⟩:ab).ob id=⟨aa, lf, E, sz, es⟩) (hl:lf.row=true) (hm:m=.sh → lf=.shut) (hn:n=es.length):Uk t ob m x (.list sz es)
 | part {x:Operand} {id aa o n E sz:Nat} {es:List (List FV)} {lf:yV} (h:(⟨t, ob⟩:ab).ev x=(.own id aa o n)) (hb:(⟨t, ob⟩:ab).ob id=⟨aa, lf, E, sz, es⟩) (hl:lf.row=true) (hm:m=.sh → lf=.shut):Uk t ob m x (.list sz ((es.drop o).take n))
theorem Uk.ok {m:Vl}:∀ {x:Operand} {g:FV},Uk t ob m x g→YJ ⟨t,ob⟩ m ((⟨t,ob⟩:ab).ev x) g
 | _, _, .plain h hn => by rw [h]; exact .plain _ hn
 | _, _, .sub h hn hle => by rw [h]; exact .sub _ _ hn hle
 | _, _, .nil h => by rw [h]; exact .nil _
 | _, _, .own (id := id) (aa := aa) (n := n) (es := es) h hb hl hm hn => by
  rw [h];have:=YJ.own (s:=⟨t,ob⟩) (m:=m) id aa 0 n (yF hb (yV.cZ hl)) (by rw [hb];exact hl) (by rw [hb];exact hm);rw [hb] at this;simpa [hn] using this
 | _, _, .part (id := id) (aa := aa) (o := o) (n := n) h hb hl hm => by
  rw [h];have:=YJ.own (s:=⟨t,ob⟩) (m:=m) id aa o n (yF hb (yV.cZ hl)) (by rw [hb];exact hl) (by rw [hb];exact hm);rw [hb] at this;exact this
inductive zf (t:List (Nat×FV)) (ob:List (Nat×zS)) (m:Vl):List Operand→List FV→Prop where
 | nil:zf t ob m [] []
 | cons {x:Operand} {xs:List Operand} {g:FV} {gs:List FV} (h:Uk t ob m x g) (hs:zf t ob m xs gs):zf t ob m (x :: xs) (g :: gs)
theorem zf.ok {m:Vl}:∀ {xs:List Operand} {gs:List FV},zf t ob m xs gs→xv ⟨t,ob⟩ m xs gs
 | _, _, .nil => .nil
 | _, _, .cons h hs => .cons h.ok hs.ok
inductive fC (t:List (Nat×FV)) (ob:List (Nat×zS)):Operand→Nat→List (List FV)→Prop where
 | nil {x:Operand} {sz:Nat} (h:(⟨t, ob⟩:ab).ev x=.nil):fC t ob x sz []
 | list {x:Operand} {sz:Nat} {es:List (List FV)} (h:(⟨t, ob⟩:ab).ev x=(.list sz es)):fC t ob x sz es
 | own {x:Operand} {id aa n E sz:Nat} {es:List (List FV)} {lf:yV} (h:(⟨t, ob⟩:ab).ev x=(.own id aa 0 n)) (hb:(⟨t, ob⟩:ab).ob id=⟨aa, lf, E, sz, es⟩) (hl:lf.row=true) (hn:n=es.length):fC t ob x sz es
 | part {x:Operand} {id aa o n E sz:Nat} {es:List (List FV)} {lf:yV} (h:(⟨t, ob⟩:ab).ev x=(.own id aa o n)) (hb:(⟨t, ob⟩:ab).ob id=⟨aa, lf, E, sz, es⟩) (hl:lf.row=true):fC t ob x sz ((es.drop o).take n)
theorem fC.ok:∀ {x:Operand} {sz:Nat} {es:List (List FV)},fC t ob x sz es→Src ⟨t,ob⟩ ((⟨t,ob⟩:ab).ev x) sz es
 | _, _, _, .nil h => by rw [h]; exact .nil _
 | _, _, _, .list h => by rw [h]; exact .list _ _
 | _, _, _, .own (id := id) (aa := aa) (n := n) h hb hl hn => by
  rw [h];have:=Src.own (s:=⟨t,ob⟩) id aa 0 n (yF hb (yV.cZ hl)) (by rw [hb];exact hl);rw [hb] at this;simpa [hn] using this
 | _, _, _, .part (id := id) (aa := aa) (o := o) (n := n) h hb hl => by
  rw [h];have:=Src.own (s:=⟨t,ob⟩) id aa o n (yF hb (yV.cZ hl)) (by rw [hb];exact hl);rw [hb] at this;exact this
inductive iL (s:ab):Option Operand→Nat→Prop where
 | none:iL s none 0
 | some {y:Operand} {k:IntKind} {l:Nat} (h:s.ev y=.int k (l:Nat)):iL s (some y) l
 | lit {y:Operand} {k:IntKind} {n:Int} {l:Nat} (h:s.ev y=.int k n) (e:n=(l:Nat)):iL s (some y) l
inductive iK (s:ab):Option Operand→Nat→Nat→Prop where
 | none {m:Nat}:iK s none m m
 | some {y:Operand} {k:IntKind} {m l:Nat} (h:s.ev y=.int k (l:Nat)):iK s (some y) m l
 | lit {y:Operand} {k:IntKind} {n:Int} {m l:Nat} (h:s.ev y=.int k n) (e:n=(l:Nat)):iK s (some y) m l
theorem iL.ok {x:Option Operand} (h:iL s x l):s.lo x l:=by
 cases h with
 | none => exact rfl
 | some h => exact ⟨_, h⟩
 | lit h e => subst e; exact ⟨_, h⟩
theorem iK.ok {x:Option Operand} {m:Nat} (h:iK s x m l):s.hi x m l:=by
 cases h with
 | none => exact rfl
 | some h => exact ⟨_, h⟩
 | lit h e => subst e; exact ⟨_, h⟩
theorem zQ [Inhabited α] {fv:α→List FV} {l:List α} (h:j<l.length):(l.map fv).getD j []=fv (nth l j):=by
 rw [yj,yZ,yY h,Zx h];rfl
theorem qC {fs:List FV} (h:cs.length=fs.length):ag cs 0 fs=fs:=by
 unfold ag;rw [List.take_zero,WJ,zY,List.drop_of_length_le zc,Zf]
section
variable {c:Ctx} {t:List (Nat×FV)} {ob:List (Nat×zS)} {d:Nat}
theorem qO {T:Nat} {kk:TK} (hx:(⟨t,ob⟩:ab).ev x=(.aC sz es j 0)) (hT:c.ty T=⟨kk,sz,c6,ze⟩) (hk:kk.aM = some true) (hp:0<sz) (hj:j<es.length) (bh:es.getD j []=cs) (hl:cs.length=sz):aq c ⟨t,ob⟩ d (.load T x) (.agg cs) []:=by
 have gO : (c.ty T).k.aM = some true:=by rw [hT];exact hk
 have:=aq.cg (c:=c) (s:=⟨t,ob⟩) (d:=d) gO x hx hj (by rw [hT];simp) hp;rw [bh] at this;unfold xu at this;rw [gO] at this;dsimp only at this;rwa [hT,YR,yn (by rw [hl];exact zi _)] at this
theorem qP {T:Nat} {id:Nat} {kk:TK} (hx:(⟨t,ob⟩:ab).ev x=(.ptr id aa j 0)) (hT:c.ty T=⟨kk,sz,c6,ze⟩) (hk:kk.aM = some true) (hp:0<sz) (hb:(⟨t,ob⟩:ab).ob id=⟨aa,lf,E,sz,es⟩) (a0:lf.row=true) (hj:j<es.length) (bh:es.getD j []=cs) (hl:cs.length=sz) :
  aq c ⟨t,ob⟩ d (.load T x) (.agg cs) []:=by
 have gO : (c.ty T).k.aM = some true:=by rw [hT];exact hk
 have:=aq.cP (c:=c) (s:=⟨t,ob⟩) (d:=d) gO x hx (yF hb (yV.cZ a0)) (by rw [hb];exact a0) (by rw [hb];exact hj) (by rw [hb,hT];simp) (by rw [hb];exact hp);rw [hb] at this;dsimp only at this;rw [bh] at this;unfold xu at this;rw [gO] at this;dsimp only at this;rwa [hT,YR,yn (by rw [hl];exact zi _)] at this
theorem qR {T:Nat} {id:Nat} (hx:(⟨t,ob⟩:ab).ev x=(.ptr id aa 0 o)) (hy:(⟨t,ob⟩:ab).ev y=f) (h1:f.one=true) (hk:(c.ty T).k.known=true) (hz:(c.ty T).size=1) (hb:(⟨t,ob⟩:ab).ob id=⟨aa,.own,E,sz,[cs]⟩) (cm:cs.length=sz) (ho:Nat.blt o sz=true) :
  aq c ⟨t,ob⟩ 0 (.store T x y) .undef [(id,⟨aa,.own,E,sz,[cs.set o f]⟩)]:=by
 have dt:=yo ho;have hc:=Yk h1;have:=aq.store (c:=c) (s:=⟨t,ob⟩) (d:=0) (TK.aD hk) x y hx (by rw [hb]) (by rw [hb]) hy (by rw [hc];simp [h1]) (by rw [hz,hc];rfl) (by rw [hb];exact Nat.zero_lt_one) (by rw [hb];dsimp only;omega);rw [hb] at this;have e:=xC (f:=f) (show o<cs.length by omega);simpa [hc,e] using this
theorem qQ {T:Nat} {id:Nat} (hx:(⟨t,ob⟩:ab).ev x=(.ptr id aa j o)) (hy:(⟨t,ob⟩:ab).ev y=f) (h1:f.one=true) (hk:(c.ty T).k.known=true) (hz:(c.ty T).size=1) (hb:(⟨t,ob⟩:ab).ob id=⟨aa,.own,E,sz,es⟩) (hj:j<es.length) (bh:es.getD j []=cs) (cm:cs.length=sz) (ho:Nat.blt o sz=true) :
  aq c ⟨t,ob⟩ 0 (.store T x y) .undef [(id,⟨aa,.own,E,sz,es.set j (cs.set o f)⟩)]:=by
 have dt:=yo ho;have hc:=Yk h1;have:=aq.store (c:=c) (s:=⟨t,ob⟩) (d:=0) (TK.aD hk) x y hx (by rw [hb]) (by rw [hb]) hy (by rw [hc];simp [h1]) (by rw [hz,hc];rfl) (by rw [hb];exact hj) (by rw [hb];dsimp only;omega);rw [hb] at this;have e:=xC (f:=f) (show o<cs.length by omega);rw [hc] at this;dsimp only at this;rw [bh,e] at this;exact this
theorem rI {T d:Nat} (hx:(⟨t,ob⟩:ab).ev x=f) (h1:f.one=true) (hv:(⟨t,ob⟩:ab).ob d=⟨v0,lf0,E0,fy,bU⟩):aq c ⟨t,ob⟩ d (.box T x) (.ptr d (v0+1) 0 0) [(d,⟨v0+1,.own,T,1,[[f]]⟩)]:=by
 have hc:=Yk h1;have:=aq.box (c:=c) (s:=⟨t,ob⟩) (d:=d) (T:=T) x hx (by rw [hc];simp [h1]);rw [Yu hv,hc] at this;exact this
theorem Uy {T:Nat} {id:Nat} {fs:List FV} (hx:(⟨t,ob⟩:ab).ev x=(.ptr id aa 0 0)) (hy:(⟨t,ob⟩:ab).ev y=(.agg fs)) (h1:fs.all FV.one=true) (hk:(c.ty T).k.known=true) (hz:(c.ty T).size=sz) (hb:(⟨t,ob⟩:ab).ob id=⟨aa,.own,E,sz,[cs]⟩) (hl:cs.length=sz) (bV:fs.length=sz) :
  aq c ⟨t,ob⟩ 0 (.store T x y) .undef [(id,⟨aa,.own,E,sz,[fs]⟩)]:=by
 have:=aq.store (c:=c) (s:=⟨t,ob⟩) (d:=0) (TK.aD hk) x y hx (by rw [hb]) (by rw [hb]) hy h1 (by rw [hz];exact bV) (by rw [hb];exact Nat.zero_lt_one) (by rw [hb,hz];simp);rw [hb] at this;simpa [FV.cells,qC (hl.trans bV.symm)] using this
theorem rH {T id n:Nat} {kk:TK} (hx:(⟨t,ob⟩:ab).ev x=(.own id aa 0 n)) (hb:(⟨t,ob⟩:ab).ob id=⟨aa,.own,e,sz,es⟩) (hn:n=es.length) (hT:(c.ty T).k=.slice e) (he:c.ty e=⟨kk,sz,c6,z⟩) (hk:kk.known=true) (hp:0<sz) (hy:fC t ob y sz av)
  (aG:(es.length+av.length) * c6≤140737488355328) (hm:es.length+av.length≤140737488355328) (hv:(⟨t,ob⟩:ab).ob d=⟨v0,lf0,E0,fy,bU⟩) :
  aq c ⟨t,ob⟩ d (.call { callee:=.builtin .append,args:=#[x,y],argTypes:=#[T,T] }) (.own d (v0+1) 0 (es++av).length) [(id,⟨aa,.dead,e,sz,es⟩),(d,⟨v0+1,.own,e,sz,es++av⟩)]:=by
 have lR:fE ⟨t,ob⟩ (.own id aa 0 n) sz es (some id):=by
  have:=fE.own (s:=⟨t,ob⟩) id aa (by rw [hb]) (by rw [hb]) n (by rw [hb];exact hn);rw [hb] at this;exact this
 have:=aq.append (c:=c) (s:=⟨t,ob⟩) (d:=d) (i:=some id) hT (by rw [he];exact TK.aD hk) (by rw [he];exact hp) x y hx rfl (by rw [he];exact lR) (fun k h=>by injection h with h;subst h;rw [hb]) (by rw [he];exact hy.ok) (by rw [he];exact aG) hm;rw [he] at this;simpa [xE,Yu hv,hb] using this
end
section
variable {c:Ctx} {ops:Array Oper} {rest:List Oper} {t:List (Nat×FV)} {ob:List (Nat×zS)} {d:Nat} {ty:TypeId} {pos:String} {af:Array Edge} {g:Option (Nat×Bool)} {Q:ab→Prop} {QD:ab→List Rec→Prop} {tr:List Rec}
theorem XV (hd:Nat.blt d c.N=true) (h:aq c s d op f wr):j2 c s ⟨some d,op,ty,pos,af,g⟩ f wr d:=
 ⟨.inl rfl,(fun _ e=>by injection e with e;subst e;exact yo hd),h⟩
theorem oL (h:aq c s d (.store T x y) f wr):j2 c s ⟨none,.store T x y,ty,pos,af,g⟩ f wr d:=
 ⟨.inr ⟨rfl,.inl ⟨_,_,_,rfl⟩⟩,(fun _ e=>by cases e),h⟩
theorem sP {z:Operand} (h:aq c s d (.mapUpdate T x y z) f wr):j2 c s ⟨none,.mapUpdate T x y z,ty,pos,af,g⟩ f wr d:=
 ⟨.inr ⟨rfl,.inr ⟨_,_,_,_,rfl⟩⟩,(fun _ e=>by cases e),h⟩
theorem zq.er (h:aq c ⟨t,ob⟩ 0 (.store T x y) .undef [p]) (hw:xn ops ⟨t,ob⟩ ⟨none,.store T x y,ty,pos,af,g⟩ true) (k:zq c ops rest ⟨t,p::ob⟩ Q):zq c ops (⟨none,.store T x y,ty,pos,af,g⟩::rest) ⟨t,ob⟩ Q:=zq.cons (f:=.undef) (wr:=[p]) (d:=0) (oL h) hw rfl k
theorem zq.ak (h:aq c ⟨t,ob⟩ d op f []) (hd:Nat.blt d c.N=true) (hw:xn ops ⟨t,ob⟩ ⟨some d,op,ty,pos,af,g⟩ true) (k:zq c ops rest ⟨(d,f)::t,ob⟩ Q):zq c ops (⟨some d,op,ty,pos,af,g⟩::rest) ⟨t,ob⟩ Q:=zq.cons (f:=f) (wr:=[]) (d:=d) (XV hd h) hw rfl k
theorem zq.bW (h:aq c ⟨t,ob⟩ d op f [p]) (hd:Nat.blt d c.N=true) (hw:xn ops ⟨t,ob⟩ ⟨some d,op,ty,pos,af,g⟩ true) (k:zq c ops rest ⟨(d,f)::t,p::ob⟩ Q):zq c ops (⟨some d,op,ty,pos,af,g⟩::rest) ⟨t,ob⟩ Q:=zq.cons (f:=f) (wr:=[p]) (d:=d) (XV hd h) hw rfl k
theorem zA.er (h:aq c ⟨t,ob⟩ 0 (.store T x y) .undef [p]) (hw:xn ops ⟨t,ob⟩ ⟨none,.store T x y,ty,pos,af,g⟩ true) (k:zA c ops rest ⟨t,p::ob⟩ (tr++[⟨⟨none,.store T x y,ty,pos,af,g⟩,.undef,[p],Yf ⟨t,ob⟩ 0 (.store T x y)⟩]) QD):zA c ops (⟨none,.store T x y,ty,pos,af,g⟩::rest) ⟨t,ob⟩ tr QD:=zA.cons (f:=.undef) (wr:=[p]) (d:=0) (oL h) hw rfl rfl k
theorem zA.ak (h:aq c ⟨t,ob⟩ d op f []) (hd:Nat.blt d c.N=true) (hw:xn ops ⟨t,ob⟩ ⟨some d,op,ty,pos,af,g⟩ true) (k:zA c ops rest ⟨(d,f)::t,ob⟩ (tr++[⟨⟨some d,op,ty,pos,af,g⟩,f,[],Yf ⟨t,ob⟩ d op⟩]) QD):zA c ops (⟨some d,op,ty,pos,af,g⟩::rest) ⟨t,ob⟩ tr QD:=zA.cons (f:=f) (wr:=[]) (d:=d) (XV hd h) hw rfl rfl k
theorem zA.bW (h:aq c ⟨t,ob⟩ d op f [p]) (hd:Nat.blt d c.N=true) (hw:xn ops ⟨t,ob⟩ ⟨some d,op,ty,pos,af,g⟩ true) (k:zA c ops rest ⟨(d,f)::t,p::ob⟩ (tr++[⟨⟨some d,op,ty,pos,af,g⟩,f,[p],Yf ⟨t,ob⟩ d op⟩]) QD):zA c ops (⟨some d,op,ty,pos,af,g⟩::rest) ⟨t,ob⟩ tr QD:=zA.cons (f:=f) (wr:=[p]) (d:=d) (XV hd h) hw rfl rfl k
theorem xj (hx:fw t x=some f):aq c ⟨t,ob⟩ d (.move x) f []:=(by have:=aq.move (c:=c) (s:=⟨t,ob⟩) (d:=d) x;rwa [Xt hx] at this)
theorem xi (hx:fw t x=some f):aq c ⟨t,ob⟩ d (.assign x) f []:=(by have:=aq.assign (c:=c) (s:=⟨t,ob⟩) (d:=d) x;rwa [Xt hx] at this)
theorem WR {q:Operand} (hq:(⟨t,ob⟩:ab).ev q=(.bool true)) (hx:fw t x=some f):aq c ⟨t,ob⟩ d (.pick q x y) f []:=(by have:=aq.pick (c:=c) (s:=⟨t,ob⟩) (d:=d) q x y hq;rw [if_pos rfl,Xt hx] at this;exact this)
theorem WQ {q:Operand} (hq:(⟨t,ob⟩:ab).ev q=(.bool false)) (hx:fw t y=some f):aq c ⟨t,ob⟩ d (.pick q x y) f []:=(by have:=aq.pick (c:=c) (s:=⟨t,ob⟩) (d:=d) q x y hq;rw [if_neg za,Xt hx] at this;exact this)
theorem sa (hx:(⟨t,ob⟩:ab).ev x=.int .i64 m) (hy:(⟨t,ob⟩:ab).ev y=.int .i64 n) (hr:-9223372036854775808≤m+n∧m+n≤9223372036854775807):aq c ⟨t,ob⟩ d (.binOp .add T x y T2) (.int .i64 (m+n)) []:=(.bR .add T T2 x y hx hy (by simp only [bR];rw [oc _ hr]))
theorem oq (hx:(⟨t,ob⟩:ab).ev x=.int .i64 m) (hy:(⟨t,ob⟩:ab).ev y=.int .i64 n) (hr:-9223372036854775808≤m - n∧m - n≤9223372036854775807):aq c ⟨t,ob⟩ d (.binOp .sub T x y T2) (.int .i64 (m - n)) []:=(.bR .sub T T2 x y hx hy (by simp only [bR];rw [oc _ hr]))
theorem UW (hx:(⟨t,ob⟩:ab).ev x=.int kk m) (hy:(⟨t,ob⟩:ab).ev y=.int kk n):aq c ⟨t,ob⟩ d (.binOp .eql T x y T2) (.bool (decide (m=n))) []:=(.bR .eql T T2 x y hx hy rfl)
theorem mU (hx:(⟨t,ob⟩:ab).ev x=.int kk m) (hy:(⟨t,ob⟩:ab).ev y=.int kk n):aq c ⟨t,ob⟩ d (.binOp .neq T x y T2) (.bool (decide (m≠n))) []:=(.bR .neq T T2 x y hx hy (by simp only [bR];congr 2;by_cases h:m=n <;> simp [h,bne]))
theorem mT (hx:(⟨t,ob⟩:ab).ev x=.int kk m) (hy:(⟨t,ob⟩:ab).ev y=.int kk n):aq c ⟨t,ob⟩ d (.binOp .lss T x y T2) (.bool (decide (m<n))) []:=(.bR .lss T T2 x y hx hy rfl)
theorem sb (hx:(⟨t,ob⟩:ab).ev x=.int kk m) (hy:(⟨t,ob⟩:ab).ev y=.int kk n):aq c ⟨t,ob⟩ d (.binOp .leq T x y T2) (.bool (decide (m≤n))) []:=(.bR .leq T T2 x y hx hy rfl)
theorem oo (hx:(⟨t,ob⟩:ab).ev x=.int kk m) (hy:(⟨t,ob⟩:ab).ev y=.int kk n):aq c ⟨t,ob⟩ d (.binOp .gtr T x y T2) (.bool (decide (m > n))) []:=(.bR .gtr T T2 x y hx hy rfl)
theorem om (hx:(⟨t,ob⟩:ab).ev x=.int kk m) (hy:(⟨t,ob⟩:ab).ev y=.int kk n):aq c ⟨t,ob⟩ d (.binOp .geq T x y T2) (.bool (decide (m≥n))) []:=(.bR .geq T T2 x y hx hy rfl)
theorem mV (hx:(⟨t,ob⟩:ab).ev x=.bool b):aq c ⟨t,ob⟩ d (.unOp .not T x) (.bool (!b)) []:=(.not T x hx)
theorem sg {T T2:TypeId} (hx:(⟨t,ob⟩:ab).ev x=.int kk m) (hy:(⟨t,ob⟩:ab).ev y=.int kk n):aq c ⟨t,ob⟩ d (.call { callee:=.builtin .min,args:=#[x,y],argTypes:=#[T,T2] }) (.int kk (min m n)) []:=(by have:=aq.min2 (c:=c) (s:=⟨t,ob⟩) (d:=d) .min T T2 x y hx hy (.inl rfl);rw [if_pos rfl] at this;rwa [show min m n=if n<m then n else m by split <;> omega])
theorem se {T T2:TypeId} (hx:(⟨t,ob⟩:ab).ev x=.int kk m) (hy:(⟨t,ob⟩:ab).ev y=.int kk n):aq c ⟨t,ob⟩ d (.call { callee:=.builtin .max,args:=#[x,y],argTypes:=#[T,T2] }) (.int kk (max m n)) []:=(by have:=aq.min2 (c:=c) (s:=⟨t,ob⟩) (d:=d) .max T T2 x y hx hy (.inr rfl);rw [if_neg za] at this;rwa [show max m n=if m<n then n else m by split <;> omega])
theorem rJ {T n:Nat} {id:Nat} (hx:(⟨t,ob⟩:ab).ev x=.own id aa o n) (hT:(c.ty T).k=.slice e) (hb:(⟨t,ob⟩:ab).ob id=⟨aa,lf,E,sz,es⟩) (hl:lf≠.dead):aq c ⟨t,ob⟩ d (.call { callee:=.builtin .len,args:=#[x],argTypes:=#[T] }) (.int .i64 n) []:=(.dT hT x hx (yF hb hl))
theorem Zn {e:TypeId} {n:Nat} (hx:(⟨t,ob⟩:ab).ev x=.list sz es) (hT:(c.ty T).k=.slice e) (hn:es.length=n):aq c ⟨t,ob⟩ d (.call { callee:=.builtin .len,args:=#[x],argTypes:=#[T] }) (.int .i64 n) []:=(hn▸.dg hT x hx)
theorem qh {e:TypeId} (hx:(⟨t,ob⟩:ab).ev x=.nil) (hT:(c.ty T).k=.slice e):aq c ⟨t,ob⟩ d (.call { callee:=.builtin .len,args:=#[x],argTypes:=#[T] }) (.int .i64 0) []:=(.dS hT x hx)
theorem Ya {T ft z:Nat} {id:Nat} (hx:(⟨t,ob⟩:ab).ev x=.ptr id aa j o) (hT:(c.ty T).k=.ao fs) (hf:fs[i]? = some (off,ft)) (hk:(c.ty ft).k.known=true) (hz:(c.ty ft).size=z+1) (hb:(⟨t,ob⟩:ab).ob id=⟨aa,lf,E,sz,es⟩) (hl:lf≠.dead):aq c ⟨t,ob⟩ d (.fieldAddr T x i) (.ptr id aa j (o+off)) []:=(.cH hT hf (TK.aD hk) zc x hx (yF hb hl))
theorem xz {T ft z:Nat} (hx:(⟨t,ob⟩:ab).ev x=.aC sz es j o) (hT:(c.ty T).k=.ao fs) (hf:fs[i]? = some (off,ft)) (hk:(c.ty ft).k.known=true) (hz:(c.ty ft).size=z+1):aq c ⟨t,ob⟩ d (.fieldAddr T x i) (.aC sz es j (o+off)) []:=(.cj hT hf (TK.aD hk) zc x hx)
theorem Yb {T:Nat} {n:Nat} (hx:(⟨t,ob⟩:ab).ev x=.list sz es) (hy:(⟨t,ob⟩:ab).ev y=.int kk m) (hm:m=(n:Int)) (hT:(c.ty T).k=.slice e) (hk:(c.ty e).k.known=true) (hz:(c.ty e).size=sz) (hn:n<es.length):aq c ⟨t,ob⟩ d (.indexAddr T x y) (.aC sz es n 0) []:=(by subst hm;exact .cp hT (TK.aD hk) x y hx hz hy hn)
theorem qg {T p:Nat} {n:Nat} {id:Nat} (hx:(⟨t,ob⟩:ab).ev x=.own id aa 0 p) (hy:(⟨t,ob⟩:ab).ev y=.int kk m) (hm:m=(n:Int)) (hT:(c.ty T).k=.slice e) (hk:(c.ty e).k.known=true) (hb:(⟨t,ob⟩:ab).ob id=⟨aa,lf,E,sz,es⟩) (hl:lf≠.dead) (hz:(c.ty e).size=sz) (hn:n<p):aq c ⟨t,ob⟩ d (.indexAddr T x y) (.ptr id aa n 0) []:=(by subst hm;have:=aq.cO (c:=c) (s:=⟨t,ob⟩) (d:=d) hT (TK.aD hk) x y hx (yF hb hl) (by rw [hb];exact hz) hy hn;rwa [zY] at this)
theorem xJ {T:Nat} (hx:(⟨t,ob⟩:ab).ev x=.aC sz es j o) (hk:(c.ty T).k.aM = some false) (hz:(c.ty T).size=1) (hj:j<es.length) (bh:es.getD j []=cs) (cm:cs.length=sz) (hf:cs[o]? = some f):aq c ⟨t,ob⟩ d (.load T x) f []:=(by have h1:=Wn hf;have:=aq.cg (c:=c) (s:=⟨t,ob⟩) (d:=d) hk x hx hj zc zc;rw [bh] at this;unfold xu at this;rw [hk] at this;dsimp only at this;rw [h1.2] at this;exact this)
theorem Yc {T:Nat} {id:Nat} (hx:(⟨t,ob⟩:ab).ev x=.ptr id aa j o) (hk:(c.ty T).k.aM = some false) (hz:(c.ty T).size=1) (hb:(⟨t,ob⟩:ab).ob id=⟨aa,lf,E,sz,es⟩) (hl:lf.row=true) (hj:j<es.length) (bh:es.getD j []=cs) (cm:cs.length=sz) (hf:cs[o]? = some f):aq c ⟨t,ob⟩ d (.load T x) f []:=(by have h1:=Wn hf;have:=aq.cP (c:=c) (s:=⟨t,ob⟩) (d:=d) hk x hx (yF hb (yV.cZ hl)) (by rw [hb];exact hl) (by rw [hb];exact hj) (by rw [hb];dsimp only;omega) (by rw [hb];dsimp only;omega);rw [hb] at this;dsimp only at this;rw [bh] at this;unfold xu at this;rw [hk] at this;dsimp only at this;rw [h1.2] at this;exact this)
theorem Vr {T:Nat} {kk:TK} (hx:(⟨t,ob⟩:ab).ev x=.aC sz es j 0) (hT:c.ty T=⟨kk,sz,c6,ze⟩) (hk:kk.aM = some true) (hp:0<sz) (hj:j<es.length) (bh:es.getD j []=cs) (cm:cs.length=sz):aq c ⟨t,ob⟩ d (.load T x) (.agg cs) []:=(qO hx hT hk hp hj bh cm)
theorem Yd {T:Nat} {kk:TK} {id:Nat} (hx:(⟨t,ob⟩:ab).ev x=.ptr id aa j 0) (hT:c.ty T=⟨kk,sz,c6,ze⟩) (hk:kk.aM = some true) (hp:0<sz) (hb:(⟨t,ob⟩:ab).ob id=⟨aa,lf,E,sz,es⟩) (hl:lf.row=true) (hj:j<es.length) (bh:es.getD j []=cs) (cm:cs.length=sz):aq c ⟨t,ob⟩ d (.load T x) (.agg cs) []:=(qP hx hT hk hp hb hl hj bh cm)
theorem Vs {T id:Nat} (hx:(⟨t,ob⟩:ab).ev x=.ptr id aa 0 o) (hy:fw t y=some f) (h1:f.one=true) (hk:(c.ty T).k.known=true) (hz:(c.ty T).size=1) (hb:(⟨t,ob⟩:ab).ob id=⟨aa,.own,E,sz,[cs]⟩) (cm:cs.length=sz) (ho:Nat.blt o sz=true):aq c ⟨t,ob⟩ 0 (.store T x y) .undef [(id,⟨aa,.own,E,sz,[cs.set o f]⟩)]:=(qR hx (Xt hy) h1 hk hz hb cm ho)
theorem rN {T id:Nat} (hx:(⟨t,ob⟩:ab).ev x=.ptr id aa j o) (hy:fw t y=some f) (h1:f.one=true) (hk:(c.ty T).k.known=true) (hz:(c.ty T).size=1) (hb:(⟨t,ob⟩:ab).ob id=⟨aa,.own,E,sz,es⟩) (hj:j<es.length) (bh:es.getD j []=cs) (cm:cs.length=sz) (ho:Nat.blt o sz=true):aq c ⟨t,ob⟩ 0 (.store T x y) .undef [(id,⟨aa,.own,E,sz,es.set j (cs.set o f)⟩)]:=(qQ hx (Xt hy) h1 hk hz hb hj bh cm ho)
theorem Zo {T id:Nat} {fs:List FV} (hx:(⟨t,ob⟩:ab).ev x=.ptr id aa 0 0) (hy:(⟨t,ob⟩:ab).ev y=.agg fs) (h1:fs.all FV.one=true) (hk:(c.ty T).k.known=true) (hz:(c.ty T).size=sz) (hb:(⟨t,ob⟩:ab).ob id=⟨aa,.own,E,sz,[cs]⟩) (cm:cs.length=sz) (bV:fs.length=sz):aq c ⟨t,ob⟩ 0 (.store T x y) .undef [(id,⟨aa,.own,E,sz,[fs]⟩)]:=(Uy hx hy h1 hk hz hb cm bV)
theorem ZZ {T:Nat} {kk:TK} (hT:c.ty T=⟨kk,sz,c6,z⟩) (hk:kk.known=true) (hz:z.all FV.one=true) (hl:z.length=sz) (hv:(⟨t,ob⟩:ab).ob d=⟨v0,lf0,E0,fy,bU⟩):aq c ⟨t,ob⟩ d (.alloc T) (.ptr d (v0+1) 0 0) [(d,⟨v0+1,.own,T,sz,[z]⟩)]:=(by have:=aq.alloc (c:=c) (s:=⟨t,ob⟩) (d:=d) (T:=T) (by rw [hT];exact TK.aD hk) (by rw [hT];exact hz);rw [hT,Yu hv] at this;dsimp only at this;rw [hl] at this;exact this)
theorem xV {T:Nat} {kk:TK} {fs:List FV} (hx:(⟨t,ob⟩:ab).ev x=.agg fs) (hT:c.ty T=⟨kk,sz,c6,z⟩) (h1:fs.all FV.one=true) (hl:fs.length=sz) (hv:(⟨t,ob⟩:ab).ob d=⟨v0,lf0,E0,fy,bU⟩):aq c ⟨t,ob⟩ d (.box T x) (.ptr d (v0+1) 0 0) [(d,⟨v0+1,.own,T,sz,[fs]⟩)]:=(by have:=aq.box (c:=c) (s:=⟨t,ob⟩) (d:=d) (T:=T) x hx h1;rw [Yu hv] at this;dsimp only [FV.cells] at this;rw [hl] at this;exact this)
theorem su {T:Nat} (hx:fw t x=some f) (h1:f.one=true) (hv:(⟨t,ob⟩:ab).ob d=⟨v0,lf0,E0,fy,bU⟩) (hd:Nat.blt d c.N=true) (hw:xn ops ⟨t,ob⟩ ⟨some d,.box T x,ty,pos,af,g⟩ true) (k:zq c ops rest ⟨((d,(.ptr d (v0+1) 0 0))::t),((d,⟨v0+1,.own,T,1,[[f]]⟩)::ob)⟩ Q):zq c ops (⟨some d,.box T x,ty,pos,af,g⟩::rest) ⟨t,ob⟩ Q:=
 zq.cons (XV hd (rI (Xt hx) h1 hv)) hw rfl k
theorem sy {T:Nat} (hT:c.ty T=⟨.ao fs,sz,c6,z⟩) (hk:fs.all (fun p=>(c.ty p.2).k.known)=true) (hf:XY c ⟨t,ob⟩ fs z ps cs) (hd:Nat.blt d c.N=true) (hw:xn ops ⟨t,ob⟩ ⟨some d,.build T ps.toArray,ty,pos,af,g⟩ true) (k:zq c ops rest ⟨((d,(.agg cs))::t),ob⟩ Q):zq c ops (⟨some d,.build T ps.toArray,ty,pos,af,g⟩::rest) ⟨t,ob⟩ Q:=
 zq.cons (XV hd (.build (by rw [hT]) (fun p hp=>TK.aD (zC.1 hk p hp)) ps.toArray (by rw [hT];exact hf.get))) hw rfl k
theorem rh {T:Nat} (hT:c.ty T=⟨.ao fs,sz,c6,z⟩) (hk:fs.all (fun p=>(c.ty p.2).k.known)=true) (hf:XY c ⟨t,ob⟩ fs z ps cs) (hd:Nat.blt d c.N=true) (hw:xn ops ⟨t,ob⟩ ⟨some d,.build T ps.toArray,ty,pos,af,g⟩ true) (k:zA c ops rest ⟨((d,(.agg cs))::t),ob⟩ (tr++[⟨⟨some d,.build T ps.toArray,ty,pos,af,g⟩,(.agg cs),[],Yf ⟨t,ob⟩ d (.build T ps.toArray)⟩]) QD):zA c ops (⟨some d,.build T ps.toArray,ty,pos,af,g⟩::rest) ⟨t,ob⟩ tr QD:=
 zA.cons (XV hd (.build (by rw [hT]) (fun p hp=>TK.aD (zC.1 hk p hp)) ps.toArray (by rw [hT];exact hf.get))) hw rfl rfl k
theorem zI {T n:Nat} {kk:TK} (hT:(c.ty T).k=.slice e) (he:c.ty e=⟨kk,sz,c6,z⟩) (hk:kk.known=true) (hf:yf ⟨t,ob⟩ sz 0 ps es) (hn:ps.length=n) (hm:Nat.ble (n * sz) 16777216=true) (gZ:Nat.ble n 16777216=true) (hd:Nat.blt d c.N=true) (hw:xn ops ⟨t,ob⟩ ⟨some d,.buildSlice T n ps.toArray,ty,pos,af,g⟩ true) (k:zq c ops rest ⟨((d,(.list sz es))::t),ob⟩ Q):zq c ops (⟨some d,.buildSlice T n ps.toArray,ty,pos,af,g⟩::rest) ⟨t,ob⟩ Q:=
 zq.cons (f:=(.list sz es)) (wr:=[]) (d:=d) (XV hd (by subst hn;obtain ⟨l1,l2,l3⟩:=hf.len;have fU:=hf.fill [] zd;have:=aq.bt (c:=c) (s:=⟨t,ob⟩) (d:=d) (n:=ps.length) hT (by rw [he];exact TK.aD hk) ps.toArray es l1 (by rw [he];exact l2) l3 (by rw [he];exact yo hm) (yo gZ) (by rw [he];simpa [ab.parts] using fU);rw [he] at this;exact this)) hw rfl k
theorem Wt {T n:Nat} {kk:TK} (hT:(c.ty T).k=.slice e) (he:c.ty e=⟨kk,sz,c6,z⟩) (hk:kk.known=true) (hf:yf ⟨t,ob⟩ sz 0 ps es) (hn:ps.length=n) (hm:Nat.ble (n * sz) 16777216=true) (gZ:Nat.ble n 16777216=true) (hd:Nat.blt d c.N=true) (hw:xn ops ⟨t,ob⟩ ⟨some d,.buildSlice T n ps.toArray,ty,pos,af,g⟩ true) (k:zA c ops rest ⟨((d,(.list sz es))::t),ob⟩ (tr++[⟨⟨some d,.buildSlice T n ps.toArray,ty,pos,af,g⟩,(.list sz es),[],Yf ⟨t,ob⟩ d (.buildSlice T n ps.toArray)⟩]) QD):zA c ops (⟨some d,.buildSlice T n ps.toArray,ty,pos,af,g⟩::rest) ⟨t,ob⟩ tr QD:=
 zA.cons (f:=(.list sz es)) (wr:=[]) (d:=d) (XV hd (by subst hn;obtain ⟨l1,l2,l3⟩:=hf.len;have fU:=hf.fill [] zd;have:=aq.bt (c:=c) (s:=⟨t,ob⟩) (d:=d) (n:=ps.length) hT (by rw [he];exact TK.aD hk) ps.toArray es l1 (by rw [he];exact l2) l3 (by rw [he];exact yo hm) (yo gZ) (by rw [he];simpa [ab.parts] using fU);rw [he] at this;exact this)) hw rfl rfl k
theorem qL {T:Nat} {kk:TK} (hT:(c.ty T).k=.slice e) (he:c.ty e=⟨kk,sz,c6,z⟩) (hk:kk.known=true) (hv:(⟨t,ob⟩:ab).ob d=⟨v0,lf0,E0,fy,bU⟩):aq c ⟨t,ob⟩ d (.buildSlice T 0 #[]) (.own d (v0+1) 0 0) [(d,⟨v0+1,.own,e,sz,[]⟩)]:=(by have:=aq.buildSlice (c:=c) (s:=⟨t,ob⟩) (d:=d) (n:=0) hT (by rw [he];exact TK.aD hk) #[] [] rfl zd zd zd zd (by simp [ab.parts,xo]);rw [Yu hv,he] at this;exact this)
theorem sk {T n:Nat} {m1 m2:Int} {k1 k2:IntKind} {kk:TK} (hx:(⟨t,ob⟩:ab).ev x=.int k1 m1) (kq:m1=(n:Int)) (hy:(⟨t,ob⟩:ab).ev y=.int k2 m2) (gZ:m2=(n:Int)) (hT:(c.ty T).k=.slice e) (he:c.ty e=⟨kk,sz,c6,z⟩) (hk:kk.known=true) (hz:z.all FV.one=true) (hb:c6 * n≤281474976710656) (hn:n≤281474976710656) (hv:(⟨t,ob⟩:ab).ob d=⟨v0,lf0,E0,fy,bU⟩):aq c ⟨t,ob⟩ d (.makeSlice T x y) (.own d (v0+1) 0 n) [(d,⟨v0+1,.own,e,sz,List.replicate n z⟩)]:=(by subst kq;subst gZ;have:=aq.makeSlice (c:=c) (s:=⟨t,ob⟩) (d:=d) (n:=n) hT (by rw [he];exact TK.aD hk) x y hx hy (by rw [he];exact hz) (by rw [he];exact hb) hn;rw [he,Yu hv] at this;exact this)
theorem rM {T u:Nat} {lo hi:Option Operand} (hx:(⟨t,ob⟩:ab).ev x=.list sz es) (hT:(c.ty T).k=.slice e) (hk:(c.ty e).k.known=true) (hz:(c.ty e).size=sz) (cK:iL ⟨t,ob⟩ lo l) (cd:iK ⟨t,ob⟩ hi es.length u) (h1:l≤u) (h2:u≤es.length):aq c ⟨t,ob⟩ d (.slice T x lo hi none) (.list sz ((es.drop l).take (u - l))) []:=(.cr hT (TK.aD hk) x lo hi hx hz cK.ok cd.ok h1 h2)
theorem qq {fs:List FV} (hx:(⟨t,ob⟩:ab).ev x=.bw fs) (hf:fs[i]? = some f) (hh:f.hand=none) (hd:Nat.blt d c.N=true) (hw:xn ops ⟨t,ob⟩ ⟨some d,.extract x i,ty,pos,af,g⟩ true) (k:zA c ops rest ⟨((d,f)::t),ob⟩ (tr++[⟨⟨some d,.extract x i,ty,pos,af,g⟩,f,[],Yf ⟨t,ob⟩ d (.extract x i)⟩]) QD):zA c ops (⟨some d,.extract x i,ty,pos,af,g⟩::rest) ⟨t,ob⟩ tr QD:=
 zA.cons (XV hd (.extract x hx hf hh)) hw rfl rfl k
theorem ss {T id n:Nat} {kk:TK} (hx:(⟨t,ob⟩:ab).ev x=.own id aa 0 n) (hb:(⟨t,ob⟩:ab).ob id=⟨aa,.own,e,sz,es⟩) (hn:n=es.length) (hT:(c.ty T).k=.slice e) (he:c.ty e=⟨kk,sz,c6,z⟩) (hk:kk.known=true) (hp:0<sz) (hy:fC t ob y sz av) (aG:(es.length+av.length) * c6≤140737488355328) (hm:es.length+av.length≤140737488355328) (hv:(⟨t,ob⟩:ab).ob d=⟨v0,lf0,E0,fy,bU⟩) (hd:Nat.blt d c.N=true) (hw:xn ops ⟨t,ob⟩ ⟨some d,.call { callee:=.builtin .append,args:=#[x,y],argTypes:=#[T,T] },ty,pos,af,g⟩ true) (k:zq c ops rest ⟨((d,(.own d (v0+1) 0 (es++av).length))::t),((d,⟨v0+1,.own,e,sz,es++av⟩)::(id,⟨aa,.dead,e,sz,es⟩)::ob)⟩ Q):zq c ops (⟨some d,.call { callee:=.builtin .append,args:=#[x,y],argTypes:=#[T,T] },ty,pos,af,g⟩::rest) ⟨t,ob⟩ Q:=
 zq.cons (XV hd (rH hx hb hn hT he hk hp hy aG hm hv)) hw rfl k
theorem qN {T:Nat} (hv:(⟨t,ob⟩:ab).ob d=⟨v0,lf0,E0,fy,bU⟩):aq c ⟨t,ob⟩ d (.makeMap T none) (.omap d (v0+1)) [(d,⟨v0+1,.aR,T,0,[]⟩)]:=(by have:=aq.makeMap (c:=c) (s:=⟨t,ob⟩) (d:=d) T;rw [Yu hv] at this;exact this)
theorem Ua {T k e:Nat} {bb found:Bool} {x y:Operand} {kf vf:FV} {id aa E sz:Nat} {lf:yV} {es:List (List FV)} (K:Maps.Keyed c.P k) (eH:∀ row∈es,∀ kf,row.head? = some kf→Zs c.P k kf) (bP:Zs c.P k kf) (ma:XZ es kf (c.ty e).hJ vf found) (hx:(⟨t,ob⟩:ab).ev x=.omap id aa) (hb:(⟨t,ob⟩:ab).ob id=⟨aa,lf,E,sz,es⟩) (hl:lf≠.dead∧lf≠.bm) (hy:(⟨t,ob⟩:ab).ev y=kf) (hT:(c.ty T).k=.map k e) (he:(c.ty e).k.aM = some bb) (hn:vf.hand=none) (hd:Nat.blt d c.N=true) (hw:xn ops ⟨t,ob⟩ ⟨some d,.lookup T x y false,ty,pos,af,g⟩ true) (k:zq c ops rest ⟨((d,vf)::t),ob⟩ Q):zq c ops (⟨some d,.lookup T x y false,ty,pos,af,g⟩::rest) ⟨t,ob⟩ Q:=
 zq.cons (f:=vf) (wr:=[]) (d:=d) (XV hd (by have:=aq.look (c:=c) (s:=⟨t,ob⟩) (d:=d) hT he K x y false (.inl ⟨id,aa,hx,⟨yF hb hl.1,by rw [hb];exact hl.2⟩,by rw [hb]⟩) hy eH bP ma hn;simpa using this)) hw rfl k
theorem yz {T k e id aa E sz:Nat} {x y z:Operand} {kf vf:FV} {es aO : List (List FV)} (K:Maps.Keyed c.P k) (eH:∀ row∈es,∀ kf,row.head? = some kf→Zs c.P k kf) (bP:Zs c.P k kf) (hs:kR es kf vf aO) (hx:(⟨t,ob⟩:ab).ev x=.omap id aa) (hb:(⟨t,ob⟩:ab).ob id=⟨aa,.aR,E,sz,es⟩) (hy:(⟨t,ob⟩:ab).ev y=kf) (hz:(⟨t,ob⟩:ab).ev z=vf) (hT:(c.ty T).k=.map k e) (hn:vf.hand=none) (hw:xn ops ⟨t,ob⟩ ⟨none,.mapUpdate T x y z,ty,pos,af,g⟩ true) (k:zq c ops rest ⟨t,((id,⟨aa,.aR,E,sz,aO⟩)::ob)⟩ Q):zq c ops (⟨none,.mapUpdate T x y z,ty,pos,af,g⟩::rest) ⟨t,ob⟩ Q:=
 zq.cons (f:=.undef) (wr:=[(id,⟨aa,.aR,E,sz,aO⟩)]) (d:=0) (sP (by have:=aq.update (c:=c) (s:=⟨t,ob⟩) (d:=0) hT K x y z hx (by rw [hb]) (by rw [hb]) hy hz (by rw [hb];exact eH) bP hn (aO:=aO) (by rw [hb];exact hs);rw [hb] at this;exact this)) hw rfl k
theorem zx {f:Nat} (hs:zV c.P f gs .fr res) (hx:zf t ob .fr xs gs) (hd:Nat.blt d c.N=true) (hw:xn ops ⟨t,ob⟩ ⟨some d,.call { callee:=.value (.func f),args:=xs.toArray,argTypes:=ts },ty,pos,af,g⟩ true) (k:zq c ops rest ⟨((d,res)::t),ob⟩ Q):zq c ops (⟨some d,.call { callee:=.value (.func f),args:=xs.toArray,argTypes:=ts },ty,pos,af,g⟩::rest) ⟨t,ob⟩ Q:=
 zq.cons (XV hd (.call hs (.inl rfl) (by simpa using hx.ok))) hw rfl k
theorem YA {f:Nat} (hs:zV c.P f gs .fr res) (hx:zf t ob .fr xs gs) (hd:Nat.blt d c.N=true) (hw:xn ops ⟨t,ob⟩ ⟨some d,.call { callee:=.value (.func f),args:=xs.toArray,argTypes:=ts },ty,pos,af,g⟩ true) (k:zA c ops rest ⟨((d,res)::t),ob⟩ (tr++[⟨⟨some d,.call { callee:=.value (.func f),args:=xs.toArray,argTypes:=ts },ty,pos,af,g⟩,res,[],Yf ⟨t,ob⟩ d (.call { callee:=.value (.func f),args:=xs.toArray,argTypes:=ts })⟩]) QD):zA c ops (⟨some d,.call { callee:=.value (.func f),args:=xs.toArray,argTypes:=ts },ty,pos,af,g⟩::rest) ⟨t,ob⟩ tr QD:=
 zA.cons (XV hd (.call hs (.inl rfl) (by simpa using hx.ok))) hw rfl rfl k
theorem Yo {f:Nat} (hx:(⟨t,ob⟩:ab).ev x=.fn f aE) (hs:zV c.P f (gs++aE) .fr res) (ha:zf t ob .fr xs gs) (hd:Nat.blt d c.N=true) (hw:xn ops ⟨t,ob⟩ ⟨some d,.call { callee:=.value x,args:=xs.toArray,argTypes:=ts },ty,pos,af,g⟩ true) (k:zq c ops rest ⟨((d,res)::t),ob⟩ Q):zq c ops (⟨some d,.call { callee:=.value x,args:=xs.toArray,argTypes:=ts },ty,pos,af,g⟩::rest) ⟨t,ob⟩ Q:=
 zq.cons (XV hd (.eh hx hs (by simpa using ha.ok))) hw rfl k
theorem ri {f:Nat} (hx:(⟨t,ob⟩:ab).ev x=.fn f aE) (hs:zV c.P f (gs++aE) .fr res) (ha:zf t ob .fr xs gs) (hd:Nat.blt d c.N=true) (hw:xn ops ⟨t,ob⟩ ⟨some d,.call { callee:=.value x,args:=xs.toArray,argTypes:=ts },ty,pos,af,g⟩ true) (k:zA c ops rest ⟨((d,res)::t),ob⟩ (tr++[⟨⟨some d,.call { callee:=.value x,args:=xs.toArray,argTypes:=ts },ty,pos,af,g⟩,res,[],Yf ⟨t,ob⟩ d (.call { callee:=.value x,args:=xs.toArray,argTypes:=ts })⟩]) QD):zA c ops (⟨some d,.call { callee:=.value x,args:=xs.toArray,argTypes:=ts },ty,pos,af,g⟩::rest) ⟨t,ob⟩ tr QD:=
 zA.cons (XV hd (.eh hx hs (by simpa using ha.ok))) hw rfl rfl k
theorem qf {T T2:Nat} (hx:(⟨t,ob⟩:ab).ev x=.nil) (hy:(⟨t,ob⟩:ab).ev y=.nil) (hT:(c.ty T).k=.slice e):aq c ⟨t,ob⟩ d (.binOp .eql T x y T2) (.bool true) []:=(.di .eql hT x y hx .nil hy zd)
theorem qe {T T2:Nat} (hx:(⟨t,ob⟩:ab).ev x=.list sz es) (hy:(⟨t,ob⟩:ab).ev y=.nil) (hT:(c.ty T).k=.slice e) (hn:es≠[]):aq c ⟨t,ob⟩ d (.binOp .eql T x y T2) (.bool false) []:=(.di .eql hT x y hx (.list sz es hn) hy zd)
theorem rL {T T2:Nat} (hx:(⟨t,ob⟩:ab).ev x=.nil) (hy:(⟨t,ob⟩:ab).ev y=.nil) (hT:(c.ty T).k=.slice e):aq c ⟨t,ob⟩ d (.binOp .neq T x y T2) (.bool false) []:=(.di .neq hT x y hx .nil hy zd)
theorem rK {T T2:Nat} (hx:(⟨t,ob⟩:ab).ev x=.list sz es) (hy:(⟨t,ob⟩:ab).ev y=.nil) (hT:(c.ty T).k=.slice e) (hn:es≠[]):aq c ⟨t,ob⟩ d (.binOp .neq T x y T2) (.bool true) []:=(.di .neq hT x y hx (.list sz es hn) hy zd)
theorem qM {f:Nat} (hx:fw t x=some g1) (hh:g1.hand=none):aq c ⟨t,ob⟩ d (.makeFunc (.func f) #[] #[x]) (.fn f [g1]) []:=(.dv (by simp [Xt hx]) (by simp [hh]))
theorem Wo {f:Nat} {g2:FV} (hx:fw t x=some g1) (hh:g1.hand=none) (hy:fw t y=some g2) (hi:g2.hand=none):aq c ⟨t,ob⟩ d (.makeFunc (.func f) #[] #[x,y]) (.fn f [g1,g2]) []:=(.dv (by simp [Xt hx,Xt hy]) (by simp [hh,hi]))
theorem Yn {f:Nat} (hs:zV c.P f gs .sh res) (hx:zf t ob .sh xs gs) (hd:Nat.blt d c.N=true) (hw:xn ops ⟨t,ob⟩ ⟨some d,.call { callee:=.value (.func f),args:=xs.toArray,argTypes:=ts },ty,pos,af,g⟩ true) (k:zq c ops rest ⟨((d,res)::t),ob⟩ Q):zq c ops (⟨some d,.call { callee:=.value (.func f),args:=xs.toArray,argTypes:=ts },ty,pos,af,g⟩::rest) ⟨t,ob⟩ Q:=
 zq.cons (XV hd (.call hs (.inr rfl) (by simpa using hx.ok))) hw rfl k
theorem zy {f:Nat} (hs:zV c.P f gs .sh res) (hx:zf t ob .sh xs gs) (hd:Nat.blt d c.N=true) (hw:xn ops ⟨t,ob⟩ ⟨some d,.call { callee:=.value (.func f),args:=xs.toArray,argTypes:=ts },ty,pos,af,g⟩ true) (k:zA c ops rest ⟨((d,res)::t),ob⟩ (tr++[⟨⟨some d,.call { callee:=.value (.func f),args:=xs.toArray,argTypes:=ts },ty,pos,af,g⟩,res,[],Yf ⟨t,ob⟩ d (.call { callee:=.value (.func f),args:=xs.toArray,argTypes:=ts })⟩]) QD):zA c ops (⟨some d,.call { callee:=.value (.func f),args:=xs.toArray,argTypes:=ts },ty,pos,af,g⟩::rest) ⟨t,ob⟩ tr QD:=
 zA.cons (XV hd (.call hs (.inr rfl) (by simpa using hx.ok))) hw rfl rfl k
theorem Vg {f n:Nat} (hs:zV c.P f gs (.ow E sz) (.list sz es)) (hx:zf t ob (.ow E sz) xs gs) (hn:es.length=n) (hv:(⟨t,ob⟩:ab).ob d=⟨v0,lf0,E0,fy,bU⟩) (hd:Nat.blt d c.N=true) (hw:xn ops ⟨t,ob⟩ ⟨some d,.call { callee:=.value (.func f),args:=xs.toArray,argTypes:=ts },ty,pos,af,g⟩ true) (k:zq c ops rest ⟨((d,(.own d (v0+1) 0 n))::t),((d,⟨v0+1,.own,E,sz,es⟩)::ob)⟩ Q):zq c ops (⟨some d,.call { callee:=.value (.func f),args:=xs.toArray,argTypes:=ts },ty,pos,af,g⟩::rest) ⟨t,ob⟩ Q:=
 zq.cons (f:=(.own d (v0+1) 0 n)) (wr:=[(d,⟨v0+1,.own,E,sz,es⟩)]) (d:=d) (XV hd (by subst hn;have:=aq.dL (c:=c) (s:=⟨t,ob⟩) (d:=d) (ts:=ts) hs (xs:=xs.toArray) (by simpa using hx.ok);rw [Yu hv] at this;exact this)) hw rfl k
theorem sv {o:Oper} (ho:o.dst=some d) (hd:Nat.blt d c.N=true) (hw:xn ops ⟨t,ob⟩ o false) (k:zq c ops rest ⟨(d,.bw [])::t,ob⟩ Q):zq c ops (o::rest) ⟨t,ob⟩ Q:=
 zq.skip hw (fun d' e=>by rw [ho] at e;injection e with e;subst e;exact yo hd) (by rw [ho];rfl) k
theorem sr {o:Oper} (ho:o.dst=some d) (hd:Nat.blt d c.N=true) (hw:xn ops ⟨t,ob⟩ o false) (k:zA c ops rest ⟨(d,.bw [])::t,ob⟩ (tr++[⟨o,.bw [],[],[]⟩]) QD):zA c ops (o::rest) ⟨t,ob⟩ tr QD:=
 zA.skip hw (fun d' e=>by rw [ho] at e;injection e with e;subst e;exact yo hd) (by rw [ho];rfl) k
theorem XO {T:Nat} (hT:c.ty T=⟨.ao fs,sz,c6,z⟩) (hk:fs.all (fun p=>(c.ty p.2).k.known)=true) (hd:Nat.blt d c.N=true) (hw:xn ops ⟨t,ob⟩ (⟨some d,.build T ps.toArray,ty,pos,af,g⟩:Oper) true)
  (k:xw c ⟨t,ob⟩ fs ps z (fun cs=>zq c ops rest ⟨(d,.agg cs)::t,ob⟩ Q)):zq c ops ((⟨some d,.build T ps.toArray,ty,pos,af,g⟩:Oper)::rest) ⟨t,ob⟩ Q:=let ⟨_,h1,h2⟩:=k;sy hT hk h1 hd hw h2
theorem rm {T:Nat} (hT:c.ty T=⟨.ao fs,sz,c6,z⟩) (hk:fs.all (fun p=>(c.ty p.2).k.known)=true) (hd:Nat.blt d c.N=true) (hw:xn ops ⟨t,ob⟩ (⟨some d,.build T ps.toArray,ty,pos,af,g⟩:Oper) true)
  (k:xw c ⟨t,ob⟩ fs ps z (fun cs=>zA c ops rest ⟨(d,.agg cs)::t,ob⟩ (tr++[⟨⟨some d,.build T ps.toArray,ty,pos,af,g⟩,.agg cs,[],Yf ⟨t,ob⟩ d (.build T ps.toArray)⟩]) QD)):zA c ops ((⟨some d,.build T ps.toArray,ty,pos,af,g⟩:Oper)::rest) ⟨t,ob⟩ tr QD:=let ⟨_,h1,h2⟩:=k;rh hT hk h1 hd hw h2
theorem VY (h:zq c ops ((⟨dst,.load T x,ty,pos,af,g⟩:Oper)::rest) s Q):zq c ops ((⟨dst,.load T x,ty,pos,af,g⟩:Oper)::rest) s Q:=h
theorem VS (h:zA c ops ((⟨dst,.load T x,ty,pos,af,g⟩:Oper)::rest) s tr QD):zA c ops ((⟨dst,.load T x,ty,pos,af,g⟩:Oper)::rest) s tr QD:=h
theorem qx (h:zq c ops ((⟨dst,.store T x y,ty,pos,af,g⟩:Oper)::rest) s Q):zq c ops ((⟨dst,.store T x y,ty,pos,af,g⟩:Oper)::rest) s Q:=h
theorem jx (h:zA c ops ((⟨dst,.store T x y,ty,pos,af,g⟩:Oper)::rest) s tr QD):zA c ops ((⟨dst,.store T x y,ty,pos,af,g⟩:Oper)::rest) s tr QD:=h
theorem qv (h:zq c ops ((⟨dst,.fieldAddr T x i,ty,pos,af,g⟩:Oper)::rest) s Q):zq c ops ((⟨dst,.fieldAddr T x i,ty,pos,af,g⟩:Oper)::rest) s Q:=h
theorem Wu (h:zA c ops ((⟨dst,.fieldAddr T x i,ty,pos,af,g⟩:Oper)::rest) s tr QD):zA c ops ((⟨dst,.fieldAddr T x i,ty,pos,af,g⟩:Oper)::rest) s tr QD:=h
theorem qw (h:zq c ops ((⟨dst,.indexAddr T x y,ty,pos,af,g⟩:Oper)::rest) s Q):zq c ops ((⟨dst,.indexAddr T x y,ty,pos,af,g⟩:Oper)::rest) s Q:=h
theorem jw (h:zA c ops ((⟨dst,.indexAddr T x y,ty,pos,af,g⟩:Oper)::rest) s tr QD):zA c ops ((⟨dst,.indexAddr T x y,ty,pos,af,g⟩:Oper)::rest) s tr QD:=h
theorem VZ {z:Operand} (h:zq c ops ((⟨dst,.pick x y z,ty,pos,af,g⟩:Oper)::rest) s Q):zq c ops ((⟨dst,.pick x y z,ty,pos,af,g⟩:Oper)::rest) s Q:=h
theorem rq {z:Operand} (h:zA c ops ((⟨dst,.pick x y z,ty,pos,af,g⟩:Oper)::rest) s tr QD):zA c ops ((⟨dst,.pick x y z,ty,pos,af,g⟩:Oper)::rest) s tr QD:=h
theorem Vh {b:BinOp} (h:zq c ops ((⟨dst,.binOp b T x y T2,ty,pos,af,g⟩:Oper)::rest) s Q):zq c ops ((⟨dst,.binOp b T x y T2,ty,pos,af,g⟩:Oper)::rest) s Q:=h
theorem kL {b:BinOp} (h:zA c ops ((⟨dst,.binOp b T x y T2,ty,pos,af,g⟩:Oper)::rest) s tr QD):zA c ops ((⟨dst,.binOp b T x y T2,ty,pos,af,g⟩:Oper)::rest) s tr QD:=h
theorem m4  (h:zq c ops ((⟨dst,op,ty,pos,af,none⟩:Oper)::rest) s Q):zq c ops ((⟨dst,op,ty,pos,af,none⟩:Oper)::rest) s Q:=h
theorem oC  (h:zA c ops ((⟨dst,op,ty,pos,af,none⟩:Oper)::rest) s tr QD):zA c ops ((⟨dst,op,ty,pos,af,none⟩:Oper)::rest) s tr QD:=h
theorem sN (h:zq c ops ((⟨dst,op,ty,pos,af,some gg⟩:Oper)::rest) s Q):zq c ops ((⟨dst,op,ty,pos,af,some gg⟩:Oper)::rest) s Q:=h
theorem sM (h:zA c ops ((⟨dst,op,ty,pos,af,some gg⟩:Oper)::rest) s tr QD):zA c ops ((⟨dst,op,ty,pos,af,some gg⟩:Oper)::rest) s tr QD:=h
theorem yG (h1:b=true→zq c ops rest ⟨(d,.bool true)::t,ob⟩ Q) (h2:b=false→zq c ops rest ⟨(d,.bool false)::t,ob⟩ Q):zq c ops rest ⟨(d,.bool b)::t,ob⟩ Q:=by
 cases b
 ·exact h2 rfl
 ·exact h1 rfl
theorem sq {o:Oper} {ft:List Nat} (h1:b=true→zA c ops rest ⟨(d,.bool true)::t,ob⟩ (tr++[⟨o,.bool true,wr,ft⟩]) QD) (h2:b=false→zA c ops rest ⟨(d,.bool false)::t,ob⟩ (tr++[⟨o,.bool false,wr,ft⟩]) QD) :
  zA c ops rest ⟨(d,.bool b)::t,ob⟩ (tr++[⟨o,.bool b,wr,ft⟩]) QD:=by
 cases b
 ·exact h2 rfl
 ·exact h1 rfl
end
end Go.Proofs.YtedkppfghdipdaaDoor
