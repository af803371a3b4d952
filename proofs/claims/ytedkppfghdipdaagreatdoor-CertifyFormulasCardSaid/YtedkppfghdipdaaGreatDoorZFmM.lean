/-
  The operations on states that are written out: one law each, for regions in the text's order (rn_) and for those that draw (rd_). (Printed by wip/fmm.py.)
-/
import Derived.Test.YtedkppfghdipdaaGreatDoorZBxxx
namespace Go.Proofs.YtedkppfghdipdaaGreatDoor
set_option linter.unusedVariables false
set_option maxHeartbeats 16000000
open Go.RowKit
variable {t:List (Nat×FV)} {ob wr:List (Nat×zL)} {E E0 dr e i j k l o off sz iW v0 aa:Nat} {lf lf0:xC} {es cH aB:List (List FV)} {aF cs gs z ze:List FV} {f g1 res:FV} {s:ae} {fs:List (Nat×Nat)} {ps:List (Nat×Operand)} {x y:Operand} {kk:IntKind} {m n:Int} {b:Bool} {α:Type} {T T2:TypeId} {op:Op} {p:Nat×zL} {xs:List Operand} {ts:Array TypeId} {dst:Option Nat} {gg:Nat×Bool}
theorem xa {id:Nat} (h:(⟨t,ob⟩:ae).ob id=⟨aa,lf,E,sz,es⟩) (hl:lf≠.dead):(⟨t,ob⟩:ae).live id aa:=by
 unfold ae.live;rw [h];exact ⟨hl,rfl⟩
theorem Wa {d v:Nat} (h:(⟨t,ob⟩:ae).ob d=⟨v,lf,E,sz,es⟩):((⟨t,ob⟩:ae).ob d).aa+1=v+1:=by rw [h]
theorem uJ (h:cs[o]? = some f):o<cs.length∧(cs.drop o).headD .undef=f:=by
 obtain ⟨h1,h2⟩:=yq.1 h;refine ⟨h1,?_⟩;rw [vV h1,h2];rfl
theorem YC (h:o<cs.length):ai cs o [f]=cs.set o f:=by
 unfold ai;rw [vC,if_pos h];simp
def qp (cs:List FV) (o:Nat):List FV→List FV
 | [] => cs
 | f :: fs => qp (cs.set o f) (o+1) fs
theorem BR (cs:List FV) (o:Nat) (f:FV) (fs:List FV) (h:o<cs.length):ai (ai cs o [f]) (o+1) fs=ai cs o (f::fs):=by
 unfold ai;have h1:(List.take o cs++[f]++List.drop (o+1) cs).take (o+1)=List.take o cs++[f]:=by
  rw [Ww zF,ym zF]
 have h2:(List.take o cs++[f]++List.drop (o+1) cs).drop (o+1+fs.length)=List.drop (o+1+fs.length) cs:=by
  rw [List.drop_append,List.drop_of_length_le zF,VO,List.drop_drop];congr 1;simp;omega
 simp only [xo,VM,yr];rw [h1,h2];simp [Yq,Nat.add_left_comm]
theorem UT:∀ (fs:List FV) (cs:List FV) (o:Nat),o+fs.length≤cs.length→fs≠[]→ai cs o fs=qp cs o fs
 | [], _, _, _, h => absurd rfl h
 | [f], cs, o, h, _ => by rw [YC (by simp at h; omega)]; rfl
 | f :: g :: fs, cs, o, h, _ => by
  rw [← BR cs o f (g::fs) (by simp at h;omega),YC (by simp at h;omega),UT (g::fs) _ _ (by simp at h ⊢;omega) zg];rfl
inductive UZ (c:Ctx) (s:ae) (fs:List (Nat×Nat)):List FV→List (Nat×Operand)→List FV→Prop where
 | nil {cs:List FV}:UZ c s fs cs [] cs
 | one {i off ft:Nat} {x:Operand} {f:FV} {ps:List (Nat × Operand)} {cs dD : List FV} (hx:s.ev x=f) (hi:fs[i]? = some (off, ft)) (ho:f.cells=[f]) (h1:f.one=true) (hs:(c.ty ft).size=1) (hl:Nat.blt off cs.length=true) (h:UZ c s fs (cs.set off f) ps dD):UZ c s fs cs ((i, x) :: ps) dD
 | agg {i off ft:Nat} {x:Operand} {gs:List FV} {ps:List (Nat × Operand)} {cs dD : List FV} (hx:s.ev x=.agg gs) (hi:fs[i]? = some (off, ft)) (h1:gs.all FV.one=true) (hs:gs.length=(c.ty ft).size) (hp:gs ≠ []) (hl:Nat.ble (off+gs.length) cs.length=true) (h:UZ c s fs (qp cs off gs) ps dD):UZ c s fs cs ((i, x) :: ps) dD
theorem XG {place:Nat→Option (Nat×Nat)} {size:Nat} {rest:List (Nat×FV)} (hp:place i=some (off,size)) (h1:f.cells.all FV.one=true) (h2:f.cells.length=size) (h3:off+size≤cs.length) :
  ZZ place cs ((i,f)::rest)=ZZ place (ai cs off f.cells) rest:=by
 rw [ZZ,hp];exact if_pos ⟨h1,h2,h3⟩
theorem UZ.get {c:Ctx} {dD : List FV} (h:UZ c s fs cs ps dD) :
  ZZ (fun i=>(fs[i]?).map fun p=>(p.1,(c.ty p.2).size)) cs (s.parts ps.toArray)=some dD:=by
 unfold ae.parts;simp only [List.toList_toArray]
 induction h with
 | nil => rfl
 | one hx hi ho h1 hs hl h ih =>
  have ba:=yd hl;rw [zH,hx,XG (off:=_) (size:=_) (by rw [hi];rfl) (by rw [ho];simpa using h1) (by rw [ho];exact hs.symm) (by dsimp only;omega),ho,YC ba];exact ih
 | @agg i off ft x gs ps cs dD hx hi h1 hs hp hl h ih =>
  have ba:=yd hl;rw [zH,hx,XG (f:=.agg gs) (off:=off) (size:=(c.ty ft).size) (by rw [hi];rfl) h1 hs (by rw [← hs];exact ba)];rw [show (FV.agg gs).cells=gs from rfl,UT gs cs off ba hp];exact ih
def pb {α:Type} (d:α):List (Nat×α)→Nat→Option α
 | [], _ => some d
 | (i, a) :: l, k => bif Nat.beq i k then some a else pb d l k
theorem vO {α:Type} (d:α) (k:Nat):∀ l:List (Nat×α),pb d l k=some (look d l k)
 | [] => rfl
 | (i, a) :: l => by
  unfold pb look;rw [vO d k l];cases Nat.beq i k <;> rfl
def qj (v:Value):Option FV:=
 match v with
 | .int k n => some (.int k n)
 | .bool b => some (.bool b)
 | v => some (fp v)
theorem Ev (v:Value):qj v=some (fp v):=by unfold qj;split <;> rfl
def iE (t:List (Nat×FV)):Operand→Option FV
 | .tmp i => pb .undef t i
 | .const v => qj v
 | .func f => some (.fn f [])
 | _ => some .undef
theorem Vy (h:iE t x=some f):(⟨t,ob⟩:ae).ev x=f:=by
 cases x with
 | tmp i => have h' : pb .undef t i=some f := h; rw [vO] at h'; injection h'
 | const v => have h' : qj v=some f := h; rw [Ev] at h'; injection h'
 | _ => injection h
theorem Xo (h:f.one=true):f.cells=[f]:=by
 cases f <;> first|rfl|(simp [FV.one] at h)
inductive zY (s:ae) (sz:Nat):Nat→List (Nat×Operand)→List (List FV)→Prop where
 | nil {k:Nat}:zY s sz k [] []
 | one {k:Nat} {x:Operand} {f:FV} {ps:List (Nat × Operand)} {es:List (List FV)} (hx:s.ev x=f) (hc:f.cells=[f]) (h1:f.one=true) (hs:sz=1) (h:zY s sz (k+1) ps es):zY s sz k ((k, x) :: ps) ([f] :: es)
 | agg {k:Nat} {x:Operand} {gs:List FV} {ps:List (Nat × Operand)} {es:List (List FV)} (hx:s.ev x=.agg gs) (h1:gs.all FV.one=true) (hs:gs.length=sz) (h:zY s sz (k+1) ps es):zY s sz k ((k, x) :: ps) (gs :: es)
theorem zY.int (hx:s.ev x=.int kk n) (hs:sz=1) (h:zY s sz (k+1) ps es):zY s sz k ((k,x)::ps) ([.int kk n]::es):=.one hx rfl rfl hs h
theorem zY.bool (hx:s.ev x=.bool b) (hs:sz=1) (h:zY s sz (k+1) ps es):zY s sz k ((k,x)::ps) ([.bool b]::es):=.one hx rfl rfl hs h
theorem zY.len (h:zY s sz k ps es):es.length=ps.length∧(∀ e∈es,e.length=sz)∧(∀ f∈es.flatten,f.one=true):=by
 have key:∀ (e:List FV) (es:List (List FV)) (q:Nat×Operand) (ps:List (Nat×Operand)),e.length=sz→(∀ f∈e,f.one=true)→(es.length=ps.length∧(∀ e∈es,e.length=sz)∧(∀ f∈es.flatten,f.one=true))→
   ((e::es).length=(q::ps).length∧(∀ e'∈e::es,e'.length=sz)∧(∀ f∈(e::es).flatten,f.one=true)):=by
  intro e es q ps h1 h2 h3;refine ⟨by simp [h3.1],fun e' he=>?_,fun f hf=>?_⟩
  ·rcases zT.1 he with e1|e1
   ·rw [e1];exact h1
   ·exact h3.2.1 _ e1
  ·rw [yz] at hf;rcases yT.1 hf with e1|e1
   ·exact h2 f e1
   ·exact h3.2.2 _ e1
 induction h with
 | nil => exact ⟨rfl, by simp, by simp⟩
 | one hx hc h1 hs h ih => exact key [_] _ (_, _) _ (by rw [hs]; rfl) (by simpa using h1) ih
 | agg hx h1 hs h ih => exact key _ _ (_, _) _ hs (fun f hf => zV.1 h1 f hf) ih
theorem uC (pre rH post ds:List α) (h:rH.length=ds.length):ai (pre++(rH++post)) pre.length ds=pre++(ds++post):=by
 unfold ai;rw [List.take_left,← h,← ye pre rH post,← yL,List.drop_left,ye]
theorem zY.fill (h:zY s sz k ps es):∀ (pre:List FV),pre.length=k * sz→
  ZZ (fun i=>some (i * sz,sz)) (pre++List.replicate (ps.length * sz) .undef) (ps.map fun p=>(p.1,s.ev p.2))=some (pre++es.flatten):=by
 induction h with
 | nil => intro pre _; simp [ZZ]
 | @one k x f ps es hx hc h1 hs h ih=>
  intro pre hp;have e1:List.replicate ((((k,x)::ps:List (Nat×Operand))).length * sz) FV.undef=List.replicate sz .undef++List.replicate (ps.length * sz) .undef:=by
   rw [xo,zQ,ZR,Yq,vX]
  have e2:(pre++List.replicate ((((k,x)::ps:List (Nat×Operand))).length * sz) FV.undef).length=k * sz+(ps.length+1) * sz:=by simp [hp]
  rw [zH,hx,XG (place:=fun i=>some (i * sz,sz)) (off:=k * sz) (size:=sz) rfl (by rw [hc];simpa using h1) (by rw [hc,hs];rfl) (by rw [e2,zQ];omega),hc,e1,← hp,uC _ _ _ _ (by simp [hs]),← ye,ih (pre++[f]) (by simp [hp,zQ,hs])];simp
 | @agg k x gs ps es hx h1 hs h ih=>
  intro pre hp;have e1:List.replicate ((((k,x)::ps:List (Nat×Operand))).length * sz) FV.undef=List.replicate sz .undef++List.replicate (ps.length * sz) .undef:=by
   rw [xo,zQ,ZR,Yq,vX]
  have e2:(pre++List.replicate ((((k,x)::ps:List (Nat×Operand))).length * sz) FV.undef).length=k * sz+(ps.length+1) * sz:=by simp [hp]
  rw [zH,hx,XG (f:=.agg gs) (place:=fun i=>some (i * sz,sz)) (off:=k * sz) (size:=sz) rfl h1 hs (by rw [e2,zQ];omega),e1,← hp];rw [show (FV.agg gs).cells=gs from rfl,uC _ _ _ _ (by simp [hs]),← ye,ih (pre++gs) (by simp [hp,zQ,hs])];simp
def ZF (c:Ctx) (s:ae) (fs:List (Nat×Nat)) (ps:List (Nat×Operand)) (cs:List FV) (K:List FV→Prop):Prop:=∃ dD,UZ c s fs cs ps dD∧K dD
theorem ZF.nil {c:Ctx} {s:ae} {fs:List (Nat×Nat)} {cs:List FV} {K:List FV→Prop} (h:K cs):ZF c s fs [] cs K:=⟨cs,.nil,h⟩
theorem ZF.one {c:Ctx} {t:List (Nat×FV)} {ob:List (Nat×zL)} {fs:List (Nat×Nat)} {i off ft:Nat} {x:Operand} {ps:List (Nat×Operand)} {cs:List FV} {K:List FV→Prop} {f:FV} (hx:iE t x=some f) (h1:f.one=true) (hi:fs[i]? = some (off,ft)) (hs:(c.ty ft).size=1) (hl:Nat.blt off cs.length=true) (h:ZF c ⟨t,ob⟩ fs ps (cs.set off f) K):ZF c ⟨t,ob⟩ fs ((i,x)::ps) cs K:=
 let ⟨dD,q1,q2⟩:=h;⟨dD,.one (Vy hx) hi (Xo h1) h1 hs hl q1,q2⟩
theorem ZF.agg {c:Ctx} {s:ae} {fs:List (Nat×Nat)} {i off ft:Nat} {x:Operand} {gs:List FV} {ps:List (Nat×Operand)} {cs:List FV} {K:List FV→Prop} (hx:s.ev x=.agg gs) (hi:fs[i]? = some (off,ft)) (h1:gs.all FV.one=true) (hs:gs.length=(c.ty ft).size) (hp:gs≠[]) (hl:Nat.ble (off+gs.length) cs.length=true) (h:ZF c s fs ps (qp cs off gs) K):ZF c s fs ((i,x)::ps) cs K:=
 let ⟨dD,q1,q2⟩:=h;⟨dD,.agg hx hi h1 hs hp hl q1,q2⟩
def TK.known:TK→Bool
 | .other => false
 | _ => true
theorem TK.aI {k:TK} (h:k.known=true):k≠.other:=by rintro rfl;cases h
inductive gH (t:List (Nat×FV)) (ob:List (Nat×zL)) (m:eW):Operand→FV→Prop where
 | plain {x:Operand} {f:FV} (h:(⟨t, ob⟩:ae).ev x=f) (hn:f.hand=none):gH t ob m x f
 | nil {x:Operand} {sz:Nat} (h:(⟨t, ob⟩:ae).ev x=.nil):gH t ob m x (.list sz [])
 | sub {x:Operand} {f g:FV} (h:(⟨t, ob⟩:ae).ev x=f) (hn:f.hand=none) (hle:FV.le f g):gH t ob m x g
 | own {x:Operand} {id aa n E sz:Nat} {es:List (List FV)} {lf:xC} (h:(⟨t, ob⟩:ae).ev x=(.own id aa 0 n)) (hb:(⟨t, ob⟩:ae).ob id=⟨aa, lf, E, sz, es⟩) (hl:lf.row=true) (hm:m=.sh → lf=.shut) (hn:n=es.length):gH t ob m x (.list sz es)
 | part {x:Operand} {id aa o n E sz:Nat} {es:List (List FV)} {lf:xC} (h:(⟨t, ob⟩:ae).ev x=(.own id aa o n)) (hb:(⟨t, ob⟩:ae).ob id=⟨aa, lf, E, sz, es⟩) (hl:lf.row=true) (hm:m=.sh → lf=.shut):gH t ob m x (.list sz ((es.drop o).take n))
theorem gH.ok {m:eW}:∀ {x:Operand} {g:FV},gH t ob m x g→Vx ⟨t,ob⟩ m ((⟨t,ob⟩:ae).ev x) g
 | _, _, .plain h hn => by rw [h]; exact .plain _ hn
 | _, _, .sub h hn hle => by rw [h]; exact .sub _ _ hn hle
 | _, _, .nil h => by rw [h]; exact .nil _
 | _, _, .own (id := id) (aa := aa) (n := n) (es := es) h hb hl hm hn => by
  rw [h];have:=Vx.own (s:=⟨t,ob⟩) (m:=m) id aa 0 n (xa hb (xC.dk hl)) (by rw [hb];exact hl) (by rw [hb];exact hm);rw [hb] at this;simpa [hn] using this
 | _, _, .part (id := id) (aa := aa) (o := o) (n := n) h hb hl hm => by
  rw [h];have:=Vx.own (s:=⟨t,ob⟩) (m:=m) id aa o n (xa hb (xC.dk hl)) (by rw [hb];exact hl) (by rw [hb];exact hm);rw [hb] at this;exact this
inductive zf (t:List (Nat×FV)) (ob:List (Nat×zL)) (m:eW):List Operand→List FV→Prop where
 | nil:zf t ob m [] []
 | cons {x:Operand} {xs:List Operand} {g:FV} {gs:List FV} (h:gH t ob m x g) (hs:zf t ob m xs gs):zf t ob m (x :: xs) (g :: gs)
theorem zf.ok {m:eW}:∀ {xs:List Operand} {gs:List FV},zf t ob m xs gs→Yo ⟨t,ob⟩ m xs gs
 | _, _, .nil => .nil
 | _, _, .cons h hs => .cons h.ok hs.ok
inductive fK (t:List (Nat×FV)) (ob:List (Nat×zL)):Operand→Nat→List (List FV)→Prop where
 | nil {x:Operand} {sz:Nat} (h:(⟨t, ob⟩:ae).ev x=.nil):fK t ob x sz []
 | list {x:Operand} {sz:Nat} {es:List (List FV)} (h:(⟨t, ob⟩:ae).ev x=(.list sz es)):fK t ob x sz es
 | own {x:Operand} {id aa n E sz:Nat} {es:List (List FV)} {lf:xC} (h:(⟨t, ob⟩:ae).ev x=(.own id aa 0 n)) (hb:(⟨t, ob⟩:ae).ob id=⟨aa, lf, E, sz, es⟩) (hl:lf.row=true) (hn:n=es.length):fK t ob x sz es
 | part {x:Operand} {id aa o n E sz:Nat} {es:List (List FV)} {lf:xC} (h:(⟨t, ob⟩:ae).ev x=(.own id aa o n)) (hb:(⟨t, ob⟩:ae).ob id=⟨aa, lf, E, sz, es⟩) (hl:lf.row=true):fK t ob x sz ((es.drop o).take n)
theorem fK.ok:∀ {x:Operand} {sz:Nat} {es:List (List FV)},fK t ob x sz es→Src ⟨t,ob⟩ ((⟨t,ob⟩:ae).ev x) sz es
 | _, _, _, .nil h => by rw [h]; exact .nil _
 | _, _, _, .list h => by rw [h]; exact .list _ _
 | _, _, _, .own (id := id) (aa := aa) (n := n) h hb hl hn => by
  rw [h];have:=Src.own (s:=⟨t,ob⟩) id aa 0 n (xa hb (xC.dk hl)) (by rw [hb];exact hl);rw [hb] at this;simpa [hn] using this
 | _, _, _, .part (id := id) (aa := aa) (o := o) (n := n) h hb hl => by
  rw [h];have:=Src.own (s:=⟨t,ob⟩) id aa o n (xa hb (xC.dk hl)) (by rw [hb];exact hl);rw [hb] at this;exact this
inductive jd (s:ae):Option Operand→Nat→Prop where
 | none:jd s none 0
 | some {y:Operand} {k:IntKind} {l:Nat} (h:s.ev y=.int k (l:Nat)):jd s (some y) l
 | lit {y:Operand} {k:IntKind} {n:Int} {l:Nat} (h:s.ev y=.int k n) (e:n=(l:Nat)):jd s (some y) l
inductive jc (s:ae):Option Operand→Nat→Nat→Prop where
 | none {m:Nat}:jc s none m m
 | some {y:Operand} {k:IntKind} {m l:Nat} (h:s.ev y=.int k (l:Nat)):jc s (some y) m l
 | lit {y:Operand} {k:IntKind} {n:Int} {m l:Nat} (h:s.ev y=.int k n) (e:n=(l:Nat)):jc s (some y) m l
theorem jd.ok {x:Option Operand} (h:jd s x l):s.lo x l:=by
 cases h with
 | none => exact rfl
 | some h => exact ⟨_, h⟩
 | lit h e => subst e; exact ⟨_, h⟩
theorem jc.ok {x:Option Operand} {m:Nat} (h:jc s x m l):s.hi x m l:=by
 cases h with
 | none => exact rfl
 | some h => exact ⟨_, h⟩
 | lit h e => subst e; exact ⟨_, h⟩
theorem zO [Inhabited α] {fv:α→List FV} {l:List α} (h:j<l.length):(l.map fv).getD j []=fv (nth l j):=by
 rw [xX,yK,xZ h,xI h];rfl
theorem Db {fs:List FV} (h:cs.length=fs.length):ai cs 0 fs=fs:=by
 unfold ai;rw [List.take_zero,VO,yr,List.drop_of_length_le zc,xW]
section
variable {c:Ctx} {t:List (Nat×FV)} {ob:List (Nat×zL)} {d:Nat}
theorem Dn {T:Nat} {kk:TK} (hx:(⟨t,ob⟩:ae).ev x=(.ay sz es j 0)) (hT:c.ty T=⟨kk,sz,dr,ze⟩) (hk:kk.aX = some true) (hp:0<sz) (hj:j<es.length) (bj:es.getD j []=cs) (hl:cs.length=sz):ax c ⟨t,ob⟩ d (.load T x) (.agg cs) []:=by
 have eE : (c.ty T).k.aX = some true:=by rw [hT];exact hk
 have:=ax.cx (c:=c) (s:=⟨t,ob⟩) (d:=d) eE x hx hj (by rw [hT];simp) hp;rw [bj] at this;unfold Zl at this;rw [eE] at this;dsimp only at this;rwa [hT,Zo,ym (by rw [hl];exact zi _)] at this
theorem Dp {T:Nat} {id:Nat} {kk:TK} (hx:(⟨t,ob⟩:ae).ev x=(.ptr id aa j 0)) (hT:c.ty T=⟨kk,sz,dr,ze⟩) (hk:kk.aX = some true) (hp:0<sz) (hb:(⟨t,ob⟩:ae).ob id=⟨aa,lf,E,sz,es⟩) (bk:lf.row=true) (hj:j<es.length) (bj:es.getD j []=cs) (hl:cs.length=sz) :
  ax c ⟨t,ob⟩ d (.load T x) (.agg cs) []:=by
 have eE : (c.ty T).k.aX = some true:=by rw [hT];exact hk
 have:=ax.cU (c:=c) (s:=⟨t,ob⟩) (d:=d) eE x hx (xa hb (xC.dk bk)) (by rw [hb];exact bk) (by rw [hb];exact hj) (by rw [hb,hT];simp) (by rw [hb];exact hp);rw [hb] at this;dsimp only at this;rw [bj] at this;unfold Zl at this;rw [eE] at this;dsimp only at this;rwa [hT,Zo,ym (by rw [hl];exact zi _)] at this
theorem Dr {T:Nat} {id:Nat} (hx:(⟨t,ob⟩:ae).ev x=(.ptr id aa 0 o)) (hy:(⟨t,ob⟩:ae).ev y=f) (h1:f.one=true) (hk:(c.ty T).k.known=true) (hz:(c.ty T).size=1) (hb:(⟨t,ob⟩:ae).ob id=⟨aa,.own,E,sz,[cs]⟩) (bh:cs.length=sz) (ho:Nat.blt o sz=true) :
  ax c ⟨t,ob⟩ 0 (.store T x y) .undef [(id,⟨aa,.own,E,sz,[cs.set o f]⟩)]:=by
 have eG:=yd ho;have hc:=Xo h1;have:=ax.store (c:=c) (s:=⟨t,ob⟩) (d:=0) (TK.aI hk) x y hx (by rw [hb]) (by rw [hb]) hy (by rw [hc];simp [h1]) (by rw [hz,hc];rfl) (by rw [hb];exact Nat.zero_lt_one) (by rw [hb];dsimp only;omega);rw [hb] at this;have e:=YC (f:=f) (show o<cs.length by omega);simpa [hc,e] using this
theorem Dq {T:Nat} {id:Nat} (hx:(⟨t,ob⟩:ae).ev x=(.ptr id aa j o)) (hy:(⟨t,ob⟩:ae).ev y=f) (h1:f.one=true) (hk:(c.ty T).k.known=true) (hz:(c.ty T).size=1) (hb:(⟨t,ob⟩:ae).ob id=⟨aa,.own,E,sz,es⟩) (hj:j<es.length) (bj:es.getD j []=cs) (bh:cs.length=sz) (ho:Nat.blt o sz=true) :
  ax c ⟨t,ob⟩ 0 (.store T x y) .undef [(id,⟨aa,.own,E,sz,es.set j (cs.set o f)⟩)]:=by
 have eG:=yd ho;have hc:=Xo h1;have:=ax.store (c:=c) (s:=⟨t,ob⟩) (d:=0) (TK.aI hk) x y hx (by rw [hb]) (by rw [hb]) hy (by rw [hc];simp [h1]) (by rw [hz,hc];rfl) (by rw [hb];exact hj) (by rw [hb];dsimp only;omega);rw [hb] at this;have e:=YC (f:=f) (show o<cs.length by omega);rw [hc] at this;dsimp only at this;rw [bj,e] at this;exact this
theorem Ex {T d:Nat} (hx:(⟨t,ob⟩:ae).ev x=f) (h1:f.one=true) (hv:(⟨t,ob⟩:ae).ob d=⟨v0,lf0,E0,iW,cH⟩):ax c ⟨t,ob⟩ d (.box T x) (.ptr d (v0+1) 0 0) [(d,⟨v0+1,.own,T,1,[[f]]⟩)]:=by
 have hc:=Xo h1;have:=ax.box (c:=c) (s:=⟨t,ob⟩) (d:=d) (T:=T) x hx (by rw [hc];simp [h1]);rw [Wa hv,hc] at this;exact this
theorem Cc {T:Nat} {id:Nat} {fs:List FV} (hx:(⟨t,ob⟩:ae).ev x=(.ptr id aa 0 0)) (hy:(⟨t,ob⟩:ae).ev y=(.agg fs)) (h1:fs.all FV.one=true) (hk:(c.ty T).k.known=true) (hz:(c.ty T).size=sz) (hb:(⟨t,ob⟩:ae).ob id=⟨aa,.own,E,sz,[cs]⟩) (hl:cs.length=sz) (bY:fs.length=sz) :
  ax c ⟨t,ob⟩ 0 (.store T x y) .undef [(id,⟨aa,.own,E,sz,[fs]⟩)]:=by
 have:=ax.store (c:=c) (s:=⟨t,ob⟩) (d:=0) (TK.aI hk) x y hx (by rw [hb]) (by rw [hb]) hy h1 (by rw [hz];exact bY) (by rw [hb];exact Nat.zero_lt_one) (by rw [hb,hz];simp);rw [hb] at this;simpa [FV.cells,Db (hl.trans bY.symm)] using this
theorem vG {T id n:Nat} {kk:TK} (hx:(⟨t,ob⟩:ae).ev x=(.own id aa 0 n)) (hb:(⟨t,ob⟩:ae).ob id=⟨aa,.own,e,sz,es⟩) (hn:n=es.length) (hT:(c.ty T).k=.slice e) (he:c.ty e=⟨kk,sz,dr,z⟩) (hk:kk.known=true) (hp:0<sz) (hy:fK t ob y sz aB)
  (aJ:(es.length+aB.length) * dr≤140737488355328) (hm:es.length+aB.length≤140737488355328) (hv:(⟨t,ob⟩:ae).ob d=⟨v0,lf0,E0,iW,cH⟩) :
  ax c ⟨t,ob⟩ d (.call { callee:=.builtin .append,args:=#[x,y],argTypes:=#[T,T] }) (.own d (v0+1) 0 (es++aB).length) [(id,⟨aa,.dead,e,sz,es⟩),(d,⟨v0+1,.own,e,sz,es++aB⟩)]:=by
 have qH:jq ⟨t,ob⟩ (.own id aa 0 n) sz es (some id):=by
  have:=jq.own (s:=⟨t,ob⟩) id aa (by rw [hb]) (by rw [hb]) n (by rw [hb];exact hn);rw [hb] at this;exact this
 have:=ax.append (c:=c) (s:=⟨t,ob⟩) (d:=d) (i:=some id) hT (by rw [he];exact TK.aI hk) (by rw [he];exact hp) x y hx rfl (by rw [he];exact qH) (fun k h=>by injection h with h;subst h;rw [hb]) (by rw [he];exact hy.ok) (by rw [he];exact aJ) hm;rw [he] at this;simpa [YE,Wa hv,hb] using this
end
section
variable {c:Ctx} {ops:Array Oper} {rest:List Oper} {t:List (Nat×FV)} {ob:List (Nat×zL)} {d:Nat} {ty:TypeId} {pos:String} {af:Array Edge} {g:Option (Nat×Bool)} {Q:ae→Prop} {QD:ae→List Rec→Prop} {tr:List Rec}
theorem VD (hd:Nat.blt d c.N=true) (h:ax c s d op f wr):nN c s ⟨some d,op,ty,pos,af,g⟩ f wr d:=
 ⟨.inl rfl,(fun _ e=>by injection e with e;subst e;exact yd hd),h⟩
theorem z0 (h:ax c s d (.store T x y) f wr):nN c s ⟨none,.store T x y,ty,pos,af,g⟩ f wr d:=
 ⟨.inr ⟨rfl,.inl ⟨_,_,_,rfl⟩⟩,(fun _ e=>by cases e),h⟩
theorem Gl {z:Operand} (h:ax c s d (.mapUpdate T x y z) f wr):nN c s ⟨none,.mapUpdate T x y z,ty,pos,af,g⟩ f wr d:=
 ⟨.inr ⟨rfl,.inr ⟨_,_,_,_,rfl⟩⟩,(fun _ e=>by cases e),h⟩
theorem zn.aY (h:ax c ⟨t,ob⟩ 0 (.store T x y) .undef [p]) (hw:ZC ops ⟨t,ob⟩ ⟨none,.store T x y,ty,pos,af,g⟩ true) (k:zn c ops rest ⟨t,p::ob⟩ Q):zn c ops (⟨none,.store T x y,ty,pos,af,g⟩::rest) ⟨t,ob⟩ Q:=zn.cons (f:=.undef) (wr:=[p]) (d:=0) (z0 h) hw rfl k
theorem zn.ab (h:ax c ⟨t,ob⟩ d op f []) (hd:Nat.blt d c.N=true) (hw:ZC ops ⟨t,ob⟩ ⟨some d,op,ty,pos,af,g⟩ true) (k:zn c ops rest ⟨(d,f)::t,ob⟩ Q):zn c ops (⟨some d,op,ty,pos,af,g⟩::rest) ⟨t,ob⟩ Q:=zn.cons (f:=f) (wr:=[]) (d:=d) (VD hd h) hw rfl k
theorem zn.aR (h:ax c ⟨t,ob⟩ d op f [p]) (hd:Nat.blt d c.N=true) (hw:ZC ops ⟨t,ob⟩ ⟨some d,op,ty,pos,af,g⟩ true) (k:zn c ops rest ⟨(d,f)::t,p::ob⟩ Q):zn c ops (⟨some d,op,ty,pos,af,g⟩::rest) ⟨t,ob⟩ Q:=zn.cons (f:=f) (wr:=[p]) (d:=d) (VD hd h) hw rfl k
theorem zI.aY (h:ax c ⟨t,ob⟩ 0 (.store T x y) .undef [p]) (hw:ZC ops ⟨t,ob⟩ ⟨none,.store T x y,ty,pos,af,g⟩ true) (k:zI c ops rest ⟨t,p::ob⟩ (tr++[⟨⟨none,.store T x y,ty,pos,af,g⟩,.undef,[p],Xa ⟨t,ob⟩ 0 (.store T x y)⟩]) QD):zI c ops (⟨none,.store T x y,ty,pos,af,g⟩::rest) ⟨t,ob⟩ tr QD:=zI.cons (f:=.undef) (wr:=[p]) (d:=0) (z0 h) hw rfl rfl k
theorem zI.ab (h:ax c ⟨t,ob⟩ d op f []) (hd:Nat.blt d c.N=true) (hw:ZC ops ⟨t,ob⟩ ⟨some d,op,ty,pos,af,g⟩ true) (k:zI c ops rest ⟨(d,f)::t,ob⟩ (tr++[⟨⟨some d,op,ty,pos,af,g⟩,f,[],Xa ⟨t,ob⟩ d op⟩]) QD):zI c ops (⟨some d,op,ty,pos,af,g⟩::rest) ⟨t,ob⟩ tr QD:=zI.cons (f:=f) (wr:=[]) (d:=d) (VD hd h) hw rfl rfl k
theorem zI.aR (h:ax c ⟨t,ob⟩ d op f [p]) (hd:Nat.blt d c.N=true) (hw:ZC ops ⟨t,ob⟩ ⟨some d,op,ty,pos,af,g⟩ true) (k:zI c ops rest ⟨(d,f)::t,p::ob⟩ (tr++[⟨⟨some d,op,ty,pos,af,g⟩,f,[p],Xa ⟨t,ob⟩ d op⟩]) QD):zI c ops (⟨some d,op,ty,pos,af,g⟩::rest) ⟨t,ob⟩ tr QD:=zI.cons (f:=f) (wr:=[p]) (d:=d) (VD hd h) hw rfl rfl k
theorem zS (hx:iE t x=some f):ax c ⟨t,ob⟩ d (.move x) f []:=(by have:=ax.move (c:=c) (s:=⟨t,ob⟩) (d:=d) x;rwa [Vy hx] at this)
theorem yi (hx:iE t x=some f):ax c ⟨t,ob⟩ d (.assign x) f []:=(by have:=ax.assign (c:=c) (s:=⟨t,ob⟩) (d:=d) x;rwa [Vy hx] at this)
theorem VV {q:Operand} (hq:(⟨t,ob⟩:ae).ev q=(.bool true)) (hx:iE t x=some f):ax c ⟨t,ob⟩ d (.pick q x y) f []:=(by have:=ax.pick (c:=c) (s:=⟨t,ob⟩) (d:=d) q x y hq;rw [if_pos rfl,Vy hx] at this;exact this)
theorem VU {q:Operand} (hq:(⟨t,ob⟩:ae).ev q=(.bool false)) (hx:iE t y=some f):ax c ⟨t,ob⟩ d (.pick q x y) f []:=(by have:=ax.pick (c:=c) (s:=⟨t,ob⟩) (d:=d) q x y hq;rw [if_neg zb,Vy hx] at this;exact this)
theorem Vr (hx:(⟨t,ob⟩:ae).ev x=.int .i64 m) (hy:(⟨t,ob⟩:ae).ev y=.int .i64 n) (hr:-9223372036854775808≤m+n∧m+n≤9223372036854775807):ax c ⟨t,ob⟩ d (.binOp .add T x y T2) (.int .i64 (m+n)) []:=(.cF .add T T2 x y hx hy (by simp only [cF];rw [sK _ hr]))
theorem XV (hx:(⟨t,ob⟩:ae).ev x=.int .i64 m) (hy:(⟨t,ob⟩:ae).ev y=.int .i64 n) (hr:-9223372036854775808≤m - n∧m - n≤9223372036854775807):ax c ⟨t,ob⟩ d (.binOp .sub T x y T2) (.int .i64 (m - n)) []:=(.cF .sub T T2 x y hx hy (by simp only [cF];rw [sK _ hr]))
theorem XU (hx:(⟨t,ob⟩:ae).ev x=.int kk m) (hy:(⟨t,ob⟩:ae).ev y=.int kk n):ax c ⟨t,ob⟩ d (.binOp .eql T x y T2) (.bool (decide (m=n))) []:=(.cF .eql T T2 x y hx hy rfl)
theorem qc (hx:(⟨t,ob⟩:ae).ev x=.int kk m) (hy:(⟨t,ob⟩:ae).ev y=.int kk n):ax c ⟨t,ob⟩ d (.binOp .neq T x y T2) (.bool (decide (m≠n))) []:=(.cF .neq T T2 x y hx hy (by simp only [cF];congr 2;by_cases h:m=n <;> simp [h,bne]))
theorem qb (hx:(⟨t,ob⟩:ae).ev x=.int kk m) (hy:(⟨t,ob⟩:ae).ev y=.int kk n):ax c ⟨t,ob⟩ d (.binOp .lss T x y T2) (.bool (decide (m<n))) []:=(.cF .lss T T2 x y hx hy rfl)
theorem FJ (hx:(⟨t,ob⟩:ae).ev x=.int kk m) (hy:(⟨t,ob⟩:ae).ev y=.int kk n):ax c ⟨t,ob⟩ d (.binOp .leq T x y T2) (.bool (decide (m≤n))) []:=(.cF .leq T T2 x y hx hy rfl)
theorem qa (hx:(⟨t,ob⟩:ae).ev x=.int kk m) (hy:(⟨t,ob⟩:ae).ev y=.int kk n):ax c ⟨t,ob⟩ d (.binOp .gtr T x y T2) (.bool (decide (m > n))) []:=(.cF .gtr T T2 x y hx hy rfl)
theorem wK (hx:(⟨t,ob⟩:ae).ev x=.int kk m) (hy:(⟨t,ob⟩:ae).ev y=.int kk n):ax c ⟨t,ob⟩ d (.binOp .geq T x y T2) (.bool (decide (m≥n))) []:=(.cF .geq T T2 x y hx hy rfl)
theorem Fq {m n:Bool} (hx:(⟨t,ob⟩:ae).ev x=.bool m) (hy:(⟨t,ob⟩:ae).ev y=.bool n) (hT:(c.ty T).k=.bool):ax c ⟨t,ob⟩ d (.binOp .eql T x y T2) (.bool (decide (m=n))) []:=(by have:=ax.kz (c:=c) (s:=⟨t,ob⟩) (d:=d) .eql (T2:=T2) x y hT hx hy zg;cases m <;> cases n <;> exact this)
theorem sO (hx:(⟨t,ob⟩:ae).ev x=.int .i64 m) (hy:(⟨t,ob⟩:ae).ev y=.int .i64 n) (hr:0≤m∧m≤9223372036854775807∧0<n):ax c ⟨t,ob⟩ d (.binOp .quo T x y T2) (.int .i64 (m / n)) []:=(by have:=ax.j4 (c:=c) (s:=⟨t,ob⟩) (d:=d) .quo T T2 x y hx hy zc (.inl rfl);rw [if_pos rfl,Int.tdiv_eq_ediv_of_nonneg hr.1,sK _ ⟨by have:=Int.ediv_nonneg hr.1 (Int.le_of_lt hr.2.2);omega,by have:=Int.ediv_le_self n hr.1;omega⟩] at this;exact this)
theorem Wi (hx:(⟨t,ob⟩:ae).ev x=.int kk m) (hy:(⟨t,ob⟩:ae).ev y=.int kk n) (hr:n≠0):ax c ⟨t,ob⟩ d (.binOp .rem T x y T2) (.int kk (m.tmod n)) []:=(by have:=ax.j4 (c:=c) (s:=⟨t,ob⟩) (d:=d) .rem T T2 x y hx hy hr (.inr rfl);rwa [if_neg zb] at this)
theorem qd (hx:(⟨t,ob⟩:ae).ev x=.bool b):ax c ⟨t,ob⟩ d (.unOp .not T x) (.bool (!b)) []:=(.not T x hx)
theorem wL {T T2:TypeId} (hx:(⟨t,ob⟩:ae).ev x=.int kk m) (hy:(⟨t,ob⟩:ae).ev y=.int kk n):ax c ⟨t,ob⟩ d (.call { callee:=.builtin .min,args:=#[x,y],argTypes:=#[T,T2] }) (.int kk (min m n)) []:=(by have:=ax.min2 (c:=c) (s:=⟨t,ob⟩) (d:=d) .min T T2 x y hx hy (.inl rfl);rw [if_pos rfl] at this;rwa [show min m n=if n<m then n else m by split <;> omega])
theorem FK {T T2:TypeId} (hx:(⟨t,ob⟩:ae).ev x=.int kk m) (hy:(⟨t,ob⟩:ae).ev y=.int kk n):ax c ⟨t,ob⟩ d (.call { callee:=.builtin .max,args:=#[x,y],argTypes:=#[T,T2] }) (.int kk (max m n)) []:=(by have:=ax.min2 (c:=c) (s:=⟨t,ob⟩) (d:=d) .max T T2 x y hx hy (.inr rfl);rw [if_neg zb] at this;rwa [show max m n=if m<n then n else m by split <;> omega])
theorem D8 {T n:Nat} {id:Nat} (hx:(⟨t,ob⟩:ae).ev x=.own id aa o n) (hT:(c.ty T).k=.slice e) (hb:(⟨t,ob⟩:ae).ob id=⟨aa,lf,E,sz,es⟩) (hl:lf≠.dead):ax c ⟨t,ob⟩ d (.call { callee:=.builtin .len,args:=#[x],argTypes:=#[T] }) (.int .i64 n) []:=(.fB hT x hx (xa hb hl))
theorem Zi {e:TypeId} {n:Nat} (hx:(⟨t,ob⟩:ae).ev x=.list sz es) (hT:(c.ty T).k=.slice e) (hn:es.length=n):ax c ⟨t,ob⟩ d (.call { callee:=.builtin .len,args:=#[x],argTypes:=#[T] }) (.int .i64 n) []:=(hn▸.ef hT x hx)
theorem D7 {e:TypeId} (hx:(⟨t,ob⟩:ae).ev x=.nil) (hT:(c.ty T).k=.slice e):ax c ⟨t,ob⟩ d (.call { callee:=.builtin .len,args:=#[x],argTypes:=#[T] }) (.int .i64 0) []:=(.fA hT x hx)
theorem yD {T ft z:Nat} {id:Nat} (hx:(⟨t,ob⟩:ae).ev x=.ptr id aa j o) (hT:(c.ty T).k=.av fs) (hf:fs[i]? = some (off,ft)) (hk:(c.ty ft).k.known=true) (hz:(c.ty ft).size=z+1) (hb:(⟨t,ob⟩:ae).ob id=⟨aa,lf,E,sz,es⟩) (hl:lf≠.dead):ax c ⟨t,ob⟩ d (.fieldAddr T x i) (.ptr id aa j (o+off)) []:=(.dw hT hf (TK.aI hk) zc x hx (xa hb hl))
theorem yN {T ft z:Nat} (hx:(⟨t,ob⟩:ae).ev x=.ay sz es j o) (hT:(c.ty T).k=.av fs) (hf:fs[i]? = some (off,ft)) (hk:(c.ty ft).k.known=true) (hz:(c.ty ft).size=z+1):ax c ⟨t,ob⟩ d (.fieldAddr T x i) (.ay sz es j (o+off)) []:=(.cR hT hf (TK.aI hk) zc x hx)
theorem yj {T:Nat} {n:Nat} (hx:(⟨t,ob⟩:ae).ev x=.list sz es) (hy:(⟨t,ob⟩:ae).ev y=.int kk m) (hm:m=(n:Int)) (hT:(c.ty T).k=.slice e) (hk:(c.ty e).k.known=true) (hz:(c.ty e).size=sz) (hn:n<es.length):ax c ⟨t,ob⟩ d (.indexAddr T x y) (.ay sz es n 0) []:=(by subst hm;exact .cT hT (TK.aI hk) x y hx hz hy hn)
theorem uQ {T p:Nat} {n:Nat} {id:Nat} (hx:(⟨t,ob⟩:ae).ev x=.own id aa 0 p) (hy:(⟨t,ob⟩:ae).ev y=.int kk m) (hm:m=(n:Int)) (hT:(c.ty T).k=.slice e) (hk:(c.ty e).k.known=true) (hb:(⟨t,ob⟩:ae).ob id=⟨aa,lf,E,sz,es⟩) (hl:lf≠.dead) (hz:(c.ty e).size=sz) (hn:n<p):ax c ⟨t,ob⟩ d (.indexAddr T x y) (.ptr id aa n 0) []:=(by subst hm;have:=ax.dB (c:=c) (s:=⟨t,ob⟩) (d:=d) hT (TK.aI hk) x y hx (xa hb hl) (by rw [hb];exact hz) hy hn;rwa [yr] at this)
theorem yF {T:Nat} (hx:(⟨t,ob⟩:ae).ev x=.ay sz es j o) (hk:(c.ty T).k.aX = some false) (hz:(c.ty T).size=1) (hj:j<es.length) (bj:es.getD j []=cs) (bh:cs.length=sz) (hf:cs[o]? = some f):ax c ⟨t,ob⟩ d (.load T x) f []:=(by have h1:=uJ hf;have:=ax.cx (c:=c) (s:=⟨t,ob⟩) (d:=d) hk x hx hj zc zc;rw [bj] at this;unfold Zl at this;rw [hk] at this;dsimp only at this;rw [h1.2] at this;exact this)
theorem xM {T:Nat} {id:Nat} (hx:(⟨t,ob⟩:ae).ev x=.ptr id aa j o) (hk:(c.ty T).k.aX = some false) (hz:(c.ty T).size=1) (hb:(⟨t,ob⟩:ae).ob id=⟨aa,lf,E,sz,es⟩) (hl:lf.row=true) (hj:j<es.length) (bj:es.getD j []=cs) (bh:cs.length=sz) (hf:cs[o]? = some f):ax c ⟨t,ob⟩ d (.load T x) f []:=(by have h1:=uJ hf;have:=ax.cU (c:=c) (s:=⟨t,ob⟩) (d:=d) hk x hx (xa hb (xC.dk hl)) (by rw [hb];exact hl) (by rw [hb];exact hj) (by rw [hb];dsimp only;omega) (by rw [hb];dsimp only;omega);rw [hb] at this;dsimp only at this;rw [bj] at this;unfold Zl at this;rw [hk] at this;dsimp only at this;rw [h1.2] at this;exact this)
theorem zJ {T:Nat} {kk:TK} (hx:(⟨t,ob⟩:ae).ev x=.ay sz es j 0) (hT:c.ty T=⟨kk,sz,dr,ze⟩) (hk:kk.aX = some true) (hp:0<sz) (hj:j<es.length) (bj:es.getD j []=cs) (bh:cs.length=sz):ax c ⟨t,ob⟩ d (.load T x) (.agg cs) []:=(Dn hx hT hk hp hj bj bh)
theorem yu {T:Nat} {kk:TK} {id:Nat} (hx:(⟨t,ob⟩:ae).ev x=.ptr id aa j 0) (hT:c.ty T=⟨kk,sz,dr,ze⟩) (hk:kk.aX = some true) (hp:0<sz) (hb:(⟨t,ob⟩:ae).ob id=⟨aa,lf,E,sz,es⟩) (hl:lf.row=true) (hj:j<es.length) (bj:es.getD j []=cs) (bh:cs.length=sz):ax c ⟨t,ob⟩ d (.load T x) (.agg cs) []:=(Dp hx hT hk hp hb hl hj bj bh)
theorem EI {T:Nat} (hx:(⟨t,ob⟩:ae).ev x=.ay sz es j o) (hk:(c.ty T).k.aX = some true) (hz:Nat.ble (o+(c.ty T).size) sz=true) (ho:Nat.blt o sz=true) (hj:j<es.length) (bj:es.getD j []=cs) (bh:cs.length=sz) (hd:Nat.blt d c.N=true) (hw:ZC ops ⟨t,ob⟩ ⟨some d,.load T x,ty,pos,af,g⟩ true) (k:zI c ops rest ⟨((d,(.agg ((cs.drop o).take (c.ty T).size)))::t),ob⟩ (tr++[⟨⟨some d,.load T x,ty,pos,af,g⟩,(.agg ((cs.drop o).take (c.ty T).size)),[],Xa ⟨t,ob⟩ d (.load T x)⟩]) QD):zI c ops (⟨some d,.load T x,ty,pos,af,g⟩::rest) ⟨t,ob⟩ tr QD:=
 zI.cons (f:=(.agg ((cs.drop o).take (c.ty T).size))) (wr:=[]) (d:=d) (VD hd (by have:=ax.cx (c:=c) (s:=⟨t,ob⟩) (d:=d) hk x hx hj (yd hz) (yd ho);rw [bj] at this;unfold Zl at this;rw [hk] at this;exact this)) hw rfl rfl k
theorem uR {T:Nat} {id:Nat} (hx:(⟨t,ob⟩:ae).ev x=.ptr id aa j o) (hk:(c.ty T).k.aX = some true) (hb:(⟨t,ob⟩:ae).ob id=⟨aa,lf,E,sz,es⟩) (hl:lf.row=true) (hz:Nat.ble (o+(c.ty T).size) sz=true) (ho:Nat.blt o sz=true) (hj:j<es.length) (bj:es.getD j []=cs) (bh:cs.length=sz):ax c ⟨t,ob⟩ d (.load T x) (.agg ((cs.drop o).take (c.ty T).size)) []:=(by have:=ax.cU (c:=c) (s:=⟨t,ob⟩) (d:=d) hk x hx (xa hb (xC.dk hl)) (by rw [hb];exact hl) (by rw [hb];exact hj) (by rw [hb];exact yd hz) (by rw [hb];exact yd ho);rw [hb] at this;dsimp only at this;rw [bj] at this;unfold Zl at this;rw [hk] at this;exact this)
theorem WL {T id:Nat} (hx:(⟨t,ob⟩:ae).ev x=.ptr id aa 0 o) (hy:iE t y=some f) (h1:f.one=true) (hk:(c.ty T).k.known=true) (hz:(c.ty T).size=1) (hb:(⟨t,ob⟩:ae).ob id=⟨aa,.own,E,sz,[cs]⟩) (bh:cs.length=sz) (ho:Nat.blt o sz=true):ax c ⟨t,ob⟩ 0 (.store T x y) .undef [(id,⟨aa,.own,E,sz,[cs.set o f]⟩)]:=(Dr hx (Vy hy) h1 hk hz hb bh ho)
theorem Eb {T id:Nat} (hx:(⟨t,ob⟩:ae).ev x=.ptr id aa j o) (hy:iE t y=some f) (h1:f.one=true) (hk:(c.ty T).k.known=true) (hz:(c.ty T).size=1) (hb:(⟨t,ob⟩:ae).ob id=⟨aa,.own,E,sz,es⟩) (hj:j<es.length) (bj:es.getD j []=cs) (bh:cs.length=sz) (ho:Nat.blt o sz=true):ax c ⟨t,ob⟩ 0 (.store T x y) .undef [(id,⟨aa,.own,E,sz,es.set j (cs.set o f)⟩)]:=(Dq hx (Vy hy) h1 hk hz hb hj bj bh ho)
theorem zA {T id:Nat} {fs:List FV} (hx:(⟨t,ob⟩:ae).ev x=.ptr id aa 0 0) (hy:(⟨t,ob⟩:ae).ev y=.agg fs) (h1:fs.all FV.one=true) (hk:(c.ty T).k.known=true) (hz:(c.ty T).size=sz) (hb:(⟨t,ob⟩:ae).ob id=⟨aa,.own,E,sz,[cs]⟩) (bh:cs.length=sz) (bY:fs.length=sz):ax c ⟨t,ob⟩ 0 (.store T x y) .undef [(id,⟨aa,.own,E,sz,[fs]⟩)]:=(Cc hx hy h1 hk hz hb bh bY)
theorem yV {T:Nat} {kk:TK} (hT:c.ty T=⟨kk,sz,dr,z⟩) (hk:kk.known=true) (hz:z.all FV.one=true) (hl:z.length=sz) (hv:(⟨t,ob⟩:ae).ob d=⟨v0,lf0,E0,iW,cH⟩):ax c ⟨t,ob⟩ d (.alloc T) (.ptr d (v0+1) 0 0) [(d,⟨v0+1,.own,T,sz,[z]⟩)]:=(by have:=ax.alloc (c:=c) (s:=⟨t,ob⟩) (d:=d) (T:=T) (by rw [hT];exact TK.aI hk) (by rw [hT];exact hz);rw [hT,Wa hv] at this;dsimp only at this;rw [hl] at this;exact this)
theorem yA {T:Nat} {kk:TK} {fs:List FV} (hx:(⟨t,ob⟩:ae).ev x=.agg fs) (hT:c.ty T=⟨kk,sz,dr,z⟩) (h1:fs.all FV.one=true) (hl:fs.length=sz) (hv:(⟨t,ob⟩:ae).ob d=⟨v0,lf0,E0,iW,cH⟩):ax c ⟨t,ob⟩ d (.box T x) (.ptr d (v0+1) 0 0) [(d,⟨v0+1,.own,T,sz,[fs]⟩)]:=(by have:=ax.box (c:=c) (s:=⟨t,ob⟩) (d:=d) (T:=T) x hx h1;rw [Wa hv] at this;dsimp only [FV.cells] at this;rw [hl] at this;exact this)
theorem wF {T:Nat} (hx:iE t x=some f) (h1:f.one=true) (hv:(⟨t,ob⟩:ae).ob d=⟨v0,lf0,E0,iW,cH⟩) (hd:Nat.blt d c.N=true) (hw:ZC ops ⟨t,ob⟩ ⟨some d,.box T x,ty,pos,af,g⟩ true) (k:zn c ops rest ⟨((d,(.ptr d (v0+1) 0 0))::t),((d,⟨v0+1,.own,T,1,[[f]]⟩)::ob)⟩ Q):zn c ops (⟨some d,.box T x,ty,pos,af,g⟩::rest) ⟨t,ob⟩ Q:=
 zn.cons (VD hd (Ex (Vy hx) h1 hv)) hw rfl k
theorem Eh {T:Nat} (hT:c.ty T=⟨.av fs,sz,dr,z⟩) (hk:fs.all (fun p=>(c.ty p.2).k.known)=true) (hf:UZ c ⟨t,ob⟩ fs z ps cs) (hd:Nat.blt d c.N=true) (hw:ZC ops ⟨t,ob⟩ ⟨some d,.build T ps.toArray,ty,pos,af,g⟩ true) (k:zn c ops rest ⟨((d,(.agg cs))::t),ob⟩ Q):zn c ops (⟨some d,.build T ps.toArray,ty,pos,af,g⟩::rest) ⟨t,ob⟩ Q:=
 zn.cons (VD hd (.build (by rw [hT]) (fun p hp=>TK.aI (zV.1 hk p hp)) ps.toArray (by rw [hT];exact hf.get))) hw rfl k
theorem Ef {T:Nat} (hT:c.ty T=⟨.av fs,sz,dr,z⟩) (hk:fs.all (fun p=>(c.ty p.2).k.known)=true) (hf:UZ c ⟨t,ob⟩ fs z ps cs) (hd:Nat.blt d c.N=true) (hw:ZC ops ⟨t,ob⟩ ⟨some d,.build T ps.toArray,ty,pos,af,g⟩ true) (k:zI c ops rest ⟨((d,(.agg cs))::t),ob⟩ (tr++[⟨⟨some d,.build T ps.toArray,ty,pos,af,g⟩,(.agg cs),[],Xa ⟨t,ob⟩ d (.build T ps.toArray)⟩]) QD):zI c ops (⟨some d,.build T ps.toArray,ty,pos,af,g⟩::rest) ⟨t,ob⟩ tr QD:=
 zI.cons (VD hd (.build (by rw [hT]) (fun p hp=>TK.aI (zV.1 hk p hp)) ps.toArray (by rw [hT];exact hf.get))) hw rfl rfl k
theorem zC {T n:Nat} {kk:TK} (hT:(c.ty T).k=.slice e) (he:c.ty e=⟨kk,sz,dr,z⟩) (hk:kk.known=true) (hf:zY ⟨t,ob⟩ sz 0 ps es) (hn:ps.length=n) (hm:Nat.ble (n * sz) 16777216=true) (ld:Nat.ble n 16777216=true) (hd:Nat.blt d c.N=true) (hw:ZC ops ⟨t,ob⟩ ⟨some d,.buildSlice T n ps.toArray,ty,pos,af,g⟩ true) (k:zn c ops rest ⟨((d,(.list sz es))::t),ob⟩ Q):zn c ops (⟨some d,.buildSlice T n ps.toArray,ty,pos,af,g⟩::rest) ⟨t,ob⟩ Q:=
 zn.cons (f:=(.list sz es)) (wr:=[]) (d:=d) (VD hd (by subst hn;obtain ⟨l1,l2,l3⟩:=hf.len;have eD:=hf.fill [] zg;have:=ax.bT (c:=c) (s:=⟨t,ob⟩) (d:=d) (n:=ps.length) hT (by rw [he];exact TK.aI hk) ps.toArray es l1 (by rw [he];exact l2) l3 (by rw [he];exact yd hm) (yd ld) (by rw [he];simpa [ae.parts] using eD);rw [he] at this;exact this)) hw rfl k
theorem ZM {T n:Nat} {kk:TK} (hT:(c.ty T).k=.slice e) (he:c.ty e=⟨kk,sz,dr,z⟩) (hk:kk.known=true) (hf:zY ⟨t,ob⟩ sz 0 ps es) (hn:ps.length=n) (hm:Nat.ble (n * sz) 16777216=true) (ld:Nat.ble n 16777216=true) (hd:Nat.blt d c.N=true) (hw:ZC ops ⟨t,ob⟩ ⟨some d,.buildSlice T n ps.toArray,ty,pos,af,g⟩ true) (k:zI c ops rest ⟨((d,(.list sz es))::t),ob⟩ (tr++[⟨⟨some d,.buildSlice T n ps.toArray,ty,pos,af,g⟩,(.list sz es),[],Xa ⟨t,ob⟩ d (.buildSlice T n ps.toArray)⟩]) QD):zI c ops (⟨some d,.buildSlice T n ps.toArray,ty,pos,af,g⟩::rest) ⟨t,ob⟩ tr QD:=
 zI.cons (f:=(.list sz es)) (wr:=[]) (d:=d) (VD hd (by subst hn;obtain ⟨l1,l2,l3⟩:=hf.len;have eD:=hf.fill [] zg;have:=ax.bT (c:=c) (s:=⟨t,ob⟩) (d:=d) (n:=ps.length) hT (by rw [he];exact TK.aI hk) ps.toArray es l1 (by rw [he];exact l2) l3 (by rw [he];exact yd hm) (yd ld) (by rw [he];simpa [ae.parts] using eD);rw [he] at this;exact this)) hw rfl rfl k
theorem Dj {T:Nat} {kk:TK} (hT:(c.ty T).k=.slice e) (he:c.ty e=⟨kk,sz,dr,z⟩) (hk:kk.known=true) (hv:(⟨t,ob⟩:ae).ob d=⟨v0,lf0,E0,iW,cH⟩):ax c ⟨t,ob⟩ d (.buildSlice T 0 #[]) (.own d (v0+1) 0 0) [(d,⟨v0+1,.own,e,sz,[]⟩)]:=(by have:=ax.buildSlice (c:=c) (s:=⟨t,ob⟩) (d:=d) (n:=0) hT (by rw [he];exact TK.aI hk) #[] [] rfl zg zg zg zg (by simp [ae.parts,ZZ]);rw [Wa hv,he] at this;exact this)
theorem Dk {T:Nat} {kk:TK} (hx:iE t x=some f) (h1:f.one=true) (hT:(c.ty T).k=.slice e) (he:c.ty e=⟨kk,1,dr,z⟩) (hk:kk.known=true) (hv:(⟨t,ob⟩:ae).ob d=⟨v0,lf0,E0,iW,cH⟩):ax c ⟨t,ob⟩ d (.buildSlice T 1 #[(0,x)]) (.own d (v0+1) 0 1) [(d,⟨v0+1,.own,e,1,[[f]]⟩)]:=(by have hf:zY ⟨t,ob⟩ 1 0 [(0,x)] [[f]]:=zY.one (Vy hx) (Xo h1) h1 rfl .nil;obtain ⟨l1,l2,l3⟩:=hf.len;have eD:=hf.fill [] zg;have:=ax.buildSlice (c:=c) (s:=⟨t,ob⟩) (d:=d) (n:=1) hT (by rw [he];exact TK.aI hk) #[(0,x)] [[f]] l1 (by rw [he];exact l2) l3 (by rw [he];exact by simp) zb (by rw [he];simpa [ae.parts] using eD);rw [Wa hv,he] at this;exact this)
theorem xN {T:Nat} {kk:TK} (hx:(⟨t,ob⟩:ae).ev x=(.agg cs)) (hT:(c.ty T).k=.slice e) (he:c.ty e=⟨kk,sz,dr,z⟩) (hk:kk.known=true) (h1:cs.all FV.one=true) (hl:cs.length=sz) (hm:Nat.ble (1 * sz) 16777216=true) (hv:(⟨t,ob⟩:ae).ob d=⟨v0,lf0,E0,iW,cH⟩):ax c ⟨t,ob⟩ d (.buildSlice T 1 #[(0,x)]) (.own d (v0+1) 0 1) [(d,⟨v0+1,.own,e,sz,[cs]⟩)]:=(by have hf:zY ⟨t,ob⟩ sz 0 [(0,x)] [cs]:=zY.agg hx h1 hl .nil;obtain ⟨l1,l2,l3⟩:=hf.len;have eD:=hf.fill [] zg;have:=ax.buildSlice (c:=c) (s:=⟨t,ob⟩) (d:=d) (n:=1) hT (by rw [he];exact TK.aI hk) #[(0,x)] [cs] l1 (by rw [he];exact l2) l3 (by rw [he];exact yd hm) zb (by rw [he];simpa [ae.parts] using eD);rw [Wa hv,he] at this;exact this)
theorem Fs {T n:Nat} {m1 m2:Int} {k1 k2:IntKind} {kk:TK} (hx:(⟨t,ob⟩:ae).ev x=.int k1 m1) (qZ:m1=(n:Int)) (hy:(⟨t,ob⟩:ae).ev y=.int k2 m2) (ld:m2=(n:Int)) (hT:(c.ty T).k=.slice e) (he:c.ty e=⟨kk,sz,dr,z⟩) (hk:kk.known=true) (hz:z.all FV.one=true) (hb:dr * n≤281474976710656) (hn:n≤281474976710656) (hv:(⟨t,ob⟩:ae).ob d=⟨v0,lf0,E0,iW,cH⟩):ax c ⟨t,ob⟩ d (.makeSlice T x y) (.own d (v0+1) 0 n) [(d,⟨v0+1,.own,e,sz,List.replicate n z⟩)]:=(by subst qZ;subst ld;have:=ax.makeSlice (c:=c) (s:=⟨t,ob⟩) (d:=d) (n:=n) hT (by rw [he];exact TK.aI hk) x y hx hy (by rw [he];exact hz) (by rw [he];exact hb) hn;rw [he,Wa hv] at this;exact this)
theorem Yv {T u:Nat} {lo hi:Option Operand} (hx:(⟨t,ob⟩:ae).ev x=.list sz es) (hT:(c.ty T).k=.slice e) (hk:(c.ty e).k.known=true) (hz:(c.ty e).size=sz) (c6:jd ⟨t,ob⟩ lo l) (cI:jc ⟨t,ob⟩ hi es.length u) (h1:l≤u) (h2:u≤es.length):ax c ⟨t,ob⟩ d (.slice T x lo hi none) (.list sz ((es.drop l).take (u - l))) []:=(.cW hT (TK.aI hk) x lo hi hx hz c6.ok cI.ok h1 h2)
theorem uK {fs:List FV} (hx:(⟨t,ob⟩:ae).ev x=.bS fs) (hf:fs[i]? = some f) (hh:f.hand=none):ax c ⟨t,ob⟩ d (.extract x i) f []:=(.extract x hx hf hh)
theorem wz {id:Nat} (hx:(⟨t,ob⟩:ae).ev x=.ptr id aa i o) (hb:(⟨t,ob⟩:ae).ob id=⟨aa,lf,E,sz,es⟩) (hl:lf≠.dead):ax c ⟨t,ob⟩ d (.nilCheck x) (.ptr id aa i o) []:=(.nilPtr x hx (xa hb hl))
theorem wE {T id n:Nat} {kk:TK} (hx:(⟨t,ob⟩:ae).ev x=.own id aa 0 n) (hb:(⟨t,ob⟩:ae).ob id=⟨aa,.own,e,sz,es⟩) (hn:n=es.length) (hT:(c.ty T).k=.slice e) (he:c.ty e=⟨kk,sz,dr,z⟩) (hk:kk.known=true) (hp:0<sz) (hy:fK t ob y sz aB) (aJ:(es.length+aB.length) * dr≤140737488355328) (hm:es.length+aB.length≤140737488355328) (hv:(⟨t,ob⟩:ae).ob d=⟨v0,lf0,E0,iW,cH⟩) (hd:Nat.blt d c.N=true) (hw:ZC ops ⟨t,ob⟩ ⟨some d,.call { callee:=.builtin .append,args:=#[x,y],argTypes:=#[T,T] },ty,pos,af,g⟩ true) (k:zn c ops rest ⟨((d,(.own d (v0+1) 0 (es++aB).length))::t),((d,⟨v0+1,.own,e,sz,es++aB⟩)::(id,⟨aa,.dead,e,sz,es⟩)::ob)⟩ Q):zn c ops (⟨some d,.call { callee:=.builtin .append,args:=#[x,y],argTypes:=#[T,T] },ty,pos,af,g⟩::rest) ⟨t,ob⟩ Q:=
 zn.cons (VD hd (vG hx hb hn hT he hk hp hy aJ hm hv)) hw rfl k
theorem wD {T id n:Nat} {kk:TK} (hx:(⟨t,ob⟩:ae).ev x=.own id aa 0 n) (hb:(⟨t,ob⟩:ae).ob id=⟨aa,.own,e,sz,es⟩) (hn:n=es.length) (hT:(c.ty T).k=.slice e) (he:c.ty e=⟨kk,sz,dr,z⟩) (hk:kk.known=true) (hp:0<sz) (hy:fK t ob y sz aB) (aJ:(es.length+aB.length) * dr≤140737488355328) (hm:es.length+aB.length≤140737488355328) (hv:(⟨t,ob⟩:ae).ob d=⟨v0,lf0,E0,iW,cH⟩) (hd:Nat.blt d c.N=true) (hw:ZC ops ⟨t,ob⟩ ⟨some d,.call { callee:=.builtin .append,args:=#[x,y],argTypes:=#[T,T] },ty,pos,af,g⟩ true) (k:zI c ops rest ⟨((d,(.own d (v0+1) 0 (es++aB).length))::t),((d,⟨v0+1,.own,e,sz,es++aB⟩)::(id,⟨aa,.dead,e,sz,es⟩)::ob)⟩ (tr++[⟨⟨some d,.call { callee:=.builtin .append,args:=#[x,y],argTypes:=#[T,T] },ty,pos,af,g⟩,(.own d (v0+1) 0 (es++aB).length),[(id,⟨aa,.dead,e,sz,es⟩),(d,⟨v0+1,.own,e,sz,es++aB⟩)],Xa ⟨t,ob⟩ d (.call { callee:=.builtin .append,args:=#[x,y],argTypes:=#[T,T] })⟩]) QD):zI c ops (⟨some d,.call { callee:=.builtin .append,args:=#[x,y],argTypes:=#[T,T] },ty,pos,af,g⟩::rest) ⟨t,ob⟩ tr QD:=
 zI.cons (VD hd (vG hx hb hn hT he hk hp hy aJ hm hv)) hw rfl rfl k
theorem Dm {T:Nat} (hv:(⟨t,ob⟩:ae).ob d=⟨v0,lf0,E0,iW,cH⟩):ax c ⟨t,ob⟩ d (.makeMap T none) (.omap d (v0+1)) [(d,⟨v0+1,.bl,T,0,[]⟩)]:=(by have:=ax.makeMap (c:=c) (s:=⟨t,ob⟩) (d:=d) T;rw [Wa hv] at this;exact this)
theorem u2 {T k e:Nat} {bb found:Bool} {x y:Operand} {kf vf:FV} {id aa E sz:Nat} {lf:xC} {es:List (List FV)} (K:Maps.Keyed c.P k) (gD:∀ row∈es,∀ kf,row.head? = some kf→XP c.P k kf) (cA:XP c.P k kf) (la:kq es kf (c.ty e).kQ vf found) (hx:(⟨t,ob⟩:ae).ev x=.omap id aa) (hb:(⟨t,ob⟩:ae).ob id=⟨aa,lf,E,sz,es⟩) (hl:lf≠.dead∧lf≠.bu) (hy:(⟨t,ob⟩:ae).ev y=kf) (hT:(c.ty T).k=.map k e) (he:(c.ty e).k.aX = some bb) (hn:vf.hand=none) (hd:Nat.blt d c.N=true) (hw:ZC ops ⟨t,ob⟩ ⟨some d,.lookup T x y false,ty,pos,af,g⟩ true) (k:zn c ops rest ⟨((d,vf)::t),ob⟩ Q):zn c ops (⟨some d,.lookup T x y false,ty,pos,af,g⟩::rest) ⟨t,ob⟩ Q:=
 zn.cons (f:=vf) (wr:=[]) (d:=d) (VD hd (by have:=ax.look (c:=c) (s:=⟨t,ob⟩) (d:=d) hT he K x y false (.inl ⟨id,aa,hx,⟨xa hb hl.1,by rw [hb];exact hl.2⟩,by rw [hb]⟩) hy gD cA la hn;simpa using this)) hw rfl k
theorem Ze {T k e id aa E sz:Nat} {x y z:Operand} {kf vf:FV} {es aZ : List (List FV)} (K:Maps.Keyed c.P k) (gD:∀ row∈es,∀ kf,row.head? = some kf→XP c.P k kf) (cA:XP c.P k kf) (hs:pw es kf vf aZ) (hx:(⟨t,ob⟩:ae).ev x=.omap id aa) (hb:(⟨t,ob⟩:ae).ob id=⟨aa,.bl,E,sz,es⟩) (hy:(⟨t,ob⟩:ae).ev y=kf) (hz:(⟨t,ob⟩:ae).ev z=vf) (hT:(c.ty T).k=.map k e) (hn:vf.hand=none) (hw:ZC ops ⟨t,ob⟩ ⟨none,.mapUpdate T x y z,ty,pos,af,g⟩ true) (k:zn c ops rest ⟨t,((id,⟨aa,.bl,E,sz,aZ⟩)::ob)⟩ Q):zn c ops (⟨none,.mapUpdate T x y z,ty,pos,af,g⟩::rest) ⟨t,ob⟩ Q:=
 zn.cons (f:=.undef) (wr:=[(id,⟨aa,.bl,E,sz,aZ⟩)]) (d:=0) (Gl (by have:=ax.update (c:=c) (s:=⟨t,ob⟩) (d:=0) hT K x y z hx (by rw [hb]) (by rw [hb]) hy hz (by rw [hb];exact gD) cA hn (aZ:=aZ) (by rw [hb];exact hs);rw [hb] at this;exact this)) hw rfl k
theorem zw {f:Nat} (hs:zP c.P f gs .fr res) (hx:zf t ob .fr xs gs) (hd:Nat.blt d c.N=true) (hw:ZC ops ⟨t,ob⟩ ⟨some d,.call { callee:=.value (.func f),args:=xs.toArray,argTypes:=ts },ty,pos,af,g⟩ true) (k:zn c ops rest ⟨((d,res)::t),ob⟩ Q):zn c ops (⟨some d,.call { callee:=.value (.func f),args:=xs.toArray,argTypes:=ts },ty,pos,af,g⟩::rest) ⟨t,ob⟩ Q:=
 zn.cons (VD hd (.call hs (.inl rfl) (by simpa using hx.ok))) hw rfl k
theorem yG {f:Nat} (hs:zP c.P f gs .fr res) (hx:zf t ob .fr xs gs) (hd:Nat.blt d c.N=true) (hw:ZC ops ⟨t,ob⟩ ⟨some d,.call { callee:=.value (.func f),args:=xs.toArray,argTypes:=ts },ty,pos,af,g⟩ true) (k:zI c ops rest ⟨((d,res)::t),ob⟩ (tr++[⟨⟨some d,.call { callee:=.value (.func f),args:=xs.toArray,argTypes:=ts },ty,pos,af,g⟩,res,[],Xa ⟨t,ob⟩ d (.call { callee:=.value (.func f),args:=xs.toArray,argTypes:=ts })⟩]) QD):zI c ops (⟨some d,.call { callee:=.value (.func f),args:=xs.toArray,argTypes:=ts },ty,pos,af,g⟩::rest) ⟨t,ob⟩ tr QD:=
 zI.cons (VD hd (.call hs (.inl rfl) (by simpa using hx.ok))) hw rfl rfl k
theorem Yk {f:Nat} (hx:(⟨t,ob⟩:ae).ev x=.fn f aF) (hs:zP c.P f (gs++aF) .fr res) (ha:zf t ob .fr xs gs) (hd:Nat.blt d c.N=true) (hw:ZC ops ⟨t,ob⟩ ⟨some d,.call { callee:=.value x,args:=xs.toArray,argTypes:=ts },ty,pos,af,g⟩ true) (k:zn c ops rest ⟨((d,res)::t),ob⟩ Q):zn c ops (⟨some d,.call { callee:=.value x,args:=xs.toArray,argTypes:=ts },ty,pos,af,g⟩::rest) ⟨t,ob⟩ Q:=
 zn.cons (VD hd (.et hx hs (.inl rfl) (by simpa using ha.ok))) hw rfl k
theorem vy {f:Nat} (hx:(⟨t,ob⟩:ae).ev x=.fn f aF) (hs:zP c.P f (gs++aF) .fr res) (ha:zf t ob .fr xs gs) (hd:Nat.blt d c.N=true) (hw:ZC ops ⟨t,ob⟩ ⟨some d,.call { callee:=.value x,args:=xs.toArray,argTypes:=ts },ty,pos,af,g⟩ true) (k:zI c ops rest ⟨((d,res)::t),ob⟩ (tr++[⟨⟨some d,.call { callee:=.value x,args:=xs.toArray,argTypes:=ts },ty,pos,af,g⟩,res,[],Xa ⟨t,ob⟩ d (.call { callee:=.value x,args:=xs.toArray,argTypes:=ts })⟩]) QD):zI c ops (⟨some d,.call { callee:=.value x,args:=xs.toArray,argTypes:=ts },ty,pos,af,g⟩::rest) ⟨t,ob⟩ tr QD:=
 zI.cons (VD hd (.et hx hs (.inl rfl) (by simpa using ha.ok))) hw rfl rfl k
theorem D6 {T T2:Nat} (hx:(⟨t,ob⟩:ae).ev x=.nil) (hy:(⟨t,ob⟩:ae).ev y=.nil) (hT:(c.ty T).k=.slice e):ax c ⟨t,ob⟩ d (.binOp .eql T x y T2) (.bool true) []:=(.eA .eql hT x y hx .nil hy zg)
theorem D5 {T T2:Nat} (hx:(⟨t,ob⟩:ae).ev x=.list sz es) (hy:(⟨t,ob⟩:ae).ev y=.nil) (hT:(c.ty T).k=.slice e) (hn:es≠[]):ax c ⟨t,ob⟩ d (.binOp .eql T x y T2) (.bool false) []:=(.eA .eql hT x y hx (.list sz es hn) hy zg)
theorem Ea {T T2:Nat} (hx:(⟨t,ob⟩:ae).ev x=.nil) (hy:(⟨t,ob⟩:ae).ev y=.nil) (hT:(c.ty T).k=.slice e):ax c ⟨t,ob⟩ d (.binOp .neq T x y T2) (.bool false) []:=(.eA .neq hT x y hx .nil hy zg)
theorem D9 {T T2:Nat} (hx:(⟨t,ob⟩:ae).ev x=.list sz es) (hy:(⟨t,ob⟩:ae).ev y=.nil) (hT:(c.ty T).k=.slice e) (hn:es≠[]):ax c ⟨t,ob⟩ d (.binOp .neq T x y T2) (.bool true) []:=(.eA .neq hT x y hx (.list sz es hn) hy zg)
theorem Dl {f:Nat} (hx:iE t x=some g1) (hh:g1.hand=none):ax c ⟨t,ob⟩ d (.makeFunc (.func f) #[] #[x]) (.fn f [g1]) []:=(.eK (by simp [Vy hx]) (by simp [hh]))
theorem XF {f:Nat} {g2:FV} (hx:iE t x=some g1) (hh:g1.hand=none) (hy:iE t y=some g2) (hi:g2.hand=none):ax c ⟨t,ob⟩ d (.makeFunc (.func f) #[] #[x,y]) (.fn f [g1,g2]) []:=(.eK (by simp [Vy hx,Vy hy]) (by simp [hh,hi]))
theorem zX {f:Nat} (hs:zP c.P f gs .sh res) (hx:zf t ob .sh xs gs) (hd:Nat.blt d c.N=true) (hw:ZC ops ⟨t,ob⟩ ⟨some d,.call { callee:=.value (.func f),args:=xs.toArray,argTypes:=ts },ty,pos,af,g⟩ true) (k:zn c ops rest ⟨((d,res)::t),ob⟩ Q):zn c ops (⟨some d,.call { callee:=.value (.func f),args:=xs.toArray,argTypes:=ts },ty,pos,af,g⟩::rest) ⟨t,ob⟩ Q:=
 zn.cons (VD hd (.call hs (.inr rfl) (by simpa using hx.ok))) hw rfl k
theorem zK {f:Nat} (hs:zP c.P f gs .sh res) (hx:zf t ob .sh xs gs) (hd:Nat.blt d c.N=true) (hw:ZC ops ⟨t,ob⟩ ⟨some d,.call { callee:=.value (.func f),args:=xs.toArray,argTypes:=ts },ty,pos,af,g⟩ true) (k:zI c ops rest ⟨((d,res)::t),ob⟩ (tr++[⟨⟨some d,.call { callee:=.value (.func f),args:=xs.toArray,argTypes:=ts },ty,pos,af,g⟩,res,[],Xa ⟨t,ob⟩ d (.call { callee:=.value (.func f),args:=xs.toArray,argTypes:=ts })⟩]) QD):zI c ops (⟨some d,.call { callee:=.value (.func f),args:=xs.toArray,argTypes:=ts },ty,pos,af,g⟩::rest) ⟨t,ob⟩ tr QD:=
 zI.cons (VD hd (.call hs (.inr rfl) (by simpa using hx.ok))) hw rfl rfl k
theorem EP {f:Nat} (hx:(⟨t,ob⟩:ae).ev x=.fn f aF) (hs:zP c.P f (gs++aF) .sh res) (ha:zf t ob .sh xs gs) (hd:Nat.blt d c.N=true) (hw:ZC ops ⟨t,ob⟩ ⟨some d,.call { callee:=.value x,args:=xs.toArray,argTypes:=ts },ty,pos,af,g⟩ true) (k:zn c ops rest ⟨((d,res)::t),ob⟩ Q):zn c ops (⟨some d,.call { callee:=.value x,args:=xs.toArray,argTypes:=ts },ty,pos,af,g⟩::rest) ⟨t,ob⟩ Q:=
 zn.cons (VD hd (.et hx hs (.inr rfl) (by simpa using ha.ok))) hw rfl k
theorem UP {f:Nat} (hx:(⟨t,ob⟩:ae).ev x=.fn f aF) (hs:zP c.P f (gs++aF) .sh res) (ha:zf t ob .sh xs gs) (hd:Nat.blt d c.N=true) (hw:ZC ops ⟨t,ob⟩ ⟨some d,.call { callee:=.value x,args:=xs.toArray,argTypes:=ts },ty,pos,af,g⟩ true) (k:zI c ops rest ⟨((d,res)::t),ob⟩ (tr++[⟨⟨some d,.call { callee:=.value x,args:=xs.toArray,argTypes:=ts },ty,pos,af,g⟩,res,[],Xa ⟨t,ob⟩ d (.call { callee:=.value x,args:=xs.toArray,argTypes:=ts })⟩]) QD):zI c ops (⟨some d,.call { callee:=.value x,args:=xs.toArray,argTypes:=ts },ty,pos,af,g⟩::rest) ⟨t,ob⟩ tr QD:=
 zI.cons (VD hd (.et hx hs (.inr rfl) (by simpa using ha.ok))) hw rfl rfl k
theorem si {f n:Nat} (hs:zP c.P f gs (.ow E sz) (.list sz es)) (hx:zf t ob (.ow E sz) xs gs) (hn:es.length=n) (hv:(⟨t,ob⟩:ae).ob d=⟨v0,lf0,E0,iW,cH⟩) (hd:Nat.blt d c.N=true) (hw:ZC ops ⟨t,ob⟩ ⟨some d,.call { callee:=.value (.func f),args:=xs.toArray,argTypes:=ts },ty,pos,af,g⟩ true) (k:zn c ops rest ⟨((d,(.own d (v0+1) 0 n))::t),((d,⟨v0+1,.own,E,sz,es⟩)::ob)⟩ Q):zn c ops (⟨some d,.call { callee:=.value (.func f),args:=xs.toArray,argTypes:=ts },ty,pos,af,g⟩::rest) ⟨t,ob⟩ Q:=
 zn.cons (f:=(.own d (v0+1) 0 n)) (wr:=[(d,⟨v0+1,.own,E,sz,es⟩)]) (d:=d) (VD hd (by subst hn;have:=ax.fo (c:=c) (s:=⟨t,ob⟩) (d:=d) (ts:=ts) hs (xs:=xs.toArray) (by simpa using hx.ok);rw [Wa hv] at this;exact this)) hw rfl k
theorem wG {o:Oper} (ho:o.dst=some d) (hd:Nat.blt d c.N=true) (hw:ZC ops ⟨t,ob⟩ o false) (k:zn c ops rest ⟨(d,.bS [])::t,ob⟩ Q):zn c ops (o::rest) ⟨t,ob⟩ Q:=
 zn.skip hw (fun d' e=>by rw [ho] at e;injection e with e;subst e;exact yd hd) (by rw [ho];rfl) k
theorem Fa {o:Oper} (ho:o.dst=some d) (hd:Nat.blt d c.N=true) (hw:ZC ops ⟨t,ob⟩ o false) (k:zI c ops rest ⟨(d,.bS [])::t,ob⟩ (tr++[⟨o,.bS [],[],[]⟩]) QD):zI c ops (o::rest) ⟨t,ob⟩ tr QD:=
 zI.skip hw (fun d' e=>by rw [ho] at e;injection e with e;subst e;exact yd hd) (by rw [ho];rfl) k
theorem Xs {T:Nat} (hT:c.ty T=⟨.av fs,sz,dr,z⟩) (hk:fs.all (fun p=>(c.ty p.2).k.known)=true) (hd:Nat.blt d c.N=true) (hw:ZC ops ⟨t,ob⟩ (⟨some d,.build T ps.toArray,ty,pos,af,g⟩:Oper) true)
  (k:ZF c ⟨t,ob⟩ fs ps z (fun cs=>zn c ops rest ⟨(d,.agg cs)::t,ob⟩ Q)):zn c ops ((⟨some d,.build T ps.toArray,ty,pos,af,g⟩:Oper)::rest) ⟨t,ob⟩ Q:=let ⟨_,h1,h2⟩:=k;Eh hT hk h1 hd hw h2
theorem EF {T:Nat} (hT:c.ty T=⟨.av fs,sz,dr,z⟩) (hk:fs.all (fun p=>(c.ty p.2).k.known)=true) (hd:Nat.blt d c.N=true) (hw:ZC ops ⟨t,ob⟩ (⟨some d,.build T ps.toArray,ty,pos,af,g⟩:Oper) true)
  (k:ZF c ⟨t,ob⟩ fs ps z (fun cs=>zI c ops rest ⟨(d,.agg cs)::t,ob⟩ (tr++[⟨⟨some d,.build T ps.toArray,ty,pos,af,g⟩,.agg cs,[],Xa ⟨t,ob⟩ d (.build T ps.toArray)⟩]) QD)):zI c ops ((⟨some d,.build T ps.toArray,ty,pos,af,g⟩:Oper)::rest) ⟨t,ob⟩ tr QD:=let ⟨_,h1,h2⟩:=k;Ef hT hk h1 hd hw h2
theorem WX (h:zn c ops ((⟨dst,.load T x,ty,pos,af,g⟩:Oper)::rest) s Q):zn c ops ((⟨dst,.load T x,ty,pos,af,g⟩:Oper)::rest) s Q:=h
theorem WV (h:zI c ops ((⟨dst,.load T x,ty,pos,af,g⟩:Oper)::rest) s tr QD):zI c ops ((⟨dst,.load T x,ty,pos,af,g⟩:Oper)::rest) s tr QD:=h
theorem C6 (h:zn c ops ((⟨dst,.store T x y,ty,pos,af,g⟩:Oper)::rest) s Q):zn c ops ((⟨dst,.store T x y,ty,pos,af,g⟩:Oper)::rest) s Q:=h
theorem mO (h:zI c ops ((⟨dst,.store T x y,ty,pos,af,g⟩:Oper)::rest) s tr QD):zI c ops ((⟨dst,.store T x y,ty,pos,af,g⟩:Oper)::rest) s tr QD:=h
theorem Vl (h:zn c ops ((⟨dst,.fieldAddr T x i,ty,pos,af,g⟩:Oper)::rest) s Q):zn c ops ((⟨dst,.fieldAddr T x i,ty,pos,af,g⟩:Oper)::rest) s Q:=h
theorem Vk (h:zI c ops ((⟨dst,.fieldAddr T x i,ty,pos,af,g⟩:Oper)::rest) s tr QD):zI c ops ((⟨dst,.fieldAddr T x i,ty,pos,af,g⟩:Oper)::rest) s tr QD:=h
theorem C5 (h:zn c ops ((⟨dst,.indexAddr T x y,ty,pos,af,g⟩:Oper)::rest) s Q):zn c ops ((⟨dst,.indexAddr T x y,ty,pos,af,g⟩:Oper)::rest) s Q:=h
theorem mN (h:zI c ops ((⟨dst,.indexAddr T x y,ty,pos,af,g⟩:Oper)::rest) s tr QD):zI c ops ((⟨dst,.indexAddr T x y,ty,pos,af,g⟩:Oper)::rest) s tr QD:=h
theorem uZ {z:Operand} (h:zn c ops ((⟨dst,.pick x y z,ty,pos,af,g⟩:Oper)::rest) s Q):zn c ops ((⟨dst,.pick x y z,ty,pos,af,g⟩:Oper)::rest) s Q:=h
theorem EH {z:Operand} (h:zI c ops ((⟨dst,.pick x y z,ty,pos,af,g⟩:Oper)::rest) s tr QD):zI c ops ((⟨dst,.pick x y z,ty,pos,af,g⟩:Oper)::rest) s tr QD:=h
theorem sj {b:BinOp} (h:zn c ops ((⟨dst,.binOp b T x y T2,ty,pos,af,g⟩:Oper)::rest) s Q):zn c ops ((⟨dst,.binOp b T x y T2,ty,pos,af,g⟩:Oper)::rest) s Q:=h
theorem sg {b:BinOp} (h:zI c ops ((⟨dst,.binOp b T x y T2,ty,pos,af,g⟩:Oper)::rest) s tr QD):zI c ops ((⟨dst,.binOp b T x y T2,ty,pos,af,g⟩:Oper)::rest) s tr QD:=h
theorem lH  (h:zn c ops ((⟨dst,op,ty,pos,af,none⟩:Oper)::rest) s Q):zn c ops ((⟨dst,op,ty,pos,af,none⟩:Oper)::rest) s Q:=h
theorem qh  (h:zI c ops ((⟨dst,op,ty,pos,af,none⟩:Oper)::rest) s tr QD):zI c ops ((⟨dst,op,ty,pos,af,none⟩:Oper)::rest) s tr QD:=h
theorem wY (h:zn c ops ((⟨dst,op,ty,pos,af,some gg⟩:Oper)::rest) s Q):zn c ops ((⟨dst,op,ty,pos,af,some gg⟩:Oper)::rest) s Q:=h
theorem wX (h:zI c ops ((⟨dst,op,ty,pos,af,some gg⟩:Oper)::rest) s tr QD):zI c ops ((⟨dst,op,ty,pos,af,some gg⟩:Oper)::rest) s tr QD:=h
theorem yc (h1:b=true→zn c ops rest ⟨(d,.bool true)::t,ob⟩ Q) (h2:b=false→zn c ops rest ⟨(d,.bool false)::t,ob⟩ Q):zn c ops rest ⟨(d,.bool b)::t,ob⟩ Q:=by
 cases b
 ·exact h2 rfl
 ·exact h1 rfl
theorem sH {o:Oper} {ft:List Nat} (h1:b=true→zI c ops rest ⟨(d,.bool true)::t,ob⟩ (tr++[⟨o,.bool true,wr,ft⟩]) QD) (h2:b=false→zI c ops rest ⟨(d,.bool false)::t,ob⟩ (tr++[⟨o,.bool false,wr,ft⟩]) QD) :
  zI c ops rest ⟨(d,.bool b)::t,ob⟩ (tr++[⟨o,.bool b,wr,ft⟩]) QD:=by
 cases b
 ·exact h2 rfl
 ·exact h1 rfl
end
end Go.Proofs.YtedkppfghdipdaaGreatDoor
