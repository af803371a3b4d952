/-
  The operations on states that are written out: one law each, for regions in the text's order (rn_) and for those that draw (rd_). (Printed by wip/fmm.py.)
-/
import Derived.Test.YtedkppfghdipdaaGreatDoorZBxxx
namespace Go.Proofs.YtedkppfghdipdaaGreatDoor
set_option linter.unusedVariables false
set_option maxHeartbeats 16000000
open Go.RowKit
variable {t:List (Nat×FV)} {ob wr:List (Nat×yb)} {E E0 c6 e i j k l o off sz gf v0 aa:Nat} {lf lf0:yT} {es ch ay:List (List FV)} {aI cs gs z ze:List FV} {f g1 res:FV} {s:ab} {fs:List (Nat×Nat)} {ps:List (Nat×Operand)} {x y:Operand} {kk:IntKind} {m n:Int} {α:Type} {T T2:TypeId} {op:Op} {p:Nat×yb} {b:Bool} {xs:List Operand} {ts:Array TypeId} {dst:Option Nat} {gg:Nat×Bool}
theorem yz {id:Nat} (h:(⟨t,ob⟩:ab).ob id=⟨aa,lf,E,sz,es⟩) (hl:lf≠.dead):(⟨t,ob⟩:ab).live id aa:=by
 unfold ab.live;rw [h];exact ⟨hl,rfl⟩
theorem Yc {d v:Nat} (h:(⟨t,ob⟩:ab).ob d=⟨v,lf,E,sz,es⟩):((⟨t,ob⟩:ab).ob d).aa+1=v+1:=by rw [h]
theorem WP (h:cs[o]? = some f):o<cs.length∧(cs.drop o).headD .undef=f:=by
 obtain ⟨h1,h2⟩:=zK.1 h;refine ⟨h1,?_⟩;rw [List.drop_eq_getElem_cons h1,h2];rfl
theorem Zd (h:o<cs.length):ah cs o [f]=cs.set o f:=by
 unfold ah;rw [pE,if_pos h];simp
def mC (cs:List FV) (o:Nat):List FV→List FV
 | [] => cs
 | f :: fs => mC (cs.set o f) (o+1) fs
theorem VN (cs:List FV) (o:Nat) (f:FV) (fs:List FV) (h:o<cs.length):ah (ah cs o [f]) (o+1) fs=ah cs o (f::fs):=by
 unfold ah;have h1:(List.take o cs++[f]++List.drop (o+1) cs).take (o+1)=List.take o cs++[f]:=by
  rw [Xx zV,ya zV]
 have h2:(List.take o cs++[f]++List.drop (o+1) cs).drop (o+1+fs.length)=List.drop (o+1+fs.length) cs:=by
  rw [List.drop_append,List.drop_of_length_le zV,Xv,List.drop_drop];congr 1;simp;omega
 simp only [yX,Vn,zR];rw [h1,h2];simp [ZP,Nat.add_left_comm]
theorem Wx:∀ (fs:List FV) (cs:List FV) (o:Nat),o+fs.length≤cs.length→fs≠[]→ah cs o fs=mC cs o fs
 | [], _, _, _, h => absurd rfl h
 | [f], cs, o, h, _ => by rw [Zd (by simp at h; omega)]; rfl
 | f :: g :: fs, cs, o, h, _ => by
  rw [← VN cs o f (g::fs) (by simp at h;omega),Zd (by simp at h;omega),Wx (g::fs) _ _ (by simp at h ⊢;omega) zd];rfl
inductive WD (c:Ctx) (s:ab) (fs:List (Nat×Nat)):List FV→List (Nat×Operand)→List FV→Prop where
 | nil {cs:List FV}:WD c s fs cs [] cs
 | one {i off ft:Nat} {x:Operand} {f:FV} {ps:List (Nat × Operand)} {cs cZ : List FV} (hx:s.ev x=f) (hi:fs[i]? = some (off, ft)) (ho:f.cells=[f]) (h1:f.one=true) (hs:(c.ty ft).size=1) (hl:Nat.blt off cs.length=true) (h:WD c s fs (cs.set off f) ps cZ):WD c s fs cs ((i, x) :: ps) cZ
 | agg {i off ft:Nat} {x:Operand} {gs:List FV} {ps:List (Nat × Operand)} {cs cZ : List FV} (hx:s.ev x=.agg gs) (hi:fs[i]? = some (off, ft)) (h1:gs.all FV.one=true) (hs:gs.length=(c.ty ft).size) (hp:gs ≠ []) (hl:Nat.ble (off+gs.length) cs.length=true) (h:WD c s fs (mC cs off gs) ps cZ):WD c s fs cs ((i, x) :: ps) cZ
theorem ZR {place:Nat→Option (Nat×Nat)} {size:Nat} {rest:List (Nat×FV)} (hp:place i=some (off,size)) (h1:f.cells.all FV.one=true) (h2:f.cells.length=size) (h3:off+size≤cs.length) :
  xG place cs ((i,f)::rest)=xG place (ah cs off f.cells) rest:=by
 rw [xG,hp];exact if_pos ⟨h1,h2,h3⟩
theorem WD.get {c:Ctx} {cZ : List FV} (h:WD c s fs cs ps cZ) :
  xG (fun i=>(fs[i]?).map fun p=>(p.1,(c.ty p.2).size)) cs (s.parts ps.toArray)=some cZ:=by
 unfold ab.parts;simp only [List.toList_toArray]
 induction h with
 | nil => rfl
 | one hx hi ho h1 hs hl h ih =>
  have bf:=yn hl;rw [yf,hx,ZR (off:=_) (size:=_) (by rw [hi];rfl) (by rw [ho];simpa using h1) (by rw [ho];exact hs.symm) (by dsimp only;omega),ho,Zd bf];exact ih
 | @agg i off ft x gs ps cs cZ hx hi h1 hs hp hl h ih =>
  have bf:=yn hl;rw [yf,hx,ZR (f:=.agg gs) (off:=off) (size:=(c.ty ft).size) (by rw [hi];rfl) h1 hs (by rw [← hs];exact bf)];rw [show (FV.agg gs).cells=gs from rfl,Wx gs cs off bf hp];exact ih
def lS {α:Type} (d:α):List (Nat×α)→Nat→Option α
 | [], _ => some d
 | (i, a) :: l, k => bif Nat.beq i k then some a else lS d l k
theorem pL {α:Type} (d:α) (k:Nat):∀ l:List (Nat×α),lS d l k=some (look d l k)
 | [] => rfl
 | (i, a) :: l => by
  unfold lS look;rw [pL d k l];cases Nat.beq i k <;> rfl
def mv (v:Value):Option FV:=
 match v with
 | .int k n => some (.int k n)
 | .bool b => some (.bool b)
 | v => some (ep v)
theorem uw (v:Value):mv v=some (ep v):=by unfold mv;split <;> rfl
def fM (t:List (Nat×FV)):Operand→Option FV
 | .tmp i => lS .undef t i
 | .const v => mv v
 | .func f => some (.fn f [])
 | _ => some .undef
theorem Xg (h:fM t x=some f):(⟨t,ob⟩:ab).ev x=f:=by
 cases x with
 | tmp i => have h' : lS .undef t i=some f := h; rw [pL] at h'; injection h'
 | const v => have h' : mv v=some f := h; rw [uw] at h'; injection h'
 | _ => injection h
theorem ZE (h:f.one=true):f.cells=[f]:=by
 cases f <;> first|rfl|(simp [FV.one] at h)
inductive zY (s:ab) (sz:Nat):Nat→List (Nat×Operand)→List (List FV)→Prop where
 | nil {k:Nat}:zY s sz k [] []
 | one {k:Nat} {x:Operand} {f:FV} {ps:List (Nat × Operand)} {es:List (List FV)} (hx:s.ev x=f) (hc:f.cells=[f]) (h1:f.one=true) (hs:sz=1) (h:zY s sz (k+1) ps es):zY s sz k ((k, x) :: ps) ([f] :: es)
 | agg {k:Nat} {x:Operand} {gs:List FV} {ps:List (Nat × Operand)} {es:List (List FV)} (hx:s.ev x=.agg gs) (h1:gs.all FV.one=true) (hs:gs.length=sz) (h:zY s sz (k+1) ps es):zY s sz k ((k, x) :: ps) (gs :: es)
theorem zY.int (hx:s.ev x=.int kk n) (hs:sz=1) (h:zY s sz (k+1) ps es):zY s sz k ((k,x)::ps) ([.int kk n]::es):=.one hx rfl rfl hs h
theorem zY.len (h:zY s sz k ps es):es.length=ps.length∧(∀ e∈es,e.length=sz)∧(∀ f∈es.flatten,f.one=true):=by
 have key:∀ (e:List FV) (es:List (List FV)) (q:Nat×Operand) (ps:List (Nat×Operand)),e.length=sz→(∀ f∈e,f.one=true)→(es.length=ps.length∧(∀ e∈es,e.length=sz)∧(∀ f∈es.flatten,f.one=true))→
   ((e::es).length=(q::ps).length∧(∀ e'∈e::es,e'.length=sz)∧(∀ f∈(e::es).flatten,f.one=true)):=by
  intro e es q ps h1 h2 h3;refine ⟨by simp [h3.1],fun e' he=>?_,fun f hf=>?_⟩
  ·rcases zU.1 he with e1|e1
   ·rw [e1];exact h1
   ·exact h3.2.1 _ e1
  ·rw [zS] at hf;rcases yJ.1 hf with e1|e1
   ·exact h2 f e1
   ·exact h3.2.2 _ e1
 induction h with
 | nil => exact ⟨rfl, by simp, by simp⟩
 | one hx hc h1 hs h ih => exact key [_] _ (_, _) _ (by rw [hs]; rfl) (by simpa using h1) ih
 | agg hx h1 hs h ih => exact key _ _ (_, _) _ hs (fun f hf => zG.1 h1 f hf) ih
theorem Vc (pre nL post ds:List α) (h:nL.length=ds.length):ah (pre++(nL++post)) pre.length ds=pre++(ds++post):=by
 unfold ah;rw [List.take_left,← h,← zD pre nL post,← ye,List.drop_left,zD]
theorem zY.fill (h:zY s sz k ps es):∀ (pre:List FV),pre.length=k * sz→
  xG (fun i=>some (i * sz,sz)) (pre++List.replicate (ps.length * sz) .undef) (ps.map fun p=>(p.1,s.ev p.2))=some (pre++es.flatten):=by
 induction h with
 | nil => intro pre _; simp [xG]
 | @one k x f ps es hx hc h1 hs h ih=>
  intro pre hp;have e1:List.replicate ((((k,x)::ps:List (Nat×Operand))).length * sz) FV.undef=List.replicate sz .undef++List.replicate (ps.length * sz) .undef:=by
   rw [yX,zE,Zu,ZP,pD]
  have e2:(pre++List.replicate ((((k,x)::ps:List (Nat×Operand))).length * sz) FV.undef).length=k * sz+(ps.length+1) * sz:=by simp [hp]
  rw [yf,hx,ZR (place:=fun i=>some (i * sz,sz)) (off:=k * sz) (size:=sz) rfl (by rw [hc];simpa using h1) (by rw [hc,hs];rfl) (by rw [e2,zE];omega),hc,e1,← hp,Vc _ _ _ _ (by simp [hs]),← zD,ih (pre++[f]) (by simp [hp,zE,hs])];simp
 | @agg k x gs ps es hx h1 hs h ih=>
  intro pre hp;have e1:List.replicate ((((k,x)::ps:List (Nat×Operand))).length * sz) FV.undef=List.replicate sz .undef++List.replicate (ps.length * sz) .undef:=by
   rw [yX,zE,Zu,ZP,pD]
  have e2:(pre++List.replicate ((((k,x)::ps:List (Nat×Operand))).length * sz) FV.undef).length=k * sz+(ps.length+1) * sz:=by simp [hp]
  rw [yf,hx,ZR (f:=.agg gs) (place:=fun i=>some (i * sz,sz)) (off:=k * sz) (size:=sz) rfl h1 hs (by rw [e2,zE];omega),e1,← hp];rw [show (FV.agg gs).cells=gs from rfl,Vc _ _ _ _ (by simp [hs]),← zD,ih (pre++gs) (by simp [hp,zE,hs])];simp
def xn (c:Ctx) (s:ab) (fs:List (Nat×Nat)) (ps:List (Nat×Operand)) (cs:List FV) (K:List FV→Prop):Prop:=∃ cZ,WD c s fs cs ps cZ∧K cZ
theorem xn.nil {c:Ctx} {s:ab} {fs:List (Nat×Nat)} {cs:List FV} {K:List FV→Prop} (h:K cs):xn c s fs [] cs K:=⟨cs,.nil,h⟩
theorem xn.one {c:Ctx} {t:List (Nat×FV)} {ob:List (Nat×yb)} {fs:List (Nat×Nat)} {i off ft:Nat} {x:Operand} {ps:List (Nat×Operand)} {cs:List FV} {K:List FV→Prop} {f:FV} (hx:fM t x=some f) (h1:f.one=true) (hi:fs[i]? = some (off,ft)) (hs:(c.ty ft).size=1) (hl:Nat.blt off cs.length=true) (h:xn c ⟨t,ob⟩ fs ps (cs.set off f) K):xn c ⟨t,ob⟩ fs ((i,x)::ps) cs K:=
 let ⟨cZ,q1,q2⟩:=h;⟨cZ,.one (Xg hx) hi (ZE h1) h1 hs hl q1,q2⟩
theorem xn.agg {c:Ctx} {s:ab} {fs:List (Nat×Nat)} {i off ft:Nat} {x:Operand} {gs:List FV} {ps:List (Nat×Operand)} {cs:List FV} {K:List FV→Prop} (hx:s.ev x=.agg gs) (hi:fs[i]? = some (off,ft)) (h1:gs.all FV.one=true) (hs:gs.length=(c.ty ft).size) (hp:gs≠[]) (hl:Nat.ble (off+gs.length) cs.length=true) (h:xn c s fs ps (mC cs off gs) K):xn c s fs ((i,x)::ps) cs K:=
 let ⟨cZ,q1,q2⟩:=h;⟨cZ,.agg hx hi h1 hs hp hl q1,q2⟩
def TK.known:TK→Bool
 | .other => false
 | _ => true
theorem TK.aD {k:TK} (h:k.known=true):k≠.other:=by rintro rfl;cases h
inductive Ve (t:List (Nat×FV)) (ob:List (Nat×yb)) (m:VP):Operand→FV→Prop where
 | plain {x:Operand} {f:FV} (h:(⟨t, ob⟩:ab).ev x=f) (hn:f.hand=none):Ve t ob m x f
 | nil {x:Operand} {sz:Nat} (h:(⟨t, ob⟩:ab).ev x=.nil):Ve t ob m x (.list sz [])
 | sub {x:Operand} {f g:FV} (h:(⟨t, ob⟩:ab).ev x=f) (hn:f.hand=none) (hle:FV.le f g):Ve t ob m x g
 | own {x:Operand} {id aa n E sz:Nat} {es:List (List FV)} {lf:yT} (h:(⟨t, ob⟩:ab).ev x=(.own id aa 0 n)) (hb:(⟨t, ob⟩:ab).ob id=⟨aa, lf, E, sz, es⟩) (hl:lf.row=true) (hm:m=.sh → lf=.shut) (hn:n=es.length):Ve t ob m x (.list sz es)
 | part {x:Operand} {id aa o n E sz:Nat} {es:List (List FV)} {lf:yT} (h:(⟨t, ob⟩:ab).ev x=(.own id aa o n)) (hb:(⟨t, ob⟩:ab).ob id=⟨aa, lf, E, sz, es⟩) (hl:lf.row=true) (hm:m=.sh → lf=.shut):Ve t ob m x (.list sz ((es.drop o).take n))
theorem Ve.ok {m:VP}:∀ {x:Operand} {g:FV},Ve t ob m x g→Xf ⟨t,ob⟩ m ((⟨t,ob⟩:ab).ev x) g
 | _, _, .plain h hn => by rw [h]; exact .plain _ hn
 | _, _, .sub h hn hle => by rw [h]; exact .sub _ _ hn hle
 | _, _, .nil h => by rw [h]; exact .nil _
 | _, _, .own (id := id) (aa := aa) (n := n) (es := es) h hb hl hm hn => by
  rw [h];have:=Xf.own (s:=⟨t,ob⟩) (m:=m) id aa 0 n (yz hb (yT.dh hl)) (by rw [hb];exact hl) (by rw [hb];exact hm);rw [hb] at this;simpa [hn] using this
 | _, _, .part (id := id) (aa := aa) (o := o) (n := n) h hb hl hm => by
  rw [h];have:=Xf.own (s:=⟨t,ob⟩) (m:=m) id aa o n (yz hb (yT.dh hl)) (by rw [hb];exact hl) (by rw [hb];exact hm);rw [hb] at this;exact this
inductive zh (t:List (Nat×FV)) (ob:List (Nat×yb)) (m:VP):List Operand→List FV→Prop where
 | nil:zh t ob m [] []
 | cons {x:Operand} {xs:List Operand} {g:FV} {gs:List FV} (h:Ve t ob m x g) (hs:zh t ob m xs gs):zh t ob m (x :: xs) (g :: gs)
theorem zh.ok {m:VP}:∀ {xs:List Operand} {gs:List FV},zh t ob m xs gs→xU ⟨t,ob⟩ m xs gs
 | _, _, .nil => .nil
 | _, _, .cons h hs => .cons h.ok hs.ok
inductive VS (t:List (Nat×FV)) (ob:List (Nat×yb)):Operand→Nat→List (List FV)→Prop where
 | nil {x:Operand} {sz:Nat} (h:(⟨t, ob⟩:ab).ev x=.nil):VS t ob x sz []
 | list {x:Operand} {sz:Nat} {es:List (List FV)} (h:(⟨t, ob⟩:ab).ev x=(.list sz es)):VS t ob x sz es
 | own {x:Operand} {id aa n E sz:Nat} {es:List (List FV)} {lf:yT} (h:(⟨t, ob⟩:ab).ev x=(.own id aa 0 n)) (hb:(⟨t, ob⟩:ab).ob id=⟨aa, lf, E, sz, es⟩) (hl:lf.row=true) (hn:n=es.length):VS t ob x sz es
 | part {x:Operand} {id aa o n E sz:Nat} {es:List (List FV)} {lf:yT} (h:(⟨t, ob⟩:ab).ev x=(.own id aa o n)) (hb:(⟨t, ob⟩:ab).ob id=⟨aa, lf, E, sz, es⟩) (hl:lf.row=true):VS t ob x sz ((es.drop o).take n)
theorem VS.ok:∀ {x:Operand} {sz:Nat} {es:List (List FV)},VS t ob x sz es→Src ⟨t,ob⟩ ((⟨t,ob⟩:ab).ev x) sz es
 | _, _, _, .nil h => by rw [h]; exact .nil _
 | _, _, _, .list h => by rw [h]; exact .list _ _
 | _, _, _, .own (id := id) (aa := aa) (n := n) h hb hl hn => by
  rw [h];have:=Src.own (s:=⟨t,ob⟩) id aa 0 n (yz hb (yT.dh hl)) (by rw [hb];exact hl);rw [hb] at this;simpa [hn] using this
 | _, _, _, .part (id := id) (aa := aa) (o := o) (n := n) h hb hl => by
  rw [h];have:=Src.own (s:=⟨t,ob⟩) id aa o n (yz hb (yT.dh hl)) (by rw [hb];exact hl);rw [hb] at this;exact this
inductive jD (s:ab):Option Operand→Nat→Prop where
 | none:jD s none 0
 | some {y:Operand} {k:IntKind} {l:Nat} (h:s.ev y=.int k (l:Nat)):jD s (some y) l
 | lit {y:Operand} {k:IntKind} {n:Int} {l:Nat} (h:s.ev y=.int k n) (e:n=(l:Nat)):jD s (some y) l
inductive jC (s:ab):Option Operand→Nat→Nat→Prop where
 | none {m:Nat}:jC s none m m
 | some {y:Operand} {k:IntKind} {m l:Nat} (h:s.ev y=.int k (l:Nat)):jC s (some y) m l
 | lit {y:Operand} {k:IntKind} {n:Int} {m l:Nat} (h:s.ev y=.int k n) (e:n=(l:Nat)):jC s (some y) m l
theorem jD.ok {x:Option Operand} (h:jD s x l):s.lo x l:=by
 cases h with
 | none => exact rfl
 | some h => exact ⟨_, h⟩
 | lit h e => subst e; exact ⟨_, h⟩
theorem jC.ok {x:Option Operand} {m:Nat} (h:jC s x m l):s.hi x m l:=by
 cases h with
 | none => exact rfl
 | some h => exact ⟨_, h⟩
 | lit h e => subst e; exact ⟨_, h⟩
theorem zW [Inhabited α] {fv:α→List FV} {l:List α} (h:j<l.length):(l.map fv).getD j []=fv (nth l j):=by
 rw [yE,yW,xp h,Zc h];rfl
theorem sV {fs:List FV} (h:cs.length=fs.length):ah cs 0 fs=fs:=by
 unfold ah;rw [List.take_zero,Xv,zR,List.drop_of_length_le zc,Zh]
section
variable {c:Ctx} {t:List (Nat×FV)} {ob:List (Nat×yb)} {d:Nat}
theorem si {T:Nat} {kk:TK} (hx:(⟨t,ob⟩:ab).ev x=(.aH sz es j 0)) (hT:c.ty T=⟨kk,sz,c6,ze⟩) (hk:kk.aQ = some true) (hp:0<sz) (hj:j<es.length) (aY:es.getD j []=cs) (hl:cs.length=sz):av c ⟨t,ob⟩ d (.load T x) (.agg cs) []:=by
 have iu : (c.ty T).k.aQ = some true:=by rw [hT];exact hk
 have:=av.cw (c:=c) (s:=⟨t,ob⟩) (d:=d) iu x hx hj (by rw [hT];simp) hp;rw [aY] at this;unfold xB at this;rw [iu] at this;dsimp only at this;rwa [hT,Xp,ya (by rw [hl];exact zm _)] at this
theorem tj {T:Nat} {id:Nat} {kk:TK} (hx:(⟨t,ob⟩:ab).ev x=(.ptr id aa j 0)) (hT:c.ty T=⟨kk,sz,c6,ze⟩) (hk:kk.aQ = some true) (hp:0<sz) (hb:(⟨t,ob⟩:ab).ob id=⟨aa,lf,E,sz,es⟩) (aW:lf.row=true) (hj:j<es.length) (aY:es.getD j []=cs) (hl:cs.length=sz) :
  av c ⟨t,ob⟩ d (.load T x) (.agg cs) []:=by
 have iu : (c.ty T).k.aQ = some true:=by rw [hT];exact hk
 have:=av.cY (c:=c) (s:=⟨t,ob⟩) (d:=d) iu x hx (yz hb (yT.dh aW)) (by rw [hb];exact aW) (by rw [hb];exact hj) (by rw [hb,hT];simp) (by rw [hb];exact hp);rw [hb] at this;dsimp only at this;rw [aY] at this;unfold xB at this;rw [iu] at this;dsimp only at this;rwa [hT,Xp,ya (by rw [hl];exact zm _)] at this
theorem tq {T:Nat} {id:Nat} (hx:(⟨t,ob⟩:ab).ev x=(.ptr id aa 0 o)) (hy:(⟨t,ob⟩:ab).ev y=f) (h1:f.one=true) (hk:(c.ty T).k.known=true) (hz:(c.ty T).size=1) (hb:(⟨t,ob⟩:ab).ob id=⟨aa,.own,E,sz,[cs]⟩) (bO:cs.length=sz) (ho:Nat.blt o sz=true) :
  av c ⟨t,ob⟩ 0 (.store T x y) .undef [(id,⟨aa,.own,E,sz,[cs.set o f]⟩)]:=by
 have dI:=yn ho;have hc:=ZE h1;have:=av.store (c:=c) (s:=⟨t,ob⟩) (d:=0) (TK.aD hk) x y hx (by rw [hb]) (by rw [hb]) hy (by rw [hc];simp [h1]) (by rw [hz,hc];rfl) (by rw [hb];exact Nat.zero_lt_one) (by rw [hb];dsimp only;omega);rw [hb] at this;have e:=Zd (f:=f) (show o<cs.length by omega);simpa [hc,e] using this
theorem tk {T:Nat} {id:Nat} (hx:(⟨t,ob⟩:ab).ev x=(.ptr id aa j o)) (hy:(⟨t,ob⟩:ab).ev y=f) (h1:f.one=true) (hk:(c.ty T).k.known=true) (hz:(c.ty T).size=1) (hb:(⟨t,ob⟩:ab).ob id=⟨aa,.own,E,sz,es⟩) (hj:j<es.length) (aY:es.getD j []=cs) (bO:cs.length=sz) (ho:Nat.blt o sz=true) :
  av c ⟨t,ob⟩ 0 (.store T x y) .undef [(id,⟨aa,.own,E,sz,es.set j (cs.set o f)⟩)]:=by
 have dI:=yn ho;have hc:=ZE h1;have:=av.store (c:=c) (s:=⟨t,ob⟩) (d:=0) (TK.aD hk) x y hx (by rw [hb]) (by rw [hb]) hy (by rw [hc];simp [h1]) (by rw [hz,hc];rfl) (by rw [hb];exact hj) (by rw [hb];dsimp only;omega);rw [hb] at this;have e:=Zd (f:=f) (show o<cs.length by omega);rw [hc] at this;dsimp only at this;rw [aY,e] at this;exact this
theorem ux {T d:Nat} (hx:(⟨t,ob⟩:ab).ev x=f) (h1:f.one=true) (hv:(⟨t,ob⟩:ab).ob d=⟨v0,lf0,E0,gf,ch⟩):av c ⟨t,ob⟩ d (.box T x) (.ptr d (v0+1) 0 0) [(d,⟨v0+1,.own,T,1,[[f]]⟩)]:=by
 have hc:=ZE h1;have:=av.box (c:=c) (s:=⟨t,ob⟩) (d:=d) (T:=T) x hx (by rw [hc];simp [h1]);rw [Yc hv,hc] at this;exact this
theorem sw {T:Nat} {id:Nat} {fs:List FV} (hx:(⟨t,ob⟩:ab).ev x=(.ptr id aa 0 0)) (hy:(⟨t,ob⟩:ab).ev y=(.agg fs)) (h1:fs.all FV.one=true) (hk:(c.ty T).k.known=true) (hz:(c.ty T).size=sz) (hb:(⟨t,ob⟩:ab).ob id=⟨aa,.own,E,sz,[cs]⟩) (hl:cs.length=sz) (bJ:fs.length=sz) :
  av c ⟨t,ob⟩ 0 (.store T x y) .undef [(id,⟨aa,.own,E,sz,[fs]⟩)]:=by
 have:=av.store (c:=c) (s:=⟨t,ob⟩) (d:=0) (TK.aD hk) x y hx (by rw [hb]) (by rw [hb]) hy h1 (by rw [hz];exact bJ) (by rw [hb];exact Nat.zero_lt_one) (by rw [hb,hz];simp);rw [hb] at this;simpa [FV.cells,sV (hl.trans bJ.symm)] using this
theorem pG {T id n:Nat} {kk:TK} (hx:(⟨t,ob⟩:ab).ev x=(.own id aa 0 n)) (hb:(⟨t,ob⟩:ab).ob id=⟨aa,.own,e,sz,es⟩) (hn:n=es.length) (hT:(c.ty T).k=.slice e) (he:c.ty e=⟨kk,sz,c6,z⟩) (hk:kk.known=true) (hp:0<sz) (hy:VS t ob y sz ay)
  (aE:(es.length+ay.length) * c6≤140737488355328) (hm:es.length+ay.length≤140737488355328) (hv:(⟨t,ob⟩:ab).ob d=⟨v0,lf0,E0,gf,ch⟩) :
  av c ⟨t,ob⟩ d (.call { callee:=.builtin .append,args:=#[x,y],argTypes:=#[T,T] }) (.own d (v0+1) 0 (es++ay).length) [(id,⟨aa,.dead,e,sz,es⟩),(d,⟨v0+1,.own,e,sz,es++ay⟩)]:=by
 have mR:gy ⟨t,ob⟩ (.own id aa 0 n) sz es (some id):=by
  have:=gy.own (s:=⟨t,ob⟩) id aa (by rw [hb]) (by rw [hb]) n (by rw [hb];exact hn);rw [hb] at this;exact this
 have:=av.append (c:=c) (s:=⟨t,ob⟩) (d:=d) (i:=some id) hT (by rw [he];exact TK.aD hk) (by rw [he];exact hp) x y hx rfl (by rw [he];exact mR) (fun k h=>by injection h with h;subst h;rw [hb]) (by rw [he];exact hy.ok) (by rw [he];exact aE) hm;rw [he] at this;simpa [Zf,Yc hv,hb] using this
end
section
variable {c:Ctx} {ops:Array Oper} {rest:List Oper} {t:List (Nat×FV)} {ob:List (Nat×yb)} {d:Nat} {ty:TypeId} {pos:String} {af:Array Edge} {g:Option (Nat×Bool)} {Q:ab→Prop} {QD:ab→List Rec→Prop} {tr:List Rec}
theorem Xl (hd:Nat.blt d c.N=true) (h:av c s d op f wr):kQ c s ⟨some d,op,ty,pos,af,g⟩ f wr d:=
 ⟨.inl rfl,(fun _ e=>by injection e with e;subst e;exact yn hd),h⟩
theorem qx (h:av c s d (.store T x y) f wr):kQ c s ⟨none,.store T x y,ty,pos,af,g⟩ f wr d:=
 ⟨.inr ⟨rfl,.inl ⟨_,_,_,rfl⟩⟩,(fun _ e=>by cases e),h⟩
theorem vD {z:Operand} (h:av c s d (.mapUpdate T x y z) f wr):kQ c s ⟨none,.mapUpdate T x y z,ty,pos,af,g⟩ f wr d:=
 ⟨.inr ⟨rfl,.inr ⟨_,_,_,_,rfl⟩⟩,(fun _ e=>by cases e),h⟩
theorem zu.dU (h:av c ⟨t,ob⟩ 0 (.store T x y) .undef [p]) (hw:xk ops ⟨t,ob⟩ ⟨none,.store T x y,ty,pos,af,g⟩ true) (k:zu c ops rest ⟨t,p::ob⟩ Q):zu c ops (⟨none,.store T x y,ty,pos,af,g⟩::rest) ⟨t,ob⟩ Q:=zu.cons (f:=.undef) (wr:=[p]) (d:=0) (qx h) hw rfl k
theorem zu.aj (h:av c ⟨t,ob⟩ d op f []) (hd:Nat.blt d c.N=true) (hw:xk ops ⟨t,ob⟩ ⟨some d,op,ty,pos,af,g⟩ true) (k:zu c ops rest ⟨(d,f)::t,ob⟩ Q):zu c ops (⟨some d,op,ty,pos,af,g⟩::rest) ⟨t,ob⟩ Q:=zu.cons (f:=f) (wr:=[]) (d:=d) (Xl hd h) hw rfl k
theorem zu.bn (h:av c ⟨t,ob⟩ d op f [p]) (hd:Nat.blt d c.N=true) (hw:xk ops ⟨t,ob⟩ ⟨some d,op,ty,pos,af,g⟩ true) (k:zu c ops rest ⟨(d,f)::t,p::ob⟩ Q):zu c ops (⟨some d,op,ty,pos,af,g⟩::rest) ⟨t,ob⟩ Q:=zu.cons (f:=f) (wr:=[p]) (d:=d) (Xl hd h) hw rfl k
theorem zB.dU (h:av c ⟨t,ob⟩ 0 (.store T x y) .undef [p]) (hw:xk ops ⟨t,ob⟩ ⟨none,.store T x y,ty,pos,af,g⟩ true) (k:zB c ops rest ⟨t,p::ob⟩ (tr++[⟨⟨none,.store T x y,ty,pos,af,g⟩,.undef,[p],Zr ⟨t,ob⟩ 0 (.store T x y)⟩]) QD):zB c ops (⟨none,.store T x y,ty,pos,af,g⟩::rest) ⟨t,ob⟩ tr QD:=zB.cons (f:=.undef) (wr:=[p]) (d:=0) (qx h) hw rfl rfl k
theorem zB.aj (h:av c ⟨t,ob⟩ d op f []) (hd:Nat.blt d c.N=true) (hw:xk ops ⟨t,ob⟩ ⟨some d,op,ty,pos,af,g⟩ true) (k:zB c ops rest ⟨(d,f)::t,ob⟩ (tr++[⟨⟨some d,op,ty,pos,af,g⟩,f,[],Zr ⟨t,ob⟩ d op⟩]) QD):zB c ops (⟨some d,op,ty,pos,af,g⟩::rest) ⟨t,ob⟩ tr QD:=zB.cons (f:=f) (wr:=[]) (d:=d) (Xl hd h) hw rfl rfl k
theorem zB.bn (h:av c ⟨t,ob⟩ d op f [p]) (hd:Nat.blt d c.N=true) (hw:xk ops ⟨t,ob⟩ ⟨some d,op,ty,pos,af,g⟩ true) (k:zB c ops rest ⟨(d,f)::t,p::ob⟩ (tr++[⟨⟨some d,op,ty,pos,af,g⟩,f,[p],Zr ⟨t,ob⟩ d op⟩]) QD):zB c ops (⟨some d,op,ty,pos,af,g⟩::rest) ⟨t,ob⟩ tr QD:=zB.cons (f:=f) (wr:=[p]) (d:=d) (Xl hd h) hw rfl rfl k
theorem xj (hx:fM t x=some f):av c ⟨t,ob⟩ d (.move x) f []:=(by have:=av.move (c:=c) (s:=⟨t,ob⟩) (d:=d) x;rwa [Xg hx] at this)
theorem xz (hx:fM t x=some f):av c ⟨t,ob⟩ d (.assign x) f []:=(by have:=av.assign (c:=c) (s:=⟨t,ob⟩) (d:=d) x;rwa [Xg hx] at this)
theorem XF {q:Operand} (hq:(⟨t,ob⟩:ab).ev q=(.bool true)) (hx:fM t x=some f):av c ⟨t,ob⟩ d (.pick q x y) f []:=(by have:=av.pick (c:=c) (s:=⟨t,ob⟩) (d:=d) q x y hq;rw [if_pos rfl,Xg hx] at this;exact this)
theorem XE {q:Operand} (hq:(⟨t,ob⟩:ab).ev q=(.bool false)) (hx:fM t y=some f):av c ⟨t,ob⟩ d (.pick q x y) f []:=(by have:=av.pick (c:=c) (s:=⟨t,ob⟩) (d:=d) q x y hq;rw [if_neg zb,Xg hx] at this;exact this)
theorem qc (hx:(⟨t,ob⟩:ab).ev x=.int .i64 m) (hy:(⟨t,ob⟩:ab).ev y=.int .i64 n) (hr:-9223372036854775808≤m+n∧m+n≤9223372036854775807):av c ⟨t,ob⟩ d (.binOp .add T x y T2) (.int .i64 (m+n)) []:=(.cd .add T T2 x y hx hy (by simp only [cd];rw [pX _ hr]))
theorem n6 (hx:(⟨t,ob⟩:ab).ev x=.int .i64 m) (hy:(⟨t,ob⟩:ab).ev y=.int .i64 n) (hr:-9223372036854775808≤m - n∧m - n≤9223372036854775807):av c ⟨t,ob⟩ d (.binOp .sub T x y T2) (.int .i64 (m - n)) []:=(.cd .sub T T2 x y hx hy (by simp only [cd];rw [pX _ hr]))
theorem XW (hx:(⟨t,ob⟩:ab).ev x=.int kk m) (hy:(⟨t,ob⟩:ab).ev y=.int kk n):av c ⟨t,ob⟩ d (.binOp .eql T x y T2) (.bool (decide (m=n))) []:=(.cd .eql T T2 x y hx hy rfl)
theorem n7 (hx:(⟨t,ob⟩:ab).ev x=.int kk m) (hy:(⟨t,ob⟩:ab).ev y=.int kk n):av c ⟨t,ob⟩ d (.binOp .neq T x y T2) (.bool (decide (m≠n))) []:=(.cd .neq T T2 x y hx hy (by simp only [cd];congr 2;by_cases h:m=n <;> simp [h,bne]))
theorem VZ (hx:(⟨t,ob⟩:ab).ev x=.int kk m) (hy:(⟨t,ob⟩:ab).ev y=.int kk n):av c ⟨t,ob⟩ d (.binOp .lss T x y T2) (.bool (decide (m<n))) []:=(.cd .lss T T2 x y hx hy rfl)
theorem vF (hx:(⟨t,ob⟩:ab).ev x=.int kk m) (hy:(⟨t,ob⟩:ab).ev y=.int kk n):av c ⟨t,ob⟩ d (.binOp .leq T x y T2) (.bool (decide (m≤n))) []:=(.cd .leq T T2 x y hx hy rfl)
theorem qe (hx:(⟨t,ob⟩:ab).ev x=.int kk m) (hy:(⟨t,ob⟩:ab).ev y=.int kk n):av c ⟨t,ob⟩ d (.binOp .gtr T x y T2) (.bool (decide (m > n))) []:=(.cd .gtr T T2 x y hx hy rfl)
theorem qd (hx:(⟨t,ob⟩:ab).ev x=.int kk m) (hy:(⟨t,ob⟩:ab).ev y=.int kk n):av c ⟨t,ob⟩ d (.binOp .geq T x y T2) (.bool (decide (m≥n))) []:=(.cd .geq T T2 x y hx hy rfl)
theorem Vt (hx:(⟨t,ob⟩:ab).ev x=.int kk m) (hy:(⟨t,ob⟩:ab).ev y=.int kk n) (hr:n≠0):av c ⟨t,ob⟩ d (.binOp .rem T x y T2) (.int kk (m.tmod n)) []:=(by have:=av.iM (c:=c) (s:=⟨t,ob⟩) (d:=d) .rem T T2 x y hx hy hr (.inr rfl);rwa [if_neg zb] at this)
theorem n5 (hx:(⟨t,ob⟩:ab).ev x=.bool b):av c ⟨t,ob⟩ d (.unOp .not T x) (.bool (!b)) []:=(.not T x hx)
theorem vH {T T2:TypeId} (hx:(⟨t,ob⟩:ab).ev x=.int kk m) (hy:(⟨t,ob⟩:ab).ev y=.int kk n):av c ⟨t,ob⟩ d (.call { callee:=.builtin .min,args:=#[x,y],argTypes:=#[T,T2] }) (.int kk (min m n)) []:=(by have:=av.min2 (c:=c) (s:=⟨t,ob⟩) (d:=d) .min T T2 x y hx hy (.inl rfl);rw [if_pos rfl] at this;rwa [show min m n=if n<m then n else m by split <;> omega])
theorem vG {T T2:TypeId} (hx:(⟨t,ob⟩:ab).ev x=.int kk m) (hy:(⟨t,ob⟩:ab).ev y=.int kk n):av c ⟨t,ob⟩ d (.call { callee:=.builtin .max,args:=#[x,y],argTypes:=#[T,T2] }) (.int kk (max m n)) []:=(by have:=av.min2 (c:=c) (s:=⟨t,ob⟩) (d:=d) .max T T2 x y hx hy (.inr rfl);rw [if_neg zb] at this;rwa [show max m n=if m<n then n else m by split <;> omega])
theorem s9 {T n:Nat} {id:Nat} (hx:(⟨t,ob⟩:ab).ev x=.own id aa o n) (hT:(c.ty T).k=.slice e) (hb:(⟨t,ob⟩:ab).ob id=⟨aa,lf,E,sz,es⟩) (hl:lf≠.dead):av c ⟨t,ob⟩ d (.call { callee:=.builtin .len,args:=#[x],argTypes:=#[T] }) (.int .i64 n) []:=(.eB hT x hx (yz hb hl))
theorem xZ {e:TypeId} {n:Nat} (hx:(⟨t,ob⟩:ab).ev x=.list sz es) (hT:(c.ty T).k=.slice e) (hn:es.length=n):av c ⟨t,ob⟩ d (.call { callee:=.builtin .len,args:=#[x],argTypes:=#[T] }) (.int .i64 n) []:=(hn▸.dz hT x hx)
theorem s8 {e:TypeId} (hx:(⟨t,ob⟩:ab).ev x=.nil) (hT:(c.ty T).k=.slice e):av c ⟨t,ob⟩ d (.call { callee:=.builtin .len,args:=#[x],argTypes:=#[T] }) (.int .i64 0) []:=(.eA hT x hx)
theorem xY {T ft z:Nat} {id:Nat} (hx:(⟨t,ob⟩:ab).ev x=.ptr id aa j o) (hT:(c.ty T).k=.au fs) (hf:fs[i]? = some (off,ft)) (hk:(c.ty ft).k.known=true) (hz:(c.ty ft).size=z+1) (hb:(⟨t,ob⟩:ab).ob id=⟨aa,lf,E,sz,es⟩) (hl:lf≠.dead):av c ⟨t,ob⟩ d (.fieldAddr T x i) (.ptr id aa j (o+off)) []:=(.cP hT hf (TK.aD hk) zc x hx (yz hb hl))
theorem xX {T ft z:Nat} (hx:(⟨t,ob⟩:ab).ev x=.aH sz es j o) (hT:(c.ty T).k=.au fs) (hf:fs[i]? = some (off,ft)) (hk:(c.ty ft).k.known=true) (hz:(c.ty ft).size=z+1):av c ⟨t,ob⟩ d (.fieldAddr T x i) (.aH sz es j (o+off)) []:=(.cy hT hf (TK.aD hk) zc x hx)
theorem Zx {T:Nat} {n:Nat} (hx:(⟨t,ob⟩:ab).ev x=.list sz es) (hy:(⟨t,ob⟩:ab).ev y=.int kk m) (hm:m=(n:Int)) (hT:(c.ty T).k=.slice e) (hk:(c.ty e).k.known=true) (hz:(c.ty e).size=sz) (hn:n<es.length):av c ⟨t,ob⟩ d (.indexAddr T x y) (.aH sz es n 0) []:=(by subst hm;exact .cA hT (TK.aD hk) x y hx hz hy hn)
theorem s7 {T p:Nat} {n:Nat} {id:Nat} (hx:(⟨t,ob⟩:ab).ev x=.own id aa 0 p) (hy:(⟨t,ob⟩:ab).ev y=.int kk m) (hm:m=(n:Int)) (hT:(c.ty T).k=.slice e) (hk:(c.ty e).k.known=true) (hb:(⟨t,ob⟩:ab).ob id=⟨aa,lf,E,sz,es⟩) (hl:lf≠.dead) (hz:(c.ty e).size=sz) (hn:n<p):av c ⟨t,ob⟩ d (.indexAddr T x y) (.ptr id aa n 0) []:=(by subst hm;have:=av.cX (c:=c) (s:=⟨t,ob⟩) (d:=d) hT (TK.aD hk) x y hx (yz hb hl) (by rw [hb];exact hz) hy hn;rwa [zR] at this)
theorem xP {T:Nat} (hx:(⟨t,ob⟩:ab).ev x=.aH sz es j o) (hk:(c.ty T).k.aQ = some false) (hz:(c.ty T).size=1) (hj:j<es.length) (aY:es.getD j []=cs) (bO:cs.length=sz) (hf:cs[o]? = some f):av c ⟨t,ob⟩ d (.load T x) f []:=(by have h1:=WP hf;have:=av.cw (c:=c) (s:=⟨t,ob⟩) (d:=d) hk x hx hj zc zc;rw [aY] at this;unfold xB at this;rw [hk] at this;dsimp only at this;rw [h1.2] at this;exact this)
theorem ZQ {T:Nat} {id:Nat} (hx:(⟨t,ob⟩:ab).ev x=.ptr id aa j o) (hk:(c.ty T).k.aQ = some false) (hz:(c.ty T).size=1) (hb:(⟨t,ob⟩:ab).ob id=⟨aa,lf,E,sz,es⟩) (hl:lf.row=true) (hj:j<es.length) (aY:es.getD j []=cs) (bO:cs.length=sz) (hf:cs[o]? = some f):av c ⟨t,ob⟩ d (.load T x) f []:=(by have h1:=WP hf;have:=av.cY (c:=c) (s:=⟨t,ob⟩) (d:=d) hk x hx (yz hb (yT.dh hl)) (by rw [hb];exact hl) (by rw [hb];exact hj) (by rw [hb];dsimp only;omega) (by rw [hb];dsimp only;omega);rw [hb] at this;dsimp only at this;rw [aY] at this;unfold xB at this;rw [hk] at this;dsimp only at this;rw [h1.2] at this;exact this)
theorem VY {T:Nat} {kk:TK} (hx:(⟨t,ob⟩:ab).ev x=.aH sz es j 0) (hT:c.ty T=⟨kk,sz,c6,ze⟩) (hk:kk.aQ = some true) (hp:0<sz) (hj:j<es.length) (aY:es.getD j []=cs) (bO:cs.length=sz):av c ⟨t,ob⟩ d (.load T x) (.agg cs) []:=(si hx hT hk hp hj aY bO)
theorem YC {T:Nat} {kk:TK} {id:Nat} (hx:(⟨t,ob⟩:ab).ev x=.ptr id aa j 0) (hT:c.ty T=⟨kk,sz,c6,ze⟩) (hk:kk.aQ = some true) (hp:0<sz) (hb:(⟨t,ob⟩:ab).ob id=⟨aa,lf,E,sz,es⟩) (hl:lf.row=true) (hj:j<es.length) (aY:es.getD j []=cs) (bO:cs.length=sz):av c ⟨t,ob⟩ d (.load T x) (.agg cs) []:=(tj hx hT hk hp hb hl hj aY bO)
theorem Ua {T id:Nat} (hx:(⟨t,ob⟩:ab).ev x=.ptr id aa 0 o) (hy:fM t y=some f) (h1:f.one=true) (hk:(c.ty T).k.known=true) (hz:(c.ty T).size=1) (hb:(⟨t,ob⟩:ab).ob id=⟨aa,.own,E,sz,[cs]⟩) (bO:cs.length=sz) (ho:Nat.blt o sz=true):av c ⟨t,ob⟩ 0 (.store T x y) .undef [(id,⟨aa,.own,E,sz,[cs.set o f]⟩)]:=(tq hx (Xg hy) h1 hk hz hb bO ho)
theorem sO {T id:Nat} (hx:(⟨t,ob⟩:ab).ev x=.ptr id aa j o) (hy:fM t y=some f) (h1:f.one=true) (hk:(c.ty T).k.known=true) (hz:(c.ty T).size=1) (hb:(⟨t,ob⟩:ab).ob id=⟨aa,.own,E,sz,es⟩) (hj:j<es.length) (aY:es.getD j []=cs) (bO:cs.length=sz) (ho:Nat.blt o sz=true):av c ⟨t,ob⟩ 0 (.store T x y) .undef [(id,⟨aa,.own,E,sz,es.set j (cs.set o f)⟩)]:=(tk hx (Xg hy) h1 hk hz hb hj aY bO ho)
theorem xu {T id:Nat} {fs:List FV} (hx:(⟨t,ob⟩:ab).ev x=.ptr id aa 0 0) (hy:(⟨t,ob⟩:ab).ev y=.agg fs) (h1:fs.all FV.one=true) (hk:(c.ty T).k.known=true) (hz:(c.ty T).size=sz) (hb:(⟨t,ob⟩:ab).ob id=⟨aa,.own,E,sz,[cs]⟩) (bO:cs.length=sz) (bJ:fs.length=sz):av c ⟨t,ob⟩ 0 (.store T x y) .undef [(id,⟨aa,.own,E,sz,[fs]⟩)]:=(sw hx hy h1 hk hz hb bO bJ)
theorem Zl {T:Nat} {kk:TK} (hT:c.ty T=⟨kk,sz,c6,z⟩) (hk:kk.known=true) (hz:z.all FV.one=true) (hl:z.length=sz) (hv:(⟨t,ob⟩:ab).ob d=⟨v0,lf0,E0,gf,ch⟩):av c ⟨t,ob⟩ d (.alloc T) (.ptr d (v0+1) 0 0) [(d,⟨v0+1,.own,T,sz,[z]⟩)]:=(by have:=av.alloc (c:=c) (s:=⟨t,ob⟩) (d:=d) (T:=T) (by rw [hT];exact TK.aD hk) (by rw [hT];exact hz);rw [hT,Yc hv] at this;dsimp only at this;rw [hl] at this;exact this)
theorem yh {T:Nat} {kk:TK} {fs:List FV} (hx:(⟨t,ob⟩:ab).ev x=.agg fs) (hT:c.ty T=⟨kk,sz,c6,z⟩) (h1:fs.all FV.one=true) (hl:fs.length=sz) (hv:(⟨t,ob⟩:ab).ob d=⟨v0,lf0,E0,gf,ch⟩):av c ⟨t,ob⟩ d (.box T x) (.ptr d (v0+1) 0 0) [(d,⟨v0+1,.own,T,sz,[fs]⟩)]:=(by have:=av.box (c:=c) (s:=⟨t,ob⟩) (d:=d) (T:=T) x hx h1;rw [Yc hv] at this;dsimp only [FV.cells] at this;rw [hl] at this;exact this)
theorem u9 {T:Nat} (hx:fM t x=some f) (h1:f.one=true) (hv:(⟨t,ob⟩:ab).ob d=⟨v0,lf0,E0,gf,ch⟩) (hd:Nat.blt d c.N=true) (hw:xk ops ⟨t,ob⟩ ⟨some d,.box T x,ty,pos,af,g⟩ true) (k:zu c ops rest ⟨((d,(.ptr d (v0+1) 0 0))::t),((d,⟨v0+1,.own,T,1,[[f]]⟩)::ob)⟩ Q):zu c ops (⟨some d,.box T x,ty,pos,af,g⟩::rest) ⟨t,ob⟩ Q:=
 zu.cons (Xl hd (ux (Xg hx) h1 hv)) hw rfl k
theorem vg {T:Nat} (hT:c.ty T=⟨.au fs,sz,c6,z⟩) (hk:fs.all (fun p=>(c.ty p.2).k.known)=true) (hf:WD c ⟨t,ob⟩ fs z ps cs) (hd:Nat.blt d c.N=true) (hw:xk ops ⟨t,ob⟩ ⟨some d,.build T ps.toArray,ty,pos,af,g⟩ true) (k:zu c ops rest ⟨((d,(.agg cs))::t),ob⟩ Q):zu c ops (⟨some d,.build T ps.toArray,ty,pos,af,g⟩::rest) ⟨t,ob⟩ Q:=
 zu.cons (Xl hd (.build (by rw [hT]) (fun p hp=>TK.aD (zG.1 hk p hp)) ps.toArray (by rw [hT];exact hf.get))) hw rfl k
theorem tY {T:Nat} (hT:c.ty T=⟨.au fs,sz,c6,z⟩) (hk:fs.all (fun p=>(c.ty p.2).k.known)=true) (hf:WD c ⟨t,ob⟩ fs z ps cs) (hd:Nat.blt d c.N=true) (hw:xk ops ⟨t,ob⟩ ⟨some d,.build T ps.toArray,ty,pos,af,g⟩ true) (k:zB c ops rest ⟨((d,(.agg cs))::t),ob⟩ (tr++[⟨⟨some d,.build T ps.toArray,ty,pos,af,g⟩,(.agg cs),[],Zr ⟨t,ob⟩ d (.build T ps.toArray)⟩]) QD):zB c ops (⟨some d,.build T ps.toArray,ty,pos,af,g⟩::rest) ⟨t,ob⟩ tr QD:=
 zB.cons (Xl hd (.build (by rw [hT]) (fun p hp=>TK.aD (zG.1 hk p hp)) ps.toArray (by rw [hT];exact hf.get))) hw rfl rfl k
theorem zw {T n:Nat} {kk:TK} (hT:(c.ty T).k=.slice e) (he:c.ty e=⟨kk,sz,c6,z⟩) (hk:kk.known=true) (hf:zY ⟨t,ob⟩ sz 0 ps es) (hn:ps.length=n) (hm:Nat.ble (n * sz) 16777216=true) (ji:Nat.ble n 16777216=true) (hd:Nat.blt d c.N=true) (hw:xk ops ⟨t,ob⟩ ⟨some d,.buildSlice T n ps.toArray,ty,pos,af,g⟩ true) (k:zu c ops rest ⟨((d,(.list sz es))::t),ob⟩ Q):zu c ops (⟨some d,.buildSlice T n ps.toArray,ty,pos,af,g⟩::rest) ⟨t,ob⟩ Q:=
 zu.cons (f:=(.list sz es)) (wr:=[]) (d:=d) (Xl hd (by subst hn;obtain ⟨l1,l2,l3⟩:=hf.len;have dF:=hf.fill [] zd;have:=av.bI (c:=c) (s:=⟨t,ob⟩) (d:=d) (n:=ps.length) hT (by rw [he];exact TK.aD hk) ps.toArray es l1 (by rw [he];exact l2) l3 (by rw [he];exact yn hm) (yn ji) (by rw [he];simpa [ab.parts] using dF);rw [he] at this;exact this)) hw rfl k
theorem WW {T n:Nat} {kk:TK} (hT:(c.ty T).k=.slice e) (he:c.ty e=⟨kk,sz,c6,z⟩) (hk:kk.known=true) (hf:zY ⟨t,ob⟩ sz 0 ps es) (hn:ps.length=n) (hm:Nat.ble (n * sz) 16777216=true) (ji:Nat.ble n 16777216=true) (hd:Nat.blt d c.N=true) (hw:xk ops ⟨t,ob⟩ ⟨some d,.buildSlice T n ps.toArray,ty,pos,af,g⟩ true) (k:zB c ops rest ⟨((d,(.list sz es))::t),ob⟩ (tr++[⟨⟨some d,.buildSlice T n ps.toArray,ty,pos,af,g⟩,(.list sz es),[],Zr ⟨t,ob⟩ d (.buildSlice T n ps.toArray)⟩]) QD):zB c ops (⟨some d,.buildSlice T n ps.toArray,ty,pos,af,g⟩::rest) ⟨t,ob⟩ tr QD:=
 zB.cons (f:=(.list sz es)) (wr:=[]) (d:=d) (Xl hd (by subst hn;obtain ⟨l1,l2,l3⟩:=hf.len;have dF:=hf.fill [] zd;have:=av.bI (c:=c) (s:=⟨t,ob⟩) (d:=d) (n:=ps.length) hT (by rw [he];exact TK.aD hk) ps.toArray es l1 (by rw [he];exact l2) l3 (by rw [he];exact yn hm) (yn ji) (by rw [he];simpa [ab.parts] using dF);rw [he] at this;exact this)) hw rfl rfl k
theorem sb {T:Nat} {kk:TK} (hT:(c.ty T).k=.slice e) (he:c.ty e=⟨kk,sz,c6,z⟩) (hk:kk.known=true) (hv:(⟨t,ob⟩:ab).ob d=⟨v0,lf0,E0,gf,ch⟩):av c ⟨t,ob⟩ d (.buildSlice T 0 #[]) (.own d (v0+1) 0 0) [(d,⟨v0+1,.own,e,sz,[]⟩)]:=(by have:=av.buildSlice (c:=c) (s:=⟨t,ob⟩) (d:=d) (n:=0) hT (by rw [he];exact TK.aD hk) #[] [] rfl zd zd zd zd (by simp [ab.parts,xG]);rw [Yc hv,he] at this;exact this)
theorem tK {T:Nat} {kk:TK} (hx:fM t x=some f) (h1:f.one=true) (hT:(c.ty T).k=.slice e) (he:c.ty e=⟨kk,1,c6,z⟩) (hk:kk.known=true) (hv:(⟨t,ob⟩:ab).ob d=⟨v0,lf0,E0,gf,ch⟩) (hd:Nat.blt d c.N=true) (hw:xk ops ⟨t,ob⟩ ⟨some d,.buildSlice T 1 #[(0,x)],ty,pos,af,g⟩ true) (k:zB c ops rest ⟨((d,(.own d (v0+1) 0 1))::t),((d,⟨v0+1,.own,e,1,[[f]]⟩)::ob)⟩ (tr++[⟨⟨some d,.buildSlice T 1 #[(0,x)],ty,pos,af,g⟩,(.own d (v0+1) 0 1),[(d,⟨v0+1,.own,e,1,[[f]]⟩)],Zr ⟨t,ob⟩ d (.buildSlice T 1 #[(0,x)])⟩]) QD):zB c ops (⟨some d,.buildSlice T 1 #[(0,x)],ty,pos,af,g⟩::rest) ⟨t,ob⟩ tr QD:=
 zB.cons (f:=(.own d (v0+1) 0 1)) (wr:=[(d,⟨v0+1,.own,e,1,[[f]]⟩)]) (d:=d) (Xl hd (by have hf:zY ⟨t,ob⟩ 1 0 [(0,x)] [[f]]:=zY.one (Xg hx) (ZE h1) h1 rfl .nil;obtain ⟨l1,l2,l3⟩:=hf.len;have dF:=hf.fill [] zd;have:=av.buildSlice (c:=c) (s:=⟨t,ob⟩) (d:=d) (n:=1) hT (by rw [he];exact TK.aD hk) #[(0,x)] [[f]] l1 (by rw [he];exact l2) l3 (by rw [he];exact by simp) zb (by rw [he];simpa [ab.parts] using dF);rw [Yc hv,he] at this;exact this)) hw rfl rfl k
theorem sM {T:Nat} {kk:TK} (hx:(⟨t,ob⟩:ab).ev x=(.agg cs)) (hT:(c.ty T).k=.slice e) (he:c.ty e=⟨kk,sz,c6,z⟩) (hk:kk.known=true) (h1:cs.all FV.one=true) (hl:cs.length=sz) (hm:Nat.ble (1 * sz) 16777216=true) (hv:(⟨t,ob⟩:ab).ob d=⟨v0,lf0,E0,gf,ch⟩) (hd:Nat.blt d c.N=true) (hw:xk ops ⟨t,ob⟩ ⟨some d,.buildSlice T 1 #[(0,x)],ty,pos,af,g⟩ true) (k:zB c ops rest ⟨((d,(.own d (v0+1) 0 1))::t),((d,⟨v0+1,.own,e,sz,[cs]⟩)::ob)⟩ (tr++[⟨⟨some d,.buildSlice T 1 #[(0,x)],ty,pos,af,g⟩,(.own d (v0+1) 0 1),[(d,⟨v0+1,.own,e,sz,[cs]⟩)],Zr ⟨t,ob⟩ d (.buildSlice T 1 #[(0,x)])⟩]) QD):zB c ops (⟨some d,.buildSlice T 1 #[(0,x)],ty,pos,af,g⟩::rest) ⟨t,ob⟩ tr QD:=
 zB.cons (f:=(.own d (v0+1) 0 1)) (wr:=[(d,⟨v0+1,.own,e,sz,[cs]⟩)]) (d:=d) (Xl hd (by have hf:zY ⟨t,ob⟩ sz 0 [(0,x)] [cs]:=zY.agg hx h1 hl .nil;obtain ⟨l1,l2,l3⟩:=hf.len;have dF:=hf.fill [] zd;have:=av.buildSlice (c:=c) (s:=⟨t,ob⟩) (d:=d) (n:=1) hT (by rw [he];exact TK.aD hk) #[(0,x)] [cs] l1 (by rw [he];exact l2) l3 (by rw [he];exact yn hm) zb (by rw [he];simpa [ab.parts] using dF);rw [Yc hv,he] at this;exact this)) hw rfl rfl k
theorem uX {T n:Nat} {m1 m2:Int} {k1 k2:IntKind} {kk:TK} (hx:(⟨t,ob⟩:ab).ev x=.int k1 m1) (ng:m1=(n:Int)) (hy:(⟨t,ob⟩:ab).ev y=.int k2 m2) (ji:m2=(n:Int)) (hT:(c.ty T).k=.slice e) (he:c.ty e=⟨kk,sz,c6,z⟩) (hk:kk.known=true) (hz:z.all FV.one=true) (hb:c6 * n≤281474976710656) (hn:n≤281474976710656) (hv:(⟨t,ob⟩:ab).ob d=⟨v0,lf0,E0,gf,ch⟩):av c ⟨t,ob⟩ d (.makeSlice T x y) (.own d (v0+1) 0 n) [(d,⟨v0+1,.own,e,sz,List.replicate n z⟩)]:=(by subst ng;subst ji;have:=av.makeSlice (c:=c) (s:=⟨t,ob⟩) (d:=d) (n:=n) hT (by rw [he];exact TK.aD hk) x y hx hy (by rw [he];exact hz) (by rw [he];exact hb) hn;rw [he,Yc hv] at this;exact this)
theorem sN {T u:Nat} {lo hi:Option Operand} (hx:(⟨t,ob⟩:ab).ev x=.list sz es) (hT:(c.ty T).k=.slice e) (hk:(c.ty e).k.known=true) (hz:(c.ty e).size=sz) (cS:jD ⟨t,ob⟩ lo l) (ct:jC ⟨t,ob⟩ hi es.length u) (h1:l≤u) (h2:u≤es.length):av c ⟨t,ob⟩ d (.slice T x lo hi none) (.list sz ((es.drop l).take (u - l))) []:=(.cC hT (TK.aD hk) x lo hi hx hz cS.ok ct.ok h1 h2)
theorem tL {fs:List FV} (hx:(⟨t,ob⟩:ab).ev x=.bG fs) (hf:fs[i]? = some f) (hh:f.hand=none) (hd:Nat.blt d c.N=true) (hw:xk ops ⟨t,ob⟩ ⟨some d,.extract x i,ty,pos,af,g⟩ true) (k:zB c ops rest ⟨((d,f)::t),ob⟩ (tr++[⟨⟨some d,.extract x i,ty,pos,af,g⟩,f,[],Zr ⟨t,ob⟩ d (.extract x i)⟩]) QD):zB c ops (⟨some d,.extract x i,ty,pos,af,g⟩::rest) ⟨t,ob⟩ tr QD:=
 zB.cons (Xl hd (.extract x hx hf hh)) hw rfl rfl k
theorem u7 {T id n:Nat} {kk:TK} (hx:(⟨t,ob⟩:ab).ev x=.own id aa 0 n) (hb:(⟨t,ob⟩:ab).ob id=⟨aa,.own,e,sz,es⟩) (hn:n=es.length) (hT:(c.ty T).k=.slice e) (he:c.ty e=⟨kk,sz,c6,z⟩) (hk:kk.known=true) (hp:0<sz) (hy:VS t ob y sz ay) (aE:(es.length+ay.length) * c6≤140737488355328) (hm:es.length+ay.length≤140737488355328) (hv:(⟨t,ob⟩:ab).ob d=⟨v0,lf0,E0,gf,ch⟩) (hd:Nat.blt d c.N=true) (hw:xk ops ⟨t,ob⟩ ⟨some d,.call { callee:=.builtin .append,args:=#[x,y],argTypes:=#[T,T] },ty,pos,af,g⟩ true) (k:zu c ops rest ⟨((d,(.own d (v0+1) 0 (es++ay).length))::t),((d,⟨v0+1,.own,e,sz,es++ay⟩)::(id,⟨aa,.dead,e,sz,es⟩)::ob)⟩ Q):zu c ops (⟨some d,.call { callee:=.builtin .append,args:=#[x,y],argTypes:=#[T,T] },ty,pos,af,g⟩::rest) ⟨t,ob⟩ Q:=
 zu.cons (Xl hd (pG hx hb hn hT he hk hp hy aE hm hv)) hw rfl k
theorem u2 {T id n:Nat} {kk:TK} (hx:(⟨t,ob⟩:ab).ev x=.own id aa 0 n) (hb:(⟨t,ob⟩:ab).ob id=⟨aa,.own,e,sz,es⟩) (hn:n=es.length) (hT:(c.ty T).k=.slice e) (he:c.ty e=⟨kk,sz,c6,z⟩) (hk:kk.known=true) (hp:0<sz) (hy:VS t ob y sz ay) (aE:(es.length+ay.length) * c6≤140737488355328) (hm:es.length+ay.length≤140737488355328) (hv:(⟨t,ob⟩:ab).ob d=⟨v0,lf0,E0,gf,ch⟩) (hd:Nat.blt d c.N=true) (hw:xk ops ⟨t,ob⟩ ⟨some d,.call { callee:=.builtin .append,args:=#[x,y],argTypes:=#[T,T] },ty,pos,af,g⟩ true) (k:zB c ops rest ⟨((d,(.own d (v0+1) 0 (es++ay).length))::t),((d,⟨v0+1,.own,e,sz,es++ay⟩)::(id,⟨aa,.dead,e,sz,es⟩)::ob)⟩ (tr++[⟨⟨some d,.call { callee:=.builtin .append,args:=#[x,y],argTypes:=#[T,T] },ty,pos,af,g⟩,(.own d (v0+1) 0 (es++ay).length),[(id,⟨aa,.dead,e,sz,es⟩),(d,⟨v0+1,.own,e,sz,es++ay⟩)],Zr ⟨t,ob⟩ d (.call { callee:=.builtin .append,args:=#[x,y],argTypes:=#[T,T] })⟩]) QD):zB c ops (⟨some d,.call { callee:=.builtin .append,args:=#[x,y],argTypes:=#[T,T] },ty,pos,af,g⟩::rest) ⟨t,ob⟩ tr QD:=
 zB.cons (Xl hd (pG hx hb hn hT he hk hp hy aE hm hv)) hw rfl rfl k
theorem sg {T:Nat} (hv:(⟨t,ob⟩:ab).ob d=⟨v0,lf0,E0,gf,ch⟩):av c ⟨t,ob⟩ d (.makeMap T none) (.omap d (v0+1)) [(d,⟨v0+1,.aX,T,0,[]⟩)]:=(by have:=av.makeMap (c:=c) (s:=⟨t,ob⟩) (d:=d) T;rw [Yc hv] at this;exact this)
theorem UL {T k e:Nat} {bb found:Bool} {x y:Operand} {kf vf:FV} {id aa E sz:Nat} {lf:yT} {es:List (List FV)} (K:Maps.Keyed c.P k) (e7:∀ row∈es,∀ kf,row.head? = some kf→ZV c.P k kf) (bZ:ZV c.P k kf) (jg:WE es kf (c.ty e).iR vf found) (hx:(⟨t,ob⟩:ab).ev x=.omap id aa) (hb:(⟨t,ob⟩:ab).ob id=⟨aa,lf,E,sz,es⟩) (hl:lf≠.dead∧lf≠.bB) (hy:(⟨t,ob⟩:ab).ev y=kf) (hT:(c.ty T).k=.map k e) (he:(c.ty e).k.aQ = some bb) (hn:vf.hand=none) (hd:Nat.blt d c.N=true) (hw:xk ops ⟨t,ob⟩ ⟨some d,.lookup T x y false,ty,pos,af,g⟩ true) (k:zu c ops rest ⟨((d,vf)::t),ob⟩ Q):zu c ops (⟨some d,.lookup T x y false,ty,pos,af,g⟩::rest) ⟨t,ob⟩ Q:=
 zu.cons (f:=vf) (wr:=[]) (d:=d) (Xl hd (by have:=av.look (c:=c) (s:=⟨t,ob⟩) (d:=d) hT he K x y false (.inl ⟨id,aa,hx,⟨yz hb hl.1,by rw [hb];exact hl.2⟩,by rw [hb]⟩) hy e7 bZ jg hn;simpa using this)) hw rfl k
theorem yN {T k e id aa E sz:Nat} {x y z:Operand} {kf vf:FV} {es aS : List (List FV)} (K:Maps.Keyed c.P k) (e7:∀ row∈es,∀ kf,row.head? = some kf→ZV c.P k kf) (bZ:ZV c.P k kf) (hs:lV es kf vf aS) (hx:(⟨t,ob⟩:ab).ev x=.omap id aa) (hb:(⟨t,ob⟩:ab).ob id=⟨aa,.aX,E,sz,es⟩) (hy:(⟨t,ob⟩:ab).ev y=kf) (hz:(⟨t,ob⟩:ab).ev z=vf) (hT:(c.ty T).k=.map k e) (hn:vf.hand=none) (hw:xk ops ⟨t,ob⟩ ⟨none,.mapUpdate T x y z,ty,pos,af,g⟩ true) (k:zu c ops rest ⟨t,((id,⟨aa,.aX,E,sz,aS⟩)::ob)⟩ Q):zu c ops (⟨none,.mapUpdate T x y z,ty,pos,af,g⟩::rest) ⟨t,ob⟩ Q:=
 zu.cons (f:=.undef) (wr:=[(id,⟨aa,.aX,E,sz,aS⟩)]) (d:=0) (vD (by have:=av.update (c:=c) (s:=⟨t,ob⟩) (d:=0) hT K x y z hx (by rw [hb]) (by rw [hb]) hy hz (by rw [hb];exact e7) bZ hn (aS:=aS) (by rw [hb];exact hs);rw [hb] at this;exact this)) hw rfl k
theorem zy {f:Nat} (hs:zQ c.P f gs .fr res) (hx:zh t ob .fr xs gs) (hd:Nat.blt d c.N=true) (hw:xk ops ⟨t,ob⟩ ⟨some d,.call { callee:=.value (.func f),args:=xs.toArray,argTypes:=ts },ty,pos,af,g⟩ true) (k:zu c ops rest ⟨((d,res)::t),ob⟩ Q):zu c ops (⟨some d,.call { callee:=.value (.func f),args:=xs.toArray,argTypes:=ts },ty,pos,af,g⟩::rest) ⟨t,ob⟩ Q:=
 zu.cons (Xl hd (.call hs (.inl rfl) (by simpa using hx.ok))) hw rfl k
theorem xT {f:Nat} (hs:zQ c.P f gs .fr res) (hx:zh t ob .fr xs gs) (hd:Nat.blt d c.N=true) (hw:xk ops ⟨t,ob⟩ ⟨some d,.call { callee:=.value (.func f),args:=xs.toArray,argTypes:=ts },ty,pos,af,g⟩ true) (k:zB c ops rest ⟨((d,res)::t),ob⟩ (tr++[⟨⟨some d,.call { callee:=.value (.func f),args:=xs.toArray,argTypes:=ts },ty,pos,af,g⟩,res,[],Zr ⟨t,ob⟩ d (.call { callee:=.value (.func f),args:=xs.toArray,argTypes:=ts })⟩]) QD):zB c ops (⟨some d,.call { callee:=.value (.func f),args:=xs.toArray,argTypes:=ts },ty,pos,af,g⟩::rest) ⟨t,ob⟩ tr QD:=
 zB.cons (Xl hd (.call hs (.inl rfl) (by simpa using hx.ok))) hw rfl rfl k
theorem YL {f:Nat} (hx:(⟨t,ob⟩:ab).ev x=.fn f aI) (hs:zQ c.P f (gs++aI) .fr res) (ha:zh t ob .fr xs gs) (hd:Nat.blt d c.N=true) (hw:xk ops ⟨t,ob⟩ ⟨some d,.call { callee:=.value x,args:=xs.toArray,argTypes:=ts },ty,pos,af,g⟩ true) (k:zu c ops rest ⟨((d,res)::t),ob⟩ Q):zu c ops (⟨some d,.call { callee:=.value x,args:=xs.toArray,argTypes:=ts },ty,pos,af,g⟩::rest) ⟨t,ob⟩ Q:=
 zu.cons (Xl hd (.eP hx hs (by simpa using ha.ok))) hw rfl k
theorem tZ {f:Nat} (hx:(⟨t,ob⟩:ab).ev x=.fn f aI) (hs:zQ c.P f (gs++aI) .fr res) (ha:zh t ob .fr xs gs) (hd:Nat.blt d c.N=true) (hw:xk ops ⟨t,ob⟩ ⟨some d,.call { callee:=.value x,args:=xs.toArray,argTypes:=ts },ty,pos,af,g⟩ true) (k:zB c ops rest ⟨((d,res)::t),ob⟩ (tr++[⟨⟨some d,.call { callee:=.value x,args:=xs.toArray,argTypes:=ts },ty,pos,af,g⟩,res,[],Zr ⟨t,ob⟩ d (.call { callee:=.value x,args:=xs.toArray,argTypes:=ts })⟩]) QD):zB c ops (⟨some d,.call { callee:=.value x,args:=xs.toArray,argTypes:=ts },ty,pos,af,g⟩::rest) ⟨t,ob⟩ tr QD:=
 zB.cons (Xl hd (.eP hx hs (by simpa using ha.ok))) hw rfl rfl k
theorem s6 {T T2:Nat} (hx:(⟨t,ob⟩:ab).ev x=.nil) (hy:(⟨t,ob⟩:ab).ev y=.nil) (hT:(c.ty T).k=.slice e):av c ⟨t,ob⟩ d (.binOp .eql T x y T2) (.bool true) []:=(.dC .eql hT x y hx .nil hy zd)
theorem s5 {T T2:Nat} (hx:(⟨t,ob⟩:ab).ev x=.list sz es) (hy:(⟨t,ob⟩:ab).ev y=.nil) (hT:(c.ty T).k=.slice e) (hn:es≠[]):av c ⟨t,ob⟩ d (.binOp .eql T x y T2) (.bool false) []:=(.dC .eql hT x y hx (.list sz es hn) hy zd)
theorem th {T T2:Nat} (hx:(⟨t,ob⟩:ab).ev x=.nil) (hy:(⟨t,ob⟩:ab).ev y=.nil) (hT:(c.ty T).k=.slice e):av c ⟨t,ob⟩ d (.binOp .neq T x y T2) (.bool false) []:=(.dC .neq hT x y hx .nil hy zd)
theorem td {T T2:Nat} (hx:(⟨t,ob⟩:ab).ev x=.list sz es) (hy:(⟨t,ob⟩:ab).ev y=.nil) (hT:(c.ty T).k=.slice e) (hn:es≠[]):av c ⟨t,ob⟩ d (.binOp .neq T x y T2) (.bool true) []:=(.dC .neq hT x y hx (.list sz es hn) hy zd)
theorem se {f:Nat} (hx:fM t x=some g1) (hh:g1.hand=none):av c ⟨t,ob⟩ d (.makeFunc (.func f) #[] #[x]) (.fn f [g1]) []:=(.dL (by simp [Xg hx]) (by simp [hh]))
theorem WQ {f:Nat} {g2:FV} (hx:fM t x=some g1) (hh:g1.hand=none) (hy:fM t y=some g2) (hi:g2.hand=none):av c ⟨t,ob⟩ d (.makeFunc (.func f) #[] #[x,y]) (.fn f [g1,g2]) []:=(.dL (by simp [Xg hx,Xg hy]) (by simp [hh,hi]))
theorem ZT {f:Nat} (hs:zQ c.P f gs .sh res) (hx:zh t ob .sh xs gs) (hd:Nat.blt d c.N=true) (hw:xk ops ⟨t,ob⟩ ⟨some d,.call { callee:=.value (.func f),args:=xs.toArray,argTypes:=ts },ty,pos,af,g⟩ true) (k:zu c ops rest ⟨((d,res)::t),ob⟩ Q):zu c ops (⟨some d,.call { callee:=.value (.func f),args:=xs.toArray,argTypes:=ts },ty,pos,af,g⟩::rest) ⟨t,ob⟩ Q:=
 zu.cons (Xl hd (.call hs (.inr rfl) (by simpa using hx.ok))) hw rfl k
theorem zF {f:Nat} (hs:zQ c.P f gs .sh res) (hx:zh t ob .sh xs gs) (hd:Nat.blt d c.N=true) (hw:xk ops ⟨t,ob⟩ ⟨some d,.call { callee:=.value (.func f),args:=xs.toArray,argTypes:=ts },ty,pos,af,g⟩ true) (k:zB c ops rest ⟨((d,res)::t),ob⟩ (tr++[⟨⟨some d,.call { callee:=.value (.func f),args:=xs.toArray,argTypes:=ts },ty,pos,af,g⟩,res,[],Zr ⟨t,ob⟩ d (.call { callee:=.value (.func f),args:=xs.toArray,argTypes:=ts })⟩]) QD):zB c ops (⟨some d,.call { callee:=.value (.func f),args:=xs.toArray,argTypes:=ts },ty,pos,af,g⟩::rest) ⟨t,ob⟩ tr QD:=
 zB.cons (Xl hd (.call hs (.inr rfl) (by simpa using hx.ok))) hw rfl rfl k
theorem VL {f n:Nat} (hs:zQ c.P f gs (.ow E sz) (.list sz es)) (hx:zh t ob (.ow E sz) xs gs) (hn:es.length=n) (hv:(⟨t,ob⟩:ab).ob d=⟨v0,lf0,E0,gf,ch⟩) (hd:Nat.blt d c.N=true) (hw:xk ops ⟨t,ob⟩ ⟨some d,.call { callee:=.value (.func f),args:=xs.toArray,argTypes:=ts },ty,pos,af,g⟩ true) (k:zu c ops rest ⟨((d,(.own d (v0+1) 0 n))::t),((d,⟨v0+1,.own,E,sz,es⟩)::ob)⟩ Q):zu c ops (⟨some d,.call { callee:=.value (.func f),args:=xs.toArray,argTypes:=ts },ty,pos,af,g⟩::rest) ⟨t,ob⟩ Q:=
 zu.cons (f:=(.own d (v0+1) 0 n)) (wr:=[(d,⟨v0+1,.own,E,sz,es⟩)]) (d:=d) (Xl hd (by subst hn;have:=av.eh (c:=c) (s:=⟨t,ob⟩) (d:=d) (ts:=ts) hs (xs:=xs.toArray) (by simpa using hx.ok);rw [Yc hv] at this;exact this)) hw rfl k
theorem pW {o:Oper} (ho:o.dst=some d) (hd:Nat.blt d c.N=true) (hw:xk ops ⟨t,ob⟩ o false) (k:zu c ops rest ⟨(d,.bG [])::t,ob⟩ Q):zu c ops (o::rest) ⟨t,ob⟩ Q:=
 zu.skip hw (fun d' e=>by rw [ho] at e;injection e with e;subst e;exact yn hd) (by rw [ho];rfl) k
theorem u4 {o:Oper} (ho:o.dst=some d) (hd:Nat.blt d c.N=true) (hw:xk ops ⟨t,ob⟩ o false) (k:zB c ops rest ⟨(d,.bG [])::t,ob⟩ (tr++[⟨o,.bG [],[],[]⟩]) QD):zB c ops (o::rest) ⟨t,ob⟩ tr QD:=
 zB.skip hw (fun d' e=>by rw [ho] at e;injection e with e;subst e;exact yn hd) (by rw [ho];rfl) k
theorem YK {T:Nat} (hT:c.ty T=⟨.au fs,sz,c6,z⟩) (hk:fs.all (fun p=>(c.ty p.2).k.known)=true) (hd:Nat.blt d c.N=true) (hw:xk ops ⟨t,ob⟩ (⟨some d,.build T ps.toArray,ty,pos,af,g⟩:Oper) true)
  (k:xn c ⟨t,ob⟩ fs ps z (fun cs=>zu c ops rest ⟨(d,.agg cs)::t,ob⟩ Q)):zu c ops ((⟨some d,.build T ps.toArray,ty,pos,af,g⟩:Oper)::rest) ⟨t,ob⟩ Q:=let ⟨_,h1,h2⟩:=k;vg hT hk h1 hd hw h2
theorem uM {T:Nat} (hT:c.ty T=⟨.au fs,sz,c6,z⟩) (hk:fs.all (fun p=>(c.ty p.2).k.known)=true) (hd:Nat.blt d c.N=true) (hw:xk ops ⟨t,ob⟩ (⟨some d,.build T ps.toArray,ty,pos,af,g⟩:Oper) true)
  (k:xn c ⟨t,ob⟩ fs ps z (fun cs=>zB c ops rest ⟨(d,.agg cs)::t,ob⟩ (tr++[⟨⟨some d,.build T ps.toArray,ty,pos,af,g⟩,.agg cs,[],Zr ⟨t,ob⟩ d (.build T ps.toArray)⟩]) QD)):zB c ops ((⟨some d,.build T ps.toArray,ty,pos,af,g⟩:Oper)::rest) ⟨t,ob⟩ tr QD:=let ⟨_,h1,h2⟩:=k;tY hT hk h1 hd hw h2
theorem UK (h:zu c ops ((⟨dst,.load T x,ty,pos,af,g⟩:Oper)::rest) s Q):zu c ops ((⟨dst,.load T x,ty,pos,af,g⟩:Oper)::rest) s Q:=h
theorem Wq (h:zB c ops ((⟨dst,.load T x,ty,pos,af,g⟩:Oper)::rest) s tr QD):zB c ops ((⟨dst,.load T x,ty,pos,af,g⟩:Oper)::rest) s tr QD:=h
theorem tR (h:zu c ops ((⟨dst,.store T x y,ty,pos,af,g⟩:Oper)::rest) s Q):zu c ops ((⟨dst,.store T x y,ty,pos,af,g⟩:Oper)::rest) s Q:=h
theorem kb (h:zB c ops ((⟨dst,.store T x y,ty,pos,af,g⟩:Oper)::rest) s tr QD):zB c ops ((⟨dst,.store T x y,ty,pos,af,g⟩:Oper)::rest) s tr QD:=h
theorem tP (h:zu c ops ((⟨dst,.fieldAddr T x i,ty,pos,af,g⟩:Oper)::rest) s Q):zu c ops ((⟨dst,.fieldAddr T x i,ty,pos,af,g⟩:Oper)::rest) s Q:=h
theorem YV (h:zB c ops ((⟨dst,.fieldAddr T x i,ty,pos,af,g⟩:Oper)::rest) s tr QD):zB c ops ((⟨dst,.fieldAddr T x i,ty,pos,af,g⟩:Oper)::rest) s tr QD:=h
theorem tQ (h:zu c ops ((⟨dst,.indexAddr T x y,ty,pos,af,g⟩:Oper)::rest) s Q):zu c ops ((⟨dst,.indexAddr T x y,ty,pos,af,g⟩:Oper)::rest) s Q:=h
theorem ka (h:zB c ops ((⟨dst,.indexAddr T x y,ty,pos,af,g⟩:Oper)::rest) s tr QD):zB c ops ((⟨dst,.indexAddr T x y,ty,pos,af,g⟩:Oper)::rest) s tr QD:=h
theorem Wt {z:Operand} (h:zu c ops ((⟨dst,.pick x y z,ty,pos,af,g⟩:Oper)::rest) s Q):zu c ops ((⟨dst,.pick x y z,ty,pos,af,g⟩:Oper)::rest) s Q:=h
theorem uO {z:Operand} (h:zB c ops ((⟨dst,.pick x y z,ty,pos,af,g⟩:Oper)::rest) s tr QD):zB c ops ((⟨dst,.pick x y z,ty,pos,af,g⟩:Oper)::rest) s tr QD:=h
theorem XJ {b:BinOp} (h:zu c ops ((⟨dst,.binOp b T x y T2,ty,pos,af,g⟩:Oper)::rest) s Q):zu c ops ((⟨dst,.binOp b T x y T2,ty,pos,af,g⟩:Oper)::rest) s Q:=h
theorem pO {b:BinOp} (h:zB c ops ((⟨dst,.binOp b T x y T2,ty,pos,af,g⟩:Oper)::rest) s tr QD):zB c ops ((⟨dst,.binOp b T x y T2,ty,pos,af,g⟩:Oper)::rest) s tr QD:=h
theorem mz  (h:zu c ops ((⟨dst,op,ty,pos,af,none⟩:Oper)::rest) s Q):zu c ops ((⟨dst,op,ty,pos,af,none⟩:Oper)::rest) s Q:=h
theorem qy  (h:zB c ops ((⟨dst,op,ty,pos,af,none⟩:Oper)::rest) s tr QD):zB c ops ((⟨dst,op,ty,pos,af,none⟩:Oper)::rest) s tr QD:=h
theorem qz (h:zu c ops ((⟨dst,op,ty,pos,af,some gg⟩:Oper)::rest) s Q):zu c ops ((⟨dst,op,ty,pos,af,some gg⟩:Oper)::rest) s Q:=h
theorem vw (h:zB c ops ((⟨dst,op,ty,pos,af,some gg⟩:Oper)::rest) s tr QD):zB c ops ((⟨dst,op,ty,pos,af,some gg⟩:Oper)::rest) s tr QD:=h
theorem yd (h1:b=true→zu c ops rest ⟨(d,.bool true)::t,ob⟩ Q) (h2:b=false→zu c ops rest ⟨(d,.bool false)::t,ob⟩ Q):zu c ops rest ⟨(d,.bool b)::t,ob⟩ Q:=by
 cases b
 ·exact h2 rfl
 ·exact h1 rfl
theorem nW {o:Oper} {ft:List Nat} (h1:b=true→zB c ops rest ⟨(d,.bool true)::t,ob⟩ (tr++[⟨o,.bool true,wr,ft⟩]) QD) (h2:b=false→zB c ops rest ⟨(d,.bool false)::t,ob⟩ (tr++[⟨o,.bool false,wr,ft⟩]) QD) :
  zB c ops rest ⟨(d,.bool b)::t,ob⟩ (tr++[⟨o,.bool b,wr,ft⟩]) QD:=by
 cases b
 ·exact h2 rfl
 ·exact h1 rfl
end
end Go.Proofs.YtedkppfghdipdaaGreatDoor
