/-
  The operations on states that are written out: one law each, for regions in the text's order (rn_) and for those that draw (rd_). (Printed by wip/fmm.py.)
-/
import Derived.Test.YtedkppfghdipdaaGreatDoorZBxxx
namespace Go.Proofs.YtedkppfghdipdaaGreatDoor
set_option linter.unusedVariables false
set_option maxHeartbeats 16000000
open Go.RowKit
variable {t:List (Nat×FV)} {ob wr:List (Nat×yo)} {E E0 cK e i j k l o off sz kd v0 aa:Nat} {lf lf0:xL} {es cy aA:List (List FV)} {aO cs gs z ze:List FV} {f g1 res:FV} {s:ab} {fs:List (Nat×Nat)} {ps:List (Nat×Operand)} {x y:Operand} {kk:IntKind} {m n:Int} {α:Type} {T T2:TypeId} {op:Op} {p:Nat×yo} {b:Bool} {xs:List Operand} {ts:Array TypeId} {dst:Option Nat} {gg:Nat×Bool}
theorem xg {id:Nat} (h:(⟨t,ob⟩:ab).ob id=⟨aa,lf,E,sz,es⟩) (hl:lf≠.dead):(⟨t,ob⟩:ab).live id aa:=by
 unfold ab.live;rw [h];exact ⟨hl,rfl⟩
theorem XP {d v:Nat} (h:(⟨t,ob⟩:ab).ob d=⟨v,lf,E,sz,es⟩):((⟨t,ob⟩:ab).ob d).aa+1=v+1:=by rw [h]
theorem Uj (h:cs[o]? = some f):o<cs.length∧(cs.drop o).headD .undef=f:=by
 obtain ⟨h1,h2⟩:=ye.1 h;refine ⟨h1,?_⟩;rw [List.drop_eq_getElem_cons h1,h2];rfl
theorem ZA (h:o<cs.length):ai cs o [f]=cs.set o f:=by
 unfold ai;rw [uQ,if_pos h];simp
def pP (cs:List FV) (o:Nat):List FV→List FV
 | [] => cs
 | f :: fs => pP (cs.set o f) (o+1) fs
theorem AN (cs:List FV) (o:Nat) (f:FV) (fs:List FV) (h:o<cs.length):ai (ai cs o [f]) (o+1) fs=ai cs o (f::fs):=by
 unfold ai;have h1:(List.take o cs++[f]++List.drop (o+1) cs).take (o+1)=List.take o cs++[f]:=by
  rw [WC zy,yO zy]
 have h2:(List.take o cs++[f]++List.drop (o+1) cs).drop (o+1+fs.length)=List.drop (o+1+fs.length) cs:=by
  rw [List.drop_append,List.drop_of_length_le zy,Wz,List.drop_drop];congr 1;simp;omega
 simp only [yZ,Ww,zM];rw [h1,h2];simp [YA,Nat.add_left_comm]
theorem VE:∀ (fs:List FV) (cs:List FV) (o:Nat),o+fs.length≤cs.length→fs≠[]→ai cs o fs=pP cs o fs
 | [], _, _, _, h => absurd rfl h
 | [f], cs, o, h, _ => by rw [ZA (by simp at h; omega)]; rfl
 | f :: g :: fs, cs, o, h, _ => by
  rw [← AN cs o f (g::fs) (by simp at h;omega),ZA (by simp at h;omega),VE (g::fs) _ _ (by simp at h ⊢;omega) zd];rfl
inductive VN (c:Ctx) (s:ab) (fs:List (Nat×Nat)):List FV→List (Nat×Operand)→List FV→Prop where
 | nil {cs:List FV}:VN c s fs cs [] cs
 | one {i off ft:Nat} {x:Operand} {f:FV} {ps:List (Nat × Operand)} {cs dG : List FV} (hx:s.ev x=f) (hi:fs[i]? = some (off, ft)) (ho:f.cells=[f]) (h1:f.one=true) (hs:(c.ty ft).size=1) (hl:Nat.blt off cs.length=true) (h:VN c s fs (cs.set off f) ps dG):VN c s fs cs ((i, x) :: ps) dG
 | agg {i off ft:Nat} {x:Operand} {gs:List FV} {ps:List (Nat × Operand)} {cs dG : List FV} (hx:s.ev x=.agg gs) (hi:fs[i]? = some (off, ft)) (h1:gs.all FV.one=true) (hs:gs.length=(c.ty ft).size) (hp:gs ≠ []) (hl:Nat.ble (off+gs.length) cs.length=true) (h:VN c s fs (pP cs off gs) ps dG):VN c s fs cs ((i, x) :: ps) dG
theorem YD {place:Nat→Option (Nat×Nat)} {size:Nat} {rest:List (Nat×FV)} (hp:place i=some (off,size)) (h1:f.cells.all FV.one=true) (h2:f.cells.length=size) (h3:off+size≤cs.length) :
  Zg place cs ((i,f)::rest)=Zg place (ai cs off f.cells) rest:=by
 rw [Zg,hp];exact if_pos ⟨h1,h2,h3⟩
theorem VN.get {c:Ctx} {dG : List FV} (h:VN c s fs cs ps dG) :
  Zg (fun i=>(fs[i]?).map fun p=>(p.1,(c.ty p.2).size)) cs (s.parts ps.toArray)=some dG:=by
 unfold ab.parts;simp only [List.toList_toArray]
 induction h with
 | nil => rfl
 | one hx hi ho h1 hs hl h ih =>
  have bw:=yt hl;rw [yn,hx,YD (off:=_) (size:=_) (by rw [hi];rfl) (by rw [ho];simpa using h1) (by rw [ho];exact hs.symm) (by dsimp only;omega),ho,ZA bw];exact ih
 | @agg i off ft x gs ps cs dG hx hi h1 hs hp hl h ih =>
  have bw:=yt hl;rw [yn,hx,YD (f:=.agg gs) (off:=off) (size:=(c.ty ft).size) (by rw [hi];rfl) h1 hs (by rw [← hs];exact bw)];rw [show (FV.agg gs).cells=gs from rfl,VE gs cs off bw hp];exact ih
def oR {α:Type} (d:α):List (Nat×α)→Nat→Option α
 | [], _ => some d
 | (i, a) :: l, k => bif Nat.beq i k then some a else oR d l k
theorem uV {α:Type} (d:α) (k:Nat):∀ l:List (Nat×α),oR d l k=some (look d l k)
 | [] => rfl
 | (i, a) :: l => by
  unfold oR look;rw [uV d k l];cases Nat.beq i k <;> rfl
def pL (v:Value):Option FV:=
 match v with
 | .int k n => some (.int k n)
 | .bool b => some (.bool b)
 | v => some (fc v)
theorem Dk (v:Value):pL v=some (fc v):=by unfold pL;split <;> rfl
def iV (t:List (Nat×FV)):Operand→Option FV
 | .tmp i => oR .undef t i
 | .const v => pL v
 | .func f => some (.fn f [])
 | _ => some .undef
theorem Vc (h:iV t x=some f):(⟨t,ob⟩:ab).ev x=f:=by
 cases x with
 | tmp i => have h' : oR .undef t i=some f := h; rw [uV] at h'; injection h'
 | const v => have h' : pL v=some f := h; rw [Dk] at h'; injection h'
 | _ => injection h
theorem XG (h:f.one=true):f.cells=[f]:=by
 cases f <;> first|rfl|(simp [FV.one] at h)
inductive yb (s:ab) (sz:Nat):Nat→List (Nat×Operand)→List (List FV)→Prop where
 | nil {k:Nat}:yb s sz k [] []
 | one {k:Nat} {x:Operand} {f:FV} {ps:List (Nat × Operand)} {es:List (List FV)} (hx:s.ev x=f) (hc:f.cells=[f]) (h1:f.one=true) (hs:sz=1) (h:yb s sz (k+1) ps es):yb s sz k ((k, x) :: ps) ([f] :: es)
 | agg {k:Nat} {x:Operand} {gs:List FV} {ps:List (Nat × Operand)} {es:List (List FV)} (hx:s.ev x=.agg gs) (h1:gs.all FV.one=true) (hs:gs.length=sz) (h:yb s sz (k+1) ps es):yb s sz k ((k, x) :: ps) (gs :: es)
theorem yb.int (hx:s.ev x=.int kk n) (hs:sz=1) (h:yb s sz (k+1) ps es):yb s sz k ((k,x)::ps) ([.int kk n]::es):=.one hx rfl rfl hs h
theorem yb.len (h:yb s sz k ps es):es.length=ps.length∧(∀ e∈es,e.length=sz)∧(∀ f∈es.flatten,f.one=true):=by
 have key:∀ (e:List FV) (es:List (List FV)) (q:Nat×Operand) (ps:List (Nat×Operand)),e.length=sz→(∀ f∈e,f.one=true)→(es.length=ps.length∧(∀ e∈es,e.length=sz)∧(∀ f∈es.flatten,f.one=true))→
   ((e::es).length=(q::ps).length∧(∀ e'∈e::es,e'.length=sz)∧(∀ f∈(e::es).flatten,f.one=true)):=by
  intro e es q ps h1 h2 h3;refine ⟨by simp [h3.1],fun e' he=>?_,fun f hf=>?_⟩
  ·rcases zZ.1 he with e1|e1
   ·rw [e1];exact h1
   ·exact h3.2.1 _ e1
  ·rw [yM] at hf;rcases zO.1 hf with e1|e1
   ·exact h2 f e1
   ·exact h3.2.2 _ e1
 induction h with
 | nil => exact ⟨rfl, by simp, by simp⟩
 | one hx hc h1 hs h ih => exact key [_] _ (_, _) _ (by rw [hs]; rfl) (by simpa using h1) ih
 | agg hx h1 hs h ih => exact key _ _ (_, _) _ hs (fun f hf => zI.1 h1 f hf) ih
theorem UD (pre rq post ds:List α) (h:rq.length=ds.length):ai (pre++(rq++post)) pre.length ds=pre++(ds++post):=by
 unfold ai;rw [List.take_left,← h,← zE pre rq post,← zH,List.drop_left,zE]
theorem yb.fill (h:yb s sz k ps es):∀ (pre:List FV),pre.length=k * sz→
  Zg (fun i=>some (i * sz,sz)) (pre++List.replicate (ps.length * sz) .undef) (ps.map fun p=>(p.1,s.ev p.2))=some (pre++es.flatten):=by
 induction h with
 | nil => intro pre _; simp [Zg]
 | @one k x f ps es hx hc h1 hs h ih=>
  intro pre hp;have e1:List.replicate ((((k,x)::ps:List (Nat×Operand))).length * sz) FV.undef=List.replicate sz .undef++List.replicate (ps.length * sz) .undef:=by
   rw [yZ,zJ,Xg,YA,uP]
  have e2:(pre++List.replicate ((((k,x)::ps:List (Nat×Operand))).length * sz) FV.undef).length=k * sz+(ps.length+1) * sz:=by simp [hp]
  rw [yn,hx,YD (place:=fun i=>some (i * sz,sz)) (off:=k * sz) (size:=sz) rfl (by rw [hc];simpa using h1) (by rw [hc,hs];rfl) (by rw [e2,zJ];omega),hc,e1,← hp,UD _ _ _ _ (by simp [hs]),← zE,ih (pre++[f]) (by simp [hp,zJ,hs])];simp
 | @agg k x gs ps es hx h1 hs h ih=>
  intro pre hp;have e1:List.replicate ((((k,x)::ps:List (Nat×Operand))).length * sz) FV.undef=List.replicate sz .undef++List.replicate (ps.length * sz) .undef:=by
   rw [yZ,zJ,Xg,YA,uP]
  have e2:(pre++List.replicate ((((k,x)::ps:List (Nat×Operand))).length * sz) FV.undef).length=k * sz+(ps.length+1) * sz:=by simp [hp]
  rw [yn,hx,YD (f:=.agg gs) (place:=fun i=>some (i * sz,sz)) (off:=k * sz) (size:=sz) rfl h1 hs (by rw [e2,zJ];omega),e1,← hp];rw [show (FV.agg gs).cells=gs from rfl,UD _ _ _ _ (by simp [hs]),← zE,ih (pre++gs) (by simp [hp,zJ,hs])];simp
def ZC (c:Ctx) (s:ab) (fs:List (Nat×Nat)) (ps:List (Nat×Operand)) (cs:List FV) (K:List FV→Prop):Prop:=∃ dG,VN c s fs cs ps dG∧K dG
theorem ZC.nil {c:Ctx} {s:ab} {fs:List (Nat×Nat)} {cs:List FV} {K:List FV→Prop} (h:K cs):ZC c s fs [] cs K:=⟨cs,.nil,h⟩
theorem ZC.one {c:Ctx} {t:List (Nat×FV)} {ob:List (Nat×yo)} {fs:List (Nat×Nat)} {i off ft:Nat} {x:Operand} {ps:List (Nat×Operand)} {cs:List FV} {K:List FV→Prop} {f:FV} (hx:iV t x=some f) (h1:f.one=true) (hi:fs[i]? = some (off,ft)) (hs:(c.ty ft).size=1) (hl:Nat.blt off cs.length=true) (h:ZC c ⟨t,ob⟩ fs ps (cs.set off f) K):ZC c ⟨t,ob⟩ fs ((i,x)::ps) cs K:=
 let ⟨dG,q1,q2⟩:=h;⟨dG,.one (Vc hx) hi (XG h1) h1 hs hl q1,q2⟩
theorem ZC.agg {c:Ctx} {s:ab} {fs:List (Nat×Nat)} {i off ft:Nat} {x:Operand} {gs:List FV} {ps:List (Nat×Operand)} {cs:List FV} {K:List FV→Prop} (hx:s.ev x=.agg gs) (hi:fs[i]? = some (off,ft)) (h1:gs.all FV.one=true) (hs:gs.length=(c.ty ft).size) (hp:gs≠[]) (hl:Nat.ble (off+gs.length) cs.length=true) (h:ZC c s fs ps (pP cs off gs) K):ZC c s fs ((i,x)::ps) cs K:=
 let ⟨dG,q1,q2⟩:=h;⟨dG,.agg hx hi h1 hs hp hl q1,q2⟩
def TK.known:TK→Bool
 | .other => false
 | _ => true
theorem TK.aN {k:TK} (h:k.known=true):k≠.other:=by rintro rfl;cases h
inductive fH (t:List (Nat×FV)) (ob:List (Nat×yo)) (m:fI):Operand→FV→Prop where
 | plain {x:Operand} {f:FV} (h:(⟨t, ob⟩:ab).ev x=f) (hn:f.hand=none):fH t ob m x f
 | nil {x:Operand} {sz:Nat} (h:(⟨t, ob⟩:ab).ev x=.nil):fH t ob m x (.list sz [])
 | sub {x:Operand} {f g:FV} (h:(⟨t, ob⟩:ab).ev x=f) (hn:f.hand=none) (hle:FV.le f g):fH t ob m x g
 | own {x:Operand} {id aa n E sz:Nat} {es:List (List FV)} {lf:xL} (h:(⟨t, ob⟩:ab).ev x=(.own id aa 0 n)) (hb:(⟨t, ob⟩:ab).ob id=⟨aa, lf, E, sz, es⟩) (hl:lf.row=true) (hm:m=.sh → lf=.shut) (hn:n=es.length):fH t ob m x (.list sz es)
 | part {x:Operand} {id aa o n E sz:Nat} {es:List (List FV)} {lf:xL} (h:(⟨t, ob⟩:ab).ev x=(.own id aa o n)) (hb:(⟨t, ob⟩:ab).ob id=⟨aa, lf, E, sz, es⟩) (hl:lf.row=true) (hm:m=.sh → lf=.shut):fH t ob m x (.list sz ((es.drop o).take n))
theorem fH.ok {m:fI}:∀ {x:Operand} {g:FV},fH t ob m x g→Wj ⟨t,ob⟩ m ((⟨t,ob⟩:ab).ev x) g
 | _, _, .plain h hn => by rw [h]; exact .plain _ hn
 | _, _, .sub h hn hle => by rw [h]; exact .sub _ _ hn hle
 | _, _, .nil h => by rw [h]; exact .nil _
 | _, _, .own (id := id) (aa := aa) (n := n) (es := es) h hb hl hm hn => by
  rw [h];have:=Wj.own (s:=⟨t,ob⟩) (m:=m) id aa 0 n (xg hb (xL.dS hl)) (by rw [hb];exact hl) (by rw [hb];exact hm);rw [hb] at this;simpa [hn] using this
 | _, _, .part (id := id) (aa := aa) (o := o) (n := n) h hb hl hm => by
  rw [h];have:=Wj.own (s:=⟨t,ob⟩) (m:=m) id aa o n (xg hb (xL.dS hl)) (by rw [hb];exact hl) (by rw [hb];exact hm);rw [hb] at this;exact this
inductive zi (t:List (Nat×FV)) (ob:List (Nat×yo)) (m:fI):List Operand→List FV→Prop where
 | nil:zi t ob m [] []
 | cons {x:Operand} {xs:List Operand} {g:FV} {gs:List FV} (h:fH t ob m x g) (hs:zi t ob m xs gs):zi t ob m (x :: xs) (g :: gs)
theorem zi.ok {m:fI}:∀ {xs:List Operand} {gs:List FV},zi t ob m xs gs→Zq ⟨t,ob⟩ m xs gs
 | _, _, .nil => .nil
 | _, _, .cons h hs => .cons h.ok hs.ok
inductive iY (t:List (Nat×FV)) (ob:List (Nat×yo)):Operand→Nat→List (List FV)→Prop where
 | nil {x:Operand} {sz:Nat} (h:(⟨t, ob⟩:ab).ev x=.nil):iY t ob x sz []
 | list {x:Operand} {sz:Nat} {es:List (List FV)} (h:(⟨t, ob⟩:ab).ev x=(.list sz es)):iY t ob x sz es
 | own {x:Operand} {id aa n E sz:Nat} {es:List (List FV)} {lf:xL} (h:(⟨t, ob⟩:ab).ev x=(.own id aa 0 n)) (hb:(⟨t, ob⟩:ab).ob id=⟨aa, lf, E, sz, es⟩) (hl:lf.row=true) (hn:n=es.length):iY t ob x sz es
 | part {x:Operand} {id aa o n E sz:Nat} {es:List (List FV)} {lf:xL} (h:(⟨t, ob⟩:ab).ev x=(.own id aa o n)) (hb:(⟨t, ob⟩:ab).ob id=⟨aa, lf, E, sz, es⟩) (hl:lf.row=true):iY t ob x sz ((es.drop o).take n)
theorem iY.ok:∀ {x:Operand} {sz:Nat} {es:List (List FV)},iY t ob x sz es→Src ⟨t,ob⟩ ((⟨t,ob⟩:ab).ev x) sz es
 | _, _, _, .nil h => by rw [h]; exact .nil _
 | _, _, _, .list h => by rw [h]; exact .list _ _
 | _, _, _, .own (id := id) (aa := aa) (n := n) h hb hl hn => by
  rw [h];have:=Src.own (s:=⟨t,ob⟩) id aa 0 n (xg hb (xL.dS hl)) (by rw [hb];exact hl);rw [hb] at this;simpa [hn] using this
 | _, _, _, .part (id := id) (aa := aa) (o := o) (n := n) h hb hl => by
  rw [h];have:=Src.own (s:=⟨t,ob⟩) id aa o n (xg hb (xL.dS hl)) (by rw [hb];exact hl);rw [hb] at this;exact this
inductive lQ (s:ab):Option Operand→Nat→Prop where
 | none:lQ s none 0
 | some {y:Operand} {k:IntKind} {l:Nat} (h:s.ev y=.int k (l:Nat)):lQ s (some y) l
 | lit {y:Operand} {k:IntKind} {n:Int} {l:Nat} (h:s.ev y=.int k n) (e:n=(l:Nat)):lQ s (some y) l
inductive lO (s:ab):Option Operand→Nat→Nat→Prop where
 | none {m:Nat}:lO s none m m
 | some {y:Operand} {k:IntKind} {m l:Nat} (h:s.ev y=.int k (l:Nat)):lO s (some y) m l
 | lit {y:Operand} {k:IntKind} {n:Int} {m l:Nat} (h:s.ev y=.int k n) (e:n=(l:Nat)):lO s (some y) m l
theorem lQ.ok {x:Option Operand} (h:lQ s x l):s.lo x l:=by
 cases h with
 | none => exact rfl
 | some h => exact ⟨_, h⟩
 | lit h e => subst e; exact ⟨_, h⟩
theorem lO.ok {x:Option Operand} {m:Nat} (h:lO s x m l):s.hi x m l:=by
 cases h with
 | none => exact rfl
 | some h => exact ⟨_, h⟩
 | lit h e => subst e; exact ⟨_, h⟩
theorem yh [Inhabited α] {fv:α→List FV} {l:List α} (h:j<l.length):(l.map fv).getD j []=fv (nth l j):=by
 rw [yC,xy,xP h,yq h];rfl
theorem C3 {fs:List FV} (h:cs.length=fs.length):ai cs 0 fs=fs:=by
 unfold ai;rw [List.take_zero,Wz,zM,List.drop_of_length_le za,Yu]
section
variable {c:Ctx} {t:List (Nat×FV)} {ob:List (Nat×yo)} {d:Nat}
theorem B5 {T:Nat} {kk:TK} (hx:(⟨t,ob⟩:ab).ev x=(.aK sz es j 0)) (hT:c.ty T=⟨kk,sz,cK,ze⟩) (hk:kk.aW = some true) (hp:0<sz) (hj:j<es.length) (bj:es.getD j []=cs) (hl:cs.length=sz):ax c ⟨t,ob⟩ d (.load T x) (.agg cs) []:=by
 have kp : (c.ty T).k.aW = some true:=by rw [hT];exact hk
 have:=ax.cJ (c:=c) (s:=⟨t,ob⟩) (d:=d) kp x hx hj (by rw [hT];simp) hp;rw [bj] at this;unfold Zn at this;rw [kp] at this;dsimp only at this;rwa [hT,Wu,yO (by rw [hl];exact zf _)] at this
theorem B6 {T:Nat} {id:Nat} {kk:TK} (hx:(⟨t,ob⟩:ab).ev x=(.ptr id aa j 0)) (hT:c.ty T=⟨kk,sz,cK,ze⟩) (hk:kk.aW = some true) (hp:0<sz) (hb:(⟨t,ob⟩:ab).ob id=⟨aa,lf,E,sz,es⟩) (bt:lf.row=true) (hj:j<es.length) (bj:es.getD j []=cs) (hl:cs.length=sz) :
  ax c ⟨t,ob⟩ d (.load T x) (.agg cs) []:=by
 have kp : (c.ty T).k.aW = some true:=by rw [hT];exact hk
 have:=ax.dD (c:=c) (s:=⟨t,ob⟩) (d:=d) kp x hx (xg hb (xL.dS bt)) (by rw [hb];exact bt) (by rw [hb];exact hj) (by rw [hb,hT];simp) (by rw [hb];exact hp);rw [hb] at this;dsimp only at this;rw [bj] at this;unfold Zn at this;rw [kp] at this;dsimp only at this;rwa [hT,Wu,yO (by rw [hl];exact zf _)] at this
theorem B8 {T:Nat} {id:Nat} (hx:(⟨t,ob⟩:ab).ev x=(.ptr id aa 0 o)) (hy:(⟨t,ob⟩:ab).ev y=f) (h1:f.one=true) (hk:(c.ty T).k.known=true) (hz:(c.ty T).size=1) (hb:(⟨t,ob⟩:ab).ob id=⟨aa,.own,E,sz,[cs]⟩) (cO:cs.length=sz) (ho:Nat.blt o sz=true) :
  ax c ⟨t,ob⟩ 0 (.store T x y) .undef [(id,⟨aa,.own,E,sz,[cs.set o f]⟩)]:=by
 have bX:=yt ho;have hc:=XG h1;have:=ax.store (c:=c) (s:=⟨t,ob⟩) (d:=0) (TK.aN hk) x y hx (by rw [hb]) (by rw [hb]) hy (by rw [hc];simp [h1]) (by rw [hz,hc];rfl) (by rw [hb];exact Nat.zero_lt_one) (by rw [hb];dsimp only;omega);rw [hb] at this;have e:=ZA (f:=f) (show o<cs.length by omega);simpa [hc,e] using this
theorem B7 {T:Nat} {id:Nat} (hx:(⟨t,ob⟩:ab).ev x=(.ptr id aa j o)) (hy:(⟨t,ob⟩:ab).ev y=f) (h1:f.one=true) (hk:(c.ty T).k.known=true) (hz:(c.ty T).size=1) (hb:(⟨t,ob⟩:ab).ob id=⟨aa,.own,E,sz,es⟩) (hj:j<es.length) (bj:es.getD j []=cs) (cO:cs.length=sz) (ho:Nat.blt o sz=true) :
  ax c ⟨t,ob⟩ 0 (.store T x y) .undef [(id,⟨aa,.own,E,sz,es.set j (cs.set o f)⟩)]:=by
 have bX:=yt ho;have hc:=XG h1;have:=ax.store (c:=c) (s:=⟨t,ob⟩) (d:=0) (TK.aN hk) x y hx (by rw [hb]) (by rw [hb]) hy (by rw [hc];simp [h1]) (by rw [hz,hc];rfl) (by rw [hb];exact hj) (by rw [hb];dsimp only;omega);rw [hb] at this;have e:=ZA (f:=f) (show o<cs.length by omega);rw [hc] at this;dsimp only at this;rw [bj,e] at this;exact this
theorem Dp {T d:Nat} (hx:(⟨t,ob⟩:ab).ev x=f) (h1:f.one=true) (hv:(⟨t,ob⟩:ab).ob d=⟨v0,lf0,E0,kd,cy⟩):ax c ⟨t,ob⟩ d (.box T x) (.ptr d (v0+1) 0 0) [(d,⟨v0+1,.own,T,1,[[f]]⟩)]:=by
 have hc:=XG h1;have:=ax.box (c:=c) (s:=⟨t,ob⟩) (d:=d) (T:=T) x hx (by rw [hc];simp [h1]);rw [XP hv,hc] at this;exact this
theorem Bt {T:Nat} {id:Nat} {fs:List FV} (hx:(⟨t,ob⟩:ab).ev x=(.ptr id aa 0 0)) (hy:(⟨t,ob⟩:ab).ev y=(.agg fs)) (h1:fs.all FV.one=true) (hk:(c.ty T).k.known=true) (hz:(c.ty T).size=sz) (hb:(⟨t,ob⟩:ab).ob id=⟨aa,.own,E,sz,[cs]⟩) (hl:cs.length=sz) (cz:fs.length=sz) :
  ax c ⟨t,ob⟩ 0 (.store T x y) .undef [(id,⟨aa,.own,E,sz,[fs]⟩)]:=by
 have:=ax.store (c:=c) (s:=⟨t,ob⟩) (d:=0) (TK.aN hk) x y hx (by rw [hb]) (by rw [hb]) hy h1 (by rw [hz];exact cz) (by rw [hb];exact Nat.zero_lt_one) (by rw [hb,hz];simp);rw [hb] at this;simpa [FV.cells,C3 (hl.trans cz.symm)] using this
theorem Dn {T id n:Nat} {kk:TK} (hx:(⟨t,ob⟩:ab).ev x=(.own id aa 0 n)) (hb:(⟨t,ob⟩:ab).ob id=⟨aa,.own,e,sz,es⟩) (hn:n=es.length) (hT:(c.ty T).k=.slice e) (he:c.ty e=⟨kk,sz,cK,z⟩) (hk:kk.known=true) (hp:0<sz) (hy:iY t ob y sz aA)
  (aP:(es.length+aA.length) * cK≤140737488355328) (hm:es.length+aA.length≤140737488355328) (hv:(⟨t,ob⟩:ab).ob d=⟨v0,lf0,E0,kd,cy⟩) :
  ax c ⟨t,ob⟩ d (.call { callee:=.builtin .append,args:=#[x,y],argTypes:=#[T,T] }) (.own d (v0+1) 0 (es++aA).length) [(id,⟨aa,.dead,e,sz,es⟩),(d,⟨v0+1,.own,e,sz,es++aA⟩)]:=by
 have qi:jc ⟨t,ob⟩ (.own id aa 0 n) sz es (some id):=by
  have:=jc.own (s:=⟨t,ob⟩) id aa (by rw [hb]) (by rw [hb]) n (by rw [hb];exact hn);rw [hb] at this;exact this
 have:=ax.append (c:=c) (s:=⟨t,ob⟩) (d:=d) (i:=some id) hT (by rw [he];exact TK.aN hk) (by rw [he];exact hp) x y hx rfl (by rw [he];exact qi) (fun k h=>by injection h with h;subst h;rw [hb]) (by rw [he];exact hy.ok) (by rw [he];exact aP) hm;rw [he] at this;simpa [ZE,XP hv,hb] using this
end
section
variable {c:Ctx} {ops:Array Oper} {rest:List Oper} {t:List (Nat×FV)} {ob:List (Nat×yo)} {d:Nat} {ty:TypeId} {pos:String} {af:Array Edge} {g:Option (Nat×Bool)} {Q:ab→Prop} {QD:ab→List Rec→Prop} {tr:List Rec}
theorem WQ (hd:Nat.blt d c.N=true) (h:ax c s d op f wr):nv c s ⟨some d,op,ty,pos,af,g⟩ f wr d:=
 ⟨.inl rfl,(fun _ e=>by injection e with e;subst e;exact yt hd),h⟩
theorem vJ (h:ax c s d (.store T x y) f wr):nv c s ⟨none,.store T x y,ty,pos,af,g⟩ f wr d:=
 ⟨.inr ⟨rfl,.inl ⟨_,_,_,rfl⟩⟩,(fun _ e=>by cases e),h⟩
theorem Em {z:Operand} (h:ax c s d (.mapUpdate T x y z) f wr):nv c s ⟨none,.mapUpdate T x y z,ty,pos,af,g⟩ f wr d:=
 ⟨.inr ⟨rfl,.inr ⟨_,_,_,_,rfl⟩⟩,(fun _ e=>by cases e),h⟩
theorem zx.fR (h:ax c ⟨t,ob⟩ 0 (.store T x y) .undef [p]) (hw:Zf ops ⟨t,ob⟩ ⟨none,.store T x y,ty,pos,af,g⟩ true) (k:zx c ops rest ⟨t,p::ob⟩ Q):zx c ops (⟨none,.store T x y,ty,pos,af,g⟩::rest) ⟨t,ob⟩ Q:=zx.cons (f:=.undef) (wr:=[p]) (d:=0) (vJ h) hw rfl k
theorem zx.aq (h:ax c ⟨t,ob⟩ d op f []) (hd:Nat.blt d c.N=true) (hw:Zf ops ⟨t,ob⟩ ⟨some d,op,ty,pos,af,g⟩ true) (k:zx c ops rest ⟨(d,f)::t,ob⟩ Q):zx c ops (⟨some d,op,ty,pos,af,g⟩::rest) ⟨t,ob⟩ Q:=zx.cons (f:=f) (wr:=[]) (d:=d) (WQ hd h) hw rfl k
theorem zx.cC (h:ax c ⟨t,ob⟩ d op f [p]) (hd:Nat.blt d c.N=true) (hw:Zf ops ⟨t,ob⟩ ⟨some d,op,ty,pos,af,g⟩ true) (k:zx c ops rest ⟨(d,f)::t,p::ob⟩ Q):zx c ops (⟨some d,op,ty,pos,af,g⟩::rest) ⟨t,ob⟩ Q:=zx.cons (f:=f) (wr:=[p]) (d:=d) (WQ hd h) hw rfl k
theorem zG.fR (h:ax c ⟨t,ob⟩ 0 (.store T x y) .undef [p]) (hw:Zf ops ⟨t,ob⟩ ⟨none,.store T x y,ty,pos,af,g⟩ true) (k:zG c ops rest ⟨t,p::ob⟩ (tr++[⟨⟨none,.store T x y,ty,pos,af,g⟩,.undef,[p],Xe ⟨t,ob⟩ 0 (.store T x y)⟩]) QD):zG c ops (⟨none,.store T x y,ty,pos,af,g⟩::rest) ⟨t,ob⟩ tr QD:=zG.cons (f:=.undef) (wr:=[p]) (d:=0) (vJ h) hw rfl rfl k
theorem zG.aq (h:ax c ⟨t,ob⟩ d op f []) (hd:Nat.blt d c.N=true) (hw:Zf ops ⟨t,ob⟩ ⟨some d,op,ty,pos,af,g⟩ true) (k:zG c ops rest ⟨(d,f)::t,ob⟩ (tr++[⟨⟨some d,op,ty,pos,af,g⟩,f,[],Xe ⟨t,ob⟩ d op⟩]) QD):zG c ops (⟨some d,op,ty,pos,af,g⟩::rest) ⟨t,ob⟩ tr QD:=zG.cons (f:=f) (wr:=[]) (d:=d) (WQ hd h) hw rfl rfl k
theorem zG.cC (h:ax c ⟨t,ob⟩ d op f [p]) (hd:Nat.blt d c.N=true) (hw:Zf ops ⟨t,ob⟩ ⟨some d,op,ty,pos,af,g⟩ true) (k:zG c ops rest ⟨(d,f)::t,p::ob⟩ (tr++[⟨⟨some d,op,ty,pos,af,g⟩,f,[p],Xe ⟨t,ob⟩ d op⟩]) QD):zG c ops (⟨some d,op,ty,pos,af,g⟩::rest) ⟨t,ob⟩ tr QD:=zG.cons (f:=f) (wr:=[p]) (d:=d) (WQ hd h) hw rfl rfl k
theorem ZO (hx:iV t x=some f):ax c ⟨t,ob⟩ d (.move x) f []:=(by have:=ax.move (c:=c) (s:=⟨t,ob⟩) (d:=d) x;rwa [Vc hx] at this)
theorem Za (hx:iV t x=some f):ax c ⟨t,ob⟩ d (.assign x) f []:=(by have:=ax.assign (c:=c) (s:=⟨t,ob⟩) (d:=d) x;rwa [Vc hx] at this)
theorem WI {q:Operand} (hq:(⟨t,ob⟩:ab).ev q=(.bool true)) (hx:iV t x=some f):ax c ⟨t,ob⟩ d (.pick q x y) f []:=(by have:=ax.pick (c:=c) (s:=⟨t,ob⟩) (d:=d) q x y hq;rw [if_pos rfl,Vc hx] at this;exact this)
theorem WH {q:Operand} (hq:(⟨t,ob⟩:ab).ev q=(.bool false)) (hx:iV t y=some f):ax c ⟨t,ob⟩ d (.pick q x y) f []:=(by have:=ax.pick (c:=c) (s:=⟨t,ob⟩) (d:=d) q x y hq;rw [if_neg zc,Vc hx] at this;exact this)
theorem En (hx:(⟨t,ob⟩:ab).ev x=.int .i64 m) (hy:(⟨t,ob⟩:ab).ev y=.int .i64 n) (hr:-9223372036854775808≤m+n∧m+n≤9223372036854775807):ax c ⟨t,ob⟩ d (.binOp .add T x y T2) (.int .i64 (m+n)) []:=(.cr .add T T2 x y hx hy (by simp only [cr];rw [u9 _ hr]))
theorem vq (hx:(⟨t,ob⟩:ab).ev x=.int .i64 m) (hy:(⟨t,ob⟩:ab).ev y=.int .i64 n) (hr:-9223372036854775808≤m - n∧m - n≤9223372036854775807):ax c ⟨t,ob⟩ d (.binOp .sub T x y T2) (.int .i64 (m - n)) []:=(.cr .sub T T2 x y hx hy (by simp only [cr];rw [u9 _ hr]))
theorem Ul (hx:(⟨t,ob⟩:ab).ev x=.int kk m) (hy:(⟨t,ob⟩:ab).ev y=.int kk n):ax c ⟨t,ob⟩ d (.binOp .eql T x y T2) (.bool (decide (m=n))) []:=(.cr .eql T T2 x y hx hy rfl)
theorem pF (hx:(⟨t,ob⟩:ab).ev x=.int kk m) (hy:(⟨t,ob⟩:ab).ev y=.int kk n):ax c ⟨t,ob⟩ d (.binOp .neq T x y T2) (.bool (decide (m≠n))) []:=(.cr .neq T T2 x y hx hy (by simp only [cr];congr 2;by_cases h:m=n <;> simp [h,bne]))
theorem r8 (hx:(⟨t,ob⟩:ab).ev x=.int kk m) (hy:(⟨t,ob⟩:ab).ev y=.int kk n):ax c ⟨t,ob⟩ d (.binOp .lss T x y T2) (.bool (decide (m<n))) []:=(.cr .lss T T2 x y hx hy rfl)
theorem Eo (hx:(⟨t,ob⟩:ab).ev x=.int kk m) (hy:(⟨t,ob⟩:ab).ev y=.int kk n):ax c ⟨t,ob⟩ d (.binOp .leq T x y T2) (.bool (decide (m≤n))) []:=(.cr .leq T T2 x y hx hy rfl)
theorem vp (hx:(⟨t,ob⟩:ab).ev x=.int kk m) (hy:(⟨t,ob⟩:ab).ev y=.int kk n):ax c ⟨t,ob⟩ d (.binOp .gtr T x y T2) (.bool (decide (m > n))) []:=(.cr .gtr T T2 x y hx hy rfl)
theorem vn (hx:(⟨t,ob⟩:ab).ev x=.int kk m) (hy:(⟨t,ob⟩:ab).ev y=.int kk n):ax c ⟨t,ob⟩ d (.binOp .geq T x y T2) (.bool (decide (m≥n))) []:=(.cr .geq T T2 x y hx hy rfl)
theorem u6 {m n:Bool} (hx:(⟨t,ob⟩:ab).ev x=.bool m) (hy:(⟨t,ob⟩:ab).ev y=.bool n) (hT:(c.ty T).k=.bool):ax c ⟨t,ob⟩ d (.binOp .eql T x y T2) (.bool (decide (m=n))) []:=(by have:=ax.jg (c:=c) (s:=⟨t,ob⟩) (d:=d) .eql (T2:=T2) x y hT hx hy zd;cases m <;> cases n <;> exact this)
theorem DW {m n:Bool} (hx:(⟨t,ob⟩:ab).ev x=.bool m) (hy:(⟨t,ob⟩:ab).ev y=.bool n) (hT:(c.ty T).k=.bool):ax c ⟨t,ob⟩ d (.binOp .neq T x y T2) (.bool (decide (m≠n))) []:=(by have:=ax.jg (c:=c) (s:=⟨t,ob⟩) (d:=d) .neq (T2:=T2) x y hT hx hy zd;cases m <;> cases n <;> exact this)
theorem r9 (hx:(⟨t,ob⟩:ab).ev x=.bool b):ax c ⟨t,ob⟩ d (.unOp .not T x) (.bool (!b)) []:=(.not T x hx)
theorem Er {T T2:TypeId} (hx:(⟨t,ob⟩:ab).ev x=.int kk m) (hy:(⟨t,ob⟩:ab).ev y=.int kk n):ax c ⟨t,ob⟩ d (.call { callee:=.builtin .min,args:=#[x,y],argTypes:=#[T,T2] }) (.int kk (min m n)) []:=(by have:=ax.min2 (c:=c) (s:=⟨t,ob⟩) (d:=d) .min T T2 x y hx hy (.inl rfl);rw [if_pos rfl] at this;rwa [show min m n=if n<m then n else m by split <;> omega])
theorem Ep {T T2:TypeId} (hx:(⟨t,ob⟩:ab).ev x=.int kk m) (hy:(⟨t,ob⟩:ab).ev y=.int kk n):ax c ⟨t,ob⟩ d (.call { callee:=.builtin .max,args:=#[x,y],argTypes:=#[T,T2] }) (.int kk (max m n)) []:=(by have:=ax.min2 (c:=c) (s:=⟨t,ob⟩) (d:=d) .max T T2 x y hx hy (.inr rfl);rw [if_neg zc] at this;rwa [show max m n=if m<n then n else m by split <;> omega])
theorem Cz {T n:Nat} {id:Nat} (hx:(⟨t,ob⟩:ab).ev x=.own id aa o n) (hT:(c.ty T).k=.slice e) (hb:(⟨t,ob⟩:ab).ob id=⟨aa,lf,E,sz,es⟩) (hl:lf≠.dead):ax c ⟨t,ob⟩ d (.call { callee:=.builtin .len,args:=#[x],argTypes:=#[T] }) (.int .i64 n) []:=(.fq hT x hx (xg hb hl))
theorem YB {e:TypeId} {n:Nat} (hx:(⟨t,ob⟩:ab).ev x=.list sz es) (hT:(c.ty T).k=.slice e) (hn:es.length=n):ax c ⟨t,ob⟩ d (.call { callee:=.builtin .len,args:=#[x],argTypes:=#[T] }) (.int .i64 n) []:=(hn▸.eg hT x hx)
theorem Cy {e:TypeId} (hx:(⟨t,ob⟩:ab).ev x=.nil) (hT:(c.ty T).k=.slice e):ax c ⟨t,ob⟩ d (.call { callee:=.builtin .len,args:=#[x],argTypes:=#[T] }) (.int .i64 0) []:=(.fp hT x hx)
theorem Xv {T ft z:Nat} {id:Nat} (hx:(⟨t,ob⟩:ab).ev x=.ptr id aa j o) (hT:(c.ty T).k=.aw fs) (hf:fs[i]? = some (off,ft)) (hk:(c.ty ft).k.known=true) (hz:(c.ty ft).size=z+1) (hb:(⟨t,ob⟩:ab).ob id=⟨aa,lf,E,sz,es⟩) (hl:lf≠.dead):ax c ⟨t,ob⟩ d (.fieldAddr T x i) (.ptr id aa j (o+off)) []:=(.du hT hf (TK.aN hk) za x hx (xg hb hl))
theorem Zx {T ft z:Nat} (hx:(⟨t,ob⟩:ab).ev x=.aK sz es j o) (hT:(c.ty T).k=.aw fs) (hf:fs[i]? = some (off,ft)) (hk:(c.ty ft).k.known=true) (hz:(c.ty ft).size=z+1):ax c ⟨t,ob⟩ d (.fieldAddr T x i) (.aK sz es j (o+off)) []:=(.cM hT hf (TK.aN hk) za x hx)
theorem Xw {T:Nat} {n:Nat} (hx:(⟨t,ob⟩:ab).ev x=.list sz es) (hy:(⟨t,ob⟩:ab).ev y=.int kk m) (hm:m=(n:Int)) (hT:(c.ty T).k=.slice e) (hk:(c.ty e).k.known=true) (hz:(c.ty e).size=sz) (hn:n<es.length):ax c ⟨t,ob⟩ d (.indexAddr T x y) (.aK sz es n 0) []:=(by subst hm;exact .cR hT (TK.aN hk) x y hx hz hy hn)
theorem Cx {T p:Nat} {n:Nat} {id:Nat} (hx:(⟨t,ob⟩:ab).ev x=.own id aa 0 p) (hy:(⟨t,ob⟩:ab).ev y=.int kk m) (hm:m=(n:Int)) (hT:(c.ty T).k=.slice e) (hk:(c.ty e).k.known=true) (hb:(⟨t,ob⟩:ab).ob id=⟨aa,lf,E,sz,es⟩) (hl:lf≠.dead) (hz:(c.ty e).size=sz) (hn:n<p):ax c ⟨t,ob⟩ d (.indexAddr T x y) (.ptr id aa n 0) []:=(by subst hm;have:=ax.dC (c:=c) (s:=⟨t,ob⟩) (d:=d) hT (TK.aN hk) x y hx (xg hb hl) (by rw [hb];exact hz) hy hn;rwa [zM] at this)
theorem CP {tk:TK} {T q z:Nat} {n:Nat} {id:Nat} (hx:(⟨t,ob⟩:ab).ev x=.ptr id aa j o) (hy:(⟨t,ob⟩:ab).ev y=.int kk m) (hm:m=(n:Int)) (hT:(c.ty T).k=.arr q e) (he:c.ty e=⟨tk,z,cK,ze⟩) (hk:tk.known=true) (hb:(⟨t,ob⟩:ab).ob id=⟨aa,lf,E,sz,es⟩) (hl:lf≠.dead) (hn:n<q) (hd:Nat.blt d c.N=true) (hw:Zf ops ⟨t,ob⟩ ⟨some d,.indexAddr T x y,ty,pos,af,g⟩ true) (k:zG c ops rest ⟨((d,(.ptr id aa j (o+n * z)))::t),ob⟩ (tr++[⟨⟨some d,.indexAddr T x y,ty,pos,af,g⟩,(.ptr id aa j (o+n * z)),[],Xe ⟨t,ob⟩ d (.indexAddr T x y)⟩]) QD):zG c ops (⟨some d,.indexAddr T x y,ty,pos,af,g⟩::rest) ⟨t,ob⟩ tr QD:=
 zG.cons (f:=(.ptr id aa j (o+n * z))) (wr:=[]) (d:=d) (WQ hd (by subst hm;have:=ax.cQ (c:=c) (s:=⟨t,ob⟩) (d:=d) hT (by rw [he];exact TK.aN hk) x y hx (xg hb hl) hy hn;rw [he] at this;exact this)) hw rfl rfl k
theorem ZN {T:Nat} (hx:(⟨t,ob⟩:ab).ev x=.aK sz es j o) (hk:(c.ty T).k.aW = some false) (hz:(c.ty T).size=1) (hj:j<es.length) (bj:es.getD j []=cs) (cO:cs.length=sz) (hf:cs[o]? = some f):ax c ⟨t,ob⟩ d (.load T x) f []:=(by have h1:=Uj hf;have:=ax.cJ (c:=c) (s:=⟨t,ob⟩) (d:=d) hk x hx hj za za;rw [bj] at this;unfold Zn at this;rw [hk] at this;dsimp only at this;rw [h1.2] at this;exact this)
theorem Xx {T:Nat} {id:Nat} (hx:(⟨t,ob⟩:ab).ev x=.ptr id aa j o) (hk:(c.ty T).k.aW = some false) (hz:(c.ty T).size=1) (hb:(⟨t,ob⟩:ab).ob id=⟨aa,lf,E,sz,es⟩) (hl:lf.row=true) (hj:j<es.length) (bj:es.getD j []=cs) (cO:cs.length=sz) (hf:cs[o]? = some f):ax c ⟨t,ob⟩ d (.load T x) f []:=(by have h1:=Uj hf;have:=ax.dD (c:=c) (s:=⟨t,ob⟩) (d:=d) hk x hx (xg hb (xL.dS hl)) (by rw [hb];exact hl) (by rw [hb];exact hj) (by rw [hb];dsimp only;omega) (by rw [hb];dsimp only;omega);rw [hb] at this;dsimp only at this;rw [bj] at this;unfold Zn at this;rw [hk] at this;dsimp only at this;rw [h1.2] at this;exact this)
theorem ub {T:Nat} {kk:TK} (hx:(⟨t,ob⟩:ab).ev x=.aK sz es j 0) (hT:c.ty T=⟨kk,sz,cK,ze⟩) (hk:kk.aW = some true) (hp:0<sz) (hj:j<es.length) (bj:es.getD j []=cs) (cO:cs.length=sz):ax c ⟨t,ob⟩ d (.load T x) (.agg cs) []:=(B5 hx hT hk hp hj bj cO)
theorem Xy {T:Nat} {kk:TK} {id:Nat} (hx:(⟨t,ob⟩:ab).ev x=.ptr id aa j 0) (hT:c.ty T=⟨kk,sz,cK,ze⟩) (hk:kk.aW = some true) (hp:0<sz) (hb:(⟨t,ob⟩:ab).ob id=⟨aa,lf,E,sz,es⟩) (hl:lf.row=true) (hj:j<es.length) (bj:es.getD j []=cs) (cO:cs.length=sz):ax c ⟨t,ob⟩ d (.load T x) (.agg cs) []:=(B6 hx hT hk hp hb hl hj bj cO)
theorem ud {T id:Nat} (hx:(⟨t,ob⟩:ab).ev x=.ptr id aa 0 o) (hy:iV t y=some f) (h1:f.one=true) (hk:(c.ty T).k.known=true) (hz:(c.ty T).size=1) (hb:(⟨t,ob⟩:ab).ob id=⟨aa,.own,E,sz,[cs]⟩) (cO:cs.length=sz) (ho:Nat.blt o sz=true):ax c ⟨t,ob⟩ 0 (.store T x y) .undef [(id,⟨aa,.own,E,sz,[cs.set o f]⟩)]:=(B8 hx (Vc hy) h1 hk hz hb cO ho)
theorem CD {T id:Nat} (hx:(⟨t,ob⟩:ab).ev x=.ptr id aa j o) (hy:iV t y=some f) (h1:f.one=true) (hk:(c.ty T).k.known=true) (hz:(c.ty T).size=1) (hb:(⟨t,ob⟩:ab).ob id=⟨aa,.own,E,sz,es⟩) (hj:j<es.length) (bj:es.getD j []=cs) (cO:cs.length=sz) (ho:Nat.blt o sz=true):ax c ⟨t,ob⟩ 0 (.store T x y) .undef [(id,⟨aa,.own,E,sz,es.set j (cs.set o f)⟩)]:=(B7 hx (Vc hy) h1 hk hz hb hj bj cO ho)
theorem YC {T id:Nat} {fs:List FV} (hx:(⟨t,ob⟩:ab).ev x=.ptr id aa 0 0) (hy:(⟨t,ob⟩:ab).ev y=.agg fs) (h1:fs.all FV.one=true) (hk:(c.ty T).k.known=true) (hz:(c.ty T).size=sz) (hb:(⟨t,ob⟩:ab).ob id=⟨aa,.own,E,sz,[cs]⟩) (cO:cs.length=sz) (cz:fs.length=sz):ax c ⟨t,ob⟩ 0 (.store T x y) .undef [(id,⟨aa,.own,E,sz,[fs]⟩)]:=(Bt hx hy h1 hk hz hb cO cz)
theorem Xu {T:Nat} {kk:TK} (hT:c.ty T=⟨kk,sz,cK,z⟩) (hk:kk.known=true) (hz:z.all FV.one=true) (hl:z.length=sz) (hv:(⟨t,ob⟩:ab).ob d=⟨v0,lf0,E0,kd,cy⟩):ax c ⟨t,ob⟩ d (.alloc T) (.ptr d (v0+1) 0 0) [(d,⟨v0+1,.own,T,sz,[z]⟩)]:=(by have:=ax.alloc (c:=c) (s:=⟨t,ob⟩) (d:=d) (T:=T) (by rw [hT];exact TK.aN hk) (by rw [hT];exact hz);rw [hT,XP hv] at this;dsimp only at this;rw [hl] at this;exact this)
theorem Yd {T:Nat} {kk:TK} {fs:List FV} (hx:(⟨t,ob⟩:ab).ev x=.agg fs) (hT:c.ty T=⟨kk,sz,cK,z⟩) (h1:fs.all FV.one=true) (hl:fs.length=sz) (hv:(⟨t,ob⟩:ab).ob d=⟨v0,lf0,E0,kd,cy⟩):ax c ⟨t,ob⟩ d (.box T x) (.ptr d (v0+1) 0 0) [(d,⟨v0+1,.own,T,sz,[fs]⟩)]:=(by have:=ax.box (c:=c) (s:=⟨t,ob⟩) (d:=d) (T:=T) x hx h1;rw [XP hv] at this;dsimp only [FV.cells] at this;rw [hl] at this;exact this)
theorem D4 {T:Nat} (hx:iV t x=some f) (h1:f.one=true) (hv:(⟨t,ob⟩:ab).ob d=⟨v0,lf0,E0,kd,cy⟩) (hd:Nat.blt d c.N=true) (hw:Zf ops ⟨t,ob⟩ ⟨some d,.box T x,ty,pos,af,g⟩ true) (k:zx c ops rest ⟨((d,(.ptr d (v0+1) 0 0))::t),((d,⟨v0+1,.own,T,1,[[f]]⟩)::ob)⟩ Q):zx c ops (⟨some d,.box T x,ty,pos,af,g⟩::rest) ⟨t,ob⟩ Q:=
 zx.cons (WQ hd (Dp (Vc hx) h1 hv)) hw rfl k
theorem Dd {T:Nat} (hT:c.ty T=⟨.aw fs,sz,cK,z⟩) (hk:fs.all (fun p=>(c.ty p.2).k.known)=true) (hf:VN c ⟨t,ob⟩ fs z ps cs) (hd:Nat.blt d c.N=true) (hw:Zf ops ⟨t,ob⟩ ⟨some d,.build T ps.toArray,ty,pos,af,g⟩ true) (k:zx c ops rest ⟨((d,(.agg cs))::t),ob⟩ Q):zx c ops (⟨some d,.build T ps.toArray,ty,pos,af,g⟩::rest) ⟨t,ob⟩ Q:=
 zx.cons (WQ hd (.build (by rw [hT]) (fun p hp=>TK.aN (zI.1 hk p hp)) ps.toArray (by rw [hT];exact hf.get))) hw rfl k
theorem Da {T:Nat} (hT:c.ty T=⟨.aw fs,sz,cK,z⟩) (hk:fs.all (fun p=>(c.ty p.2).k.known)=true) (hf:VN c ⟨t,ob⟩ fs z ps cs) (hd:Nat.blt d c.N=true) (hw:Zf ops ⟨t,ob⟩ ⟨some d,.build T ps.toArray,ty,pos,af,g⟩ true) (k:zG c ops rest ⟨((d,(.agg cs))::t),ob⟩ (tr++[⟨⟨some d,.build T ps.toArray,ty,pos,af,g⟩,(.agg cs),[],Xe ⟨t,ob⟩ d (.build T ps.toArray)⟩]) QD):zG c ops (⟨some d,.build T ps.toArray,ty,pos,af,g⟩::rest) ⟨t,ob⟩ tr QD:=
 zG.cons (WQ hd (.build (by rw [hT]) (fun p hp=>TK.aN (zI.1 hk p hp)) ps.toArray (by rw [hT];exact hf.get))) hw rfl rfl k
theorem zD {T n:Nat} {kk:TK} (hT:(c.ty T).k=.slice e) (he:c.ty e=⟨kk,sz,cK,z⟩) (hk:kk.known=true) (hf:yb ⟨t,ob⟩ sz 0 ps es) (hn:ps.length=n) (hm:Nat.ble (n * sz) 16777216=true) (mZ:Nat.ble n 16777216=true) (hd:Nat.blt d c.N=true) (hw:Zf ops ⟨t,ob⟩ ⟨some d,.buildSlice T n ps.toArray,ty,pos,af,g⟩ true) (k:zx c ops rest ⟨((d,(.list sz es))::t),ob⟩ Q):zx c ops (⟨some d,.buildSlice T n ps.toArray,ty,pos,af,g⟩::rest) ⟨t,ob⟩ Q:=
 zx.cons (f:=(.list sz es)) (wr:=[]) (d:=d) (WQ hd (by subst hn;obtain ⟨l1,l2,l3⟩:=hf.len;have jA:=hf.fill [] zd;have:=ax.bO (c:=c) (s:=⟨t,ob⟩) (d:=d) (n:=ps.length) hT (by rw [he];exact TK.aN hk) ps.toArray es l1 (by rw [he];exact l2) l3 (by rw [he];exact yt hm) (yt mZ) (by rw [he];simpa [ab.parts] using jA);rw [he] at this;exact this)) hw rfl k
theorem Ux {T n:Nat} {kk:TK} (hT:(c.ty T).k=.slice e) (he:c.ty e=⟨kk,sz,cK,z⟩) (hk:kk.known=true) (hf:yb ⟨t,ob⟩ sz 0 ps es) (hn:ps.length=n) (hm:Nat.ble (n * sz) 16777216=true) (mZ:Nat.ble n 16777216=true) (hd:Nat.blt d c.N=true) (hw:Zf ops ⟨t,ob⟩ ⟨some d,.buildSlice T n ps.toArray,ty,pos,af,g⟩ true) (k:zG c ops rest ⟨((d,(.list sz es))::t),ob⟩ (tr++[⟨⟨some d,.buildSlice T n ps.toArray,ty,pos,af,g⟩,(.list sz es),[],Xe ⟨t,ob⟩ d (.buildSlice T n ps.toArray)⟩]) QD):zG c ops (⟨some d,.buildSlice T n ps.toArray,ty,pos,af,g⟩::rest) ⟨t,ob⟩ tr QD:=
 zG.cons (f:=(.list sz es)) (wr:=[]) (d:=d) (WQ hd (by subst hn;obtain ⟨l1,l2,l3⟩:=hf.len;have jA:=hf.fill [] zd;have:=ax.bO (c:=c) (s:=⟨t,ob⟩) (d:=d) (n:=ps.length) hT (by rw [he];exact TK.aN hk) ps.toArray es l1 (by rw [he];exact l2) l3 (by rw [he];exact yt hm) (yt mZ) (by rw [he];simpa [ab.parts] using jA);rw [he] at this;exact this)) hw rfl rfl k
theorem BX {T:Nat} {kk:TK} (hT:(c.ty T).k=.slice e) (he:c.ty e=⟨kk,sz,cK,z⟩) (hk:kk.known=true) (hv:(⟨t,ob⟩:ab).ob d=⟨v0,lf0,E0,kd,cy⟩):ax c ⟨t,ob⟩ d (.buildSlice T 0 #[]) (.own d (v0+1) 0 0) [(d,⟨v0+1,.own,e,sz,[]⟩)]:=(by have:=ax.buildSlice (c:=c) (s:=⟨t,ob⟩) (d:=d) (n:=0) hT (by rw [he];exact TK.aN hk) #[] [] rfl zd zd zd zd (by simp [ab.parts,Zg]);rw [XP hv,he] at this;exact this)
theorem DV {T n:Nat} {m1 m2:Int} {k1 k2:IntKind} {kk:TK} (hx:(⟨t,ob⟩:ab).ev x=.int k1 m1) (pa:m1=(n:Int)) (hy:(⟨t,ob⟩:ab).ev y=.int k2 m2) (mZ:m2=(n:Int)) (hT:(c.ty T).k=.slice e) (he:c.ty e=⟨kk,sz,cK,z⟩) (hk:kk.known=true) (hz:z.all FV.one=true) (hb:cK * n≤281474976710656) (hn:n≤281474976710656) (hv:(⟨t,ob⟩:ab).ob d=⟨v0,lf0,E0,kd,cy⟩):ax c ⟨t,ob⟩ d (.makeSlice T x y) (.own d (v0+1) 0 n) [(d,⟨v0+1,.own,e,sz,List.replicate n z⟩)]:=(by subst pa;subst mZ;have:=ax.makeSlice (c:=c) (s:=⟨t,ob⟩) (d:=d) (n:=n) hT (by rw [he];exact TK.aN hk) x y hx hy (by rw [he];exact hz) (by rw [he];exact hb) hn;rw [he,XP hv] at this;exact this)
theorem CC {T u:Nat} {lo hi:Option Operand} (hx:(⟨t,ob⟩:ab).ev x=.list sz es) (hT:(c.ty T).k=.slice e) (hk:(c.ty e).k.known=true) (hz:(c.ty e).size=sz) (dp:lQ ⟨t,ob⟩ lo l) (cI:lO ⟨t,ob⟩ hi es.length u) (h1:l≤u) (h2:u≤es.length):ax c ⟨t,ob⟩ d (.slice T x lo hi none) (.list sz ((es.drop l).take (u - l))) []:=(.cT hT (TK.aN hk) x lo hi hx hz dp.ok cI.ok h1 h2)
theorem CO {fs:List FV} (hx:(⟨t,ob⟩:ab).ev x=.bN fs) (hf:fs[i]? = some f) (hh:f.hand=none) (hd:Nat.blt d c.N=true) (hw:Zf ops ⟨t,ob⟩ ⟨some d,.extract x i,ty,pos,af,g⟩ true) (k:zG c ops rest ⟨((d,f)::t),ob⟩ (tr++[⟨⟨some d,.extract x i,ty,pos,af,g⟩,f,[],Xe ⟨t,ob⟩ d (.extract x i)⟩]) QD):zG c ops (⟨some d,.extract x i,ty,pos,af,g⟩::rest) ⟨t,ob⟩ tr QD:=
 zG.cons (WQ hd (.extract x hx hf hh)) hw rfl rfl k
theorem D3 {T id n:Nat} {kk:TK} (hx:(⟨t,ob⟩:ab).ev x=.own id aa 0 n) (hb:(⟨t,ob⟩:ab).ob id=⟨aa,.own,e,sz,es⟩) (hn:n=es.length) (hT:(c.ty T).k=.slice e) (he:c.ty e=⟨kk,sz,cK,z⟩) (hk:kk.known=true) (hp:0<sz) (hy:iY t ob y sz aA) (aP:(es.length+aA.length) * cK≤140737488355328) (hm:es.length+aA.length≤140737488355328) (hv:(⟨t,ob⟩:ab).ob d=⟨v0,lf0,E0,kd,cy⟩) (hd:Nat.blt d c.N=true) (hw:Zf ops ⟨t,ob⟩ ⟨some d,.call { callee:=.builtin .append,args:=#[x,y],argTypes:=#[T,T] },ty,pos,af,g⟩ true) (k:zx c ops rest ⟨((d,(.own d (v0+1) 0 (es++aA).length))::t),((d,⟨v0+1,.own,e,sz,es++aA⟩)::(id,⟨aa,.dead,e,sz,es⟩)::ob)⟩ Q):zx c ops (⟨some d,.call { callee:=.builtin .append,args:=#[x,y],argTypes:=#[T,T] },ty,pos,af,g⟩::rest) ⟨t,ob⟩ Q:=
 zx.cons (WQ hd (Dn hx hb hn hT he hk hp hy aP hm hv)) hw rfl k
theorem B0 {T:Nat} (hv:(⟨t,ob⟩:ab).ob d=⟨v0,lf0,E0,kd,cy⟩):ax c ⟨t,ob⟩ d (.makeMap T none) (.omap d (v0+1)) [(d,⟨v0+1,.bc,T,0,[]⟩)]:=(by have:=ax.makeMap (c:=c) (s:=⟨t,ob⟩) (d:=d) T;rw [XP hv] at this;exact this)
theorem uE {T k e:Nat} {bb found:Bool} {x y:Operand} {kf vf:FV} {id aa E sz:Nat} {lf:xL} {es:List (List FV)} (K:Maps.Keyed c.P k) (gC:∀ row∈es,∀ kf,row.head? = some kf→YH c.P k kf) (cp:YH c.P k kf) (qF:VO es kf (c.ty e).kU vf found) (hx:(⟨t,ob⟩:ab).ev x=.omap id aa) (hb:(⟨t,ob⟩:ab).ob id=⟨aa,lf,E,sz,es⟩) (hl:lf≠.dead∧lf≠.bH) (hy:(⟨t,ob⟩:ab).ev y=kf) (hT:(c.ty T).k=.map k e) (he:(c.ty e).k.aW = some bb) (hn:vf.hand=none) (hd:Nat.blt d c.N=true) (hw:Zf ops ⟨t,ob⟩ ⟨some d,.lookup T x y false,ty,pos,af,g⟩ true) (k:zx c ops rest ⟨((d,vf)::t),ob⟩ Q):zx c ops (⟨some d,.lookup T x y false,ty,pos,af,g⟩::rest) ⟨t,ob⟩ Q:=
 zx.cons (f:=vf) (wr:=[]) (d:=d) (WQ hd (by have:=ax.look (c:=c) (s:=⟨t,ob⟩) (d:=d) hT he K x y false (.inl ⟨id,aa,hx,⟨xg hb hl.1,by rw [hb];exact hl.2⟩,by rw [hb]⟩) hy gC cp qF hn;simpa using this)) hw rfl k
theorem xi {T k e id aa E sz:Nat} {x y z:Operand} {kf vf:FV} {es aY : List (List FV)} (K:Maps.Keyed c.P k) (gC:∀ row∈es,∀ kf,row.head? = some kf→YH c.P k kf) (cp:YH c.P k kf) (hs:oU es kf vf aY) (hx:(⟨t,ob⟩:ab).ev x=.omap id aa) (hb:(⟨t,ob⟩:ab).ob id=⟨aa,.bc,E,sz,es⟩) (hy:(⟨t,ob⟩:ab).ev y=kf) (hz:(⟨t,ob⟩:ab).ev z=vf) (hT:(c.ty T).k=.map k e) (hn:vf.hand=none) (hw:Zf ops ⟨t,ob⟩ ⟨none,.mapUpdate T x y z,ty,pos,af,g⟩ true) (k:zx c ops rest ⟨t,((id,⟨aa,.bc,E,sz,aY⟩)::ob)⟩ Q):zx c ops (⟨none,.mapUpdate T x y z,ty,pos,af,g⟩::rest) ⟨t,ob⟩ Q:=
 zx.cons (f:=.undef) (wr:=[(id,⟨aa,.bc,E,sz,aY⟩)]) (d:=0) (Em (by have:=ax.update (c:=c) (s:=⟨t,ob⟩) (d:=0) hT K x y z hx (by rw [hb]) (by rw [hb]) hy hz (by rw [hb];exact gC) cp hn (aY:=aY) (by rw [hb];exact hs);rw [hb] at this;exact this)) hw rfl k
theorem zB {f:Nat} (hs:zX c.P f gs .fr res) (hx:zi t ob .fr xs gs) (hd:Nat.blt d c.N=true) (hw:Zf ops ⟨t,ob⟩ ⟨some d,.call { callee:=.value (.func f),args:=xs.toArray,argTypes:=ts },ty,pos,af,g⟩ true) (k:zx c ops rest ⟨((d,res)::t),ob⟩ Q):zx c ops (⟨some d,.call { callee:=.value (.func f),args:=xs.toArray,argTypes:=ts },ty,pos,af,g⟩::rest) ⟨t,ob⟩ Q:=
 zx.cons (WQ hd (.call hs (.inl rfl) (by simpa using hx.ok))) hw rfl k
theorem YY {f:Nat} (hs:zX c.P f gs .fr res) (hx:zi t ob .fr xs gs) (hd:Nat.blt d c.N=true) (hw:Zf ops ⟨t,ob⟩ ⟨some d,.call { callee:=.value (.func f),args:=xs.toArray,argTypes:=ts },ty,pos,af,g⟩ true) (k:zG c ops rest ⟨((d,res)::t),ob⟩ (tr++[⟨⟨some d,.call { callee:=.value (.func f),args:=xs.toArray,argTypes:=ts },ty,pos,af,g⟩,res,[],Xe ⟨t,ob⟩ d (.call { callee:=.value (.func f),args:=xs.toArray,argTypes:=ts })⟩]) QD):zG c ops (⟨some d,.call { callee:=.value (.func f),args:=xs.toArray,argTypes:=ts },ty,pos,af,g⟩::rest) ⟨t,ob⟩ tr QD:=
 zG.cons (WQ hd (.call hs (.inl rfl) (by simpa using hx.ok))) hw rfl rfl k
theorem XJ {f:Nat} (hx:(⟨t,ob⟩:ab).ev x=.fn f aO) (hs:zX c.P f (gs++aO) .fr res) (ha:zi t ob .fr xs gs) (hd:Nat.blt d c.N=true) (hw:Zf ops ⟨t,ob⟩ ⟨some d,.call { callee:=.value x,args:=xs.toArray,argTypes:=ts },ty,pos,af,g⟩ true) (k:zx c ops rest ⟨((d,res)::t),ob⟩ Q):zx c ops (⟨some d,.call { callee:=.value x,args:=xs.toArray,argTypes:=ts },ty,pos,af,g⟩::rest) ⟨t,ob⟩ Q:=
 zx.cons (WQ hd (.fP hx hs (by simpa using ha.ok))) hw rfl k
theorem Db {f:Nat} (hx:(⟨t,ob⟩:ab).ev x=.fn f aO) (hs:zX c.P f (gs++aO) .fr res) (ha:zi t ob .fr xs gs) (hd:Nat.blt d c.N=true) (hw:Zf ops ⟨t,ob⟩ ⟨some d,.call { callee:=.value x,args:=xs.toArray,argTypes:=ts },ty,pos,af,g⟩ true) (k:zG c ops rest ⟨((d,res)::t),ob⟩ (tr++[⟨⟨some d,.call { callee:=.value x,args:=xs.toArray,argTypes:=ts },ty,pos,af,g⟩,res,[],Xe ⟨t,ob⟩ d (.call { callee:=.value x,args:=xs.toArray,argTypes:=ts })⟩]) QD):zG c ops (⟨some d,.call { callee:=.value x,args:=xs.toArray,argTypes:=ts },ty,pos,af,g⟩::rest) ⟨t,ob⟩ tr QD:=
 zG.cons (WQ hd (.fP hx hs (by simpa using ha.ok))) hw rfl rfl k
theorem Cw {T T2:Nat} (hx:(⟨t,ob⟩:ab).ev x=.nil) (hy:(⟨t,ob⟩:ab).ev y=.nil) (hT:(c.ty T).k=.slice e):ax c ⟨t,ob⟩ d (.binOp .eql T x y T2) (.bool true) []:=(.er .eql hT x y hx .nil hy zd)
theorem Cv {T T2:Nat} (hx:(⟨t,ob⟩:ab).ev x=.list sz es) (hy:(⟨t,ob⟩:ab).ev y=.nil) (hT:(c.ty T).k=.slice e) (hn:es≠[]):ax c ⟨t,ob⟩ d (.binOp .eql T x y T2) (.bool false) []:=(.er .eql hT x y hx (.list sz es hn) hy zd)
theorem CB {T T2:Nat} (hx:(⟨t,ob⟩:ab).ev x=.nil) (hy:(⟨t,ob⟩:ab).ev y=.nil) (hT:(c.ty T).k=.slice e):ax c ⟨t,ob⟩ d (.binOp .neq T x y T2) (.bool false) []:=(.er .neq hT x y hx .nil hy zd)
theorem CA {T T2:Nat} (hx:(⟨t,ob⟩:ab).ev x=.list sz es) (hy:(⟨t,ob⟩:ab).ev y=.nil) (hT:(c.ty T).k=.slice e) (hn:es≠[]):ax c ⟨t,ob⟩ d (.binOp .neq T x y T2) (.bool true) []:=(.er .neq hT x y hx (.list sz es hn) hy zd)
theorem BZ {f:Nat} (hx:iV t x=some g1) (hh:g1.hand=none):ax c ⟨t,ob⟩ d (.makeFunc (.func f) #[] #[x]) (.fn f [g1]) []:=(.eC (by simp [Vc hx]) (by simp [hh]))
theorem Um {f:Nat} {g2:FV} (hx:iV t x=some g1) (hh:g1.hand=none) (hy:iV t y=some g2) (hi:g2.hand=none):ax c ⟨t,ob⟩ d (.makeFunc (.func f) #[] #[x,y]) (.fn f [g1,g2]) []:=(.eC (by simp [Vc hx,Vc hy]) (by simp [hh,hi]))
theorem YF {f:Nat} (hs:zX c.P f gs .sh res) (hx:zi t ob .sh xs gs) (hd:Nat.blt d c.N=true) (hw:Zf ops ⟨t,ob⟩ ⟨some d,.call { callee:=.value (.func f),args:=xs.toArray,argTypes:=ts },ty,pos,af,g⟩ true) (k:zx c ops rest ⟨((d,res)::t),ob⟩ Q):zx c ops (⟨some d,.call { callee:=.value (.func f),args:=xs.toArray,argTypes:=ts },ty,pos,af,g⟩::rest) ⟨t,ob⟩ Q:=
 zx.cons (WQ hd (.call hs (.inr rfl) (by simpa using hx.ok))) hw rfl k
theorem zF {f:Nat} (hs:zX c.P f gs .sh res) (hx:zi t ob .sh xs gs) (hd:Nat.blt d c.N=true) (hw:Zf ops ⟨t,ob⟩ ⟨some d,.call { callee:=.value (.func f),args:=xs.toArray,argTypes:=ts },ty,pos,af,g⟩ true) (k:zG c ops rest ⟨((d,res)::t),ob⟩ (tr++[⟨⟨some d,.call { callee:=.value (.func f),args:=xs.toArray,argTypes:=ts },ty,pos,af,g⟩,res,[],Xe ⟨t,ob⟩ d (.call { callee:=.value (.func f),args:=xs.toArray,argTypes:=ts })⟩]) QD):zG c ops (⟨some d,.call { callee:=.value (.func f),args:=xs.toArray,argTypes:=ts },ty,pos,af,g⟩::rest) ⟨t,ob⟩ tr QD:=
 zG.cons (WQ hd (.call hs (.inr rfl) (by simpa using hx.ok))) hw rfl rfl k
theorem WP {f n:Nat} (hs:zX c.P f gs (.ow E sz) (.list sz es)) (hx:zi t ob (.ow E sz) xs gs) (hn:es.length=n) (hv:(⟨t,ob⟩:ab).ob d=⟨v0,lf0,E0,kd,cy⟩) (hd:Nat.blt d c.N=true) (hw:Zf ops ⟨t,ob⟩ ⟨some d,.call { callee:=.value (.func f),args:=xs.toArray,argTypes:=ts },ty,pos,af,g⟩ true) (k:zx c ops rest ⟨((d,(.own d (v0+1) 0 n))::t),((d,⟨v0+1,.own,E,sz,es⟩)::ob)⟩ Q):zx c ops (⟨some d,.call { callee:=.value (.func f),args:=xs.toArray,argTypes:=ts },ty,pos,af,g⟩::rest) ⟨t,ob⟩ Q:=
 zx.cons (f:=(.own d (v0+1) 0 n)) (wr:=[(d,⟨v0+1,.own,E,sz,es⟩)]) (d:=d) (WQ hd (by subst hn;have:=ax.ep (c:=c) (s:=⟨t,ob⟩) (d:=d) (ts:=ts) hs (xs:=xs.toArray) (by simpa using hx.ok);rw [XP hv] at this;exact this)) hw rfl k
theorem uZ {f n:Nat} (hs:zX c.P f gs (.ow E sz) (.list sz es)) (hx:zi t ob (.ow E sz) xs gs) (hn:es.length=n) (hv:(⟨t,ob⟩:ab).ob d=⟨v0,lf0,E0,kd,cy⟩) (hd:Nat.blt d c.N=true) (hw:Zf ops ⟨t,ob⟩ ⟨some d,.call { callee:=.value (.func f),args:=xs.toArray,argTypes:=ts },ty,pos,af,g⟩ true) (k:zG c ops rest ⟨((d,(.own d (v0+1) 0 n))::t),((d,⟨v0+1,.own,E,sz,es⟩)::ob)⟩ (tr++[⟨⟨some d,.call { callee:=.value (.func f),args:=xs.toArray,argTypes:=ts },ty,pos,af,g⟩,(.own d (v0+1) 0 n),[(d,⟨v0+1,.own,E,sz,es⟩)],Xe ⟨t,ob⟩ d (.call { callee:=.value (.func f),args:=xs.toArray,argTypes:=ts })⟩]) QD):zG c ops (⟨some d,.call { callee:=.value (.func f),args:=xs.toArray,argTypes:=ts },ty,pos,af,g⟩::rest) ⟨t,ob⟩ tr QD:=
 zG.cons (f:=(.own d (v0+1) 0 n)) (wr:=[(d,⟨v0+1,.own,E,sz,es⟩)]) (d:=d) (WQ hd (by subst hn;have:=ax.ep (c:=c) (s:=⟨t,ob⟩) (d:=d) (ts:=ts) hs (xs:=xs.toArray) (by simpa using hx.ok);rw [XP hv] at this;exact this)) hw rfl rfl k
theorem D5 {o:Oper} (ho:o.dst=some d) (hd:Nat.blt d c.N=true) (hw:Zf ops ⟨t,ob⟩ o false) (k:zx c ops rest ⟨(d,.bN [])::t,ob⟩ Q):zx c ops (o::rest) ⟨t,ob⟩ Q:=
 zx.skip hw (fun d' e=>by rw [ho] at e;injection e with e;subst e;exact yt hd) (by rw [ho];rfl) k
theorem D2 {o:Oper} (ho:o.dst=some d) (hd:Nat.blt d c.N=true) (hw:Zf ops ⟨t,ob⟩ o false) (k:zG c ops rest ⟨(d,.bN [])::t,ob⟩ (tr++[⟨o,.bN [],[],[]⟩]) QD):zG c ops (o::rest) ⟨t,ob⟩ tr QD:=
 zG.skip hw (fun d' e=>by rw [ho] at e;injection e with e;subst e;exact yt hd) (by rw [ho];rfl) k
theorem VA {T:Nat} (hT:c.ty T=⟨.aw fs,sz,cK,z⟩) (hk:fs.all (fun p=>(c.ty p.2).k.known)=true) (hd:Nat.blt d c.N=true) (hw:Zf ops ⟨t,ob⟩ (⟨some d,.build T ps.toArray,ty,pos,af,g⟩:Oper) true)
  (k:ZC c ⟨t,ob⟩ fs ps z (fun cs=>zx c ops rest ⟨(d,.agg cs)::t,ob⟩ Q)):zx c ops ((⟨some d,.build T ps.toArray,ty,pos,af,g⟩:Oper)::rest) ⟨t,ob⟩ Q:=let ⟨_,h1,h2⟩:=k;Dd hT hk h1 hd hw h2
theorem DD {T:Nat} (hT:c.ty T=⟨.aw fs,sz,cK,z⟩) (hk:fs.all (fun p=>(c.ty p.2).k.known)=true) (hd:Nat.blt d c.N=true) (hw:Zf ops ⟨t,ob⟩ (⟨some d,.build T ps.toArray,ty,pos,af,g⟩:Oper) true)
  (k:ZC c ⟨t,ob⟩ fs ps z (fun cs=>zG c ops rest ⟨(d,.agg cs)::t,ob⟩ (tr++[⟨⟨some d,.build T ps.toArray,ty,pos,af,g⟩,.agg cs,[],Xe ⟨t,ob⟩ d (.build T ps.toArray)⟩]) QD)):zG c ops ((⟨some d,.build T ps.toArray,ty,pos,af,g⟩:Oper)::rest) ⟨t,ob⟩ tr QD:=let ⟨_,h1,h2⟩:=k;Da hT hk h1 hd hw h2
theorem uC (h:zx c ops ((⟨dst,.load T x,ty,pos,af,g⟩:Oper)::rest) s Q):zx c ops ((⟨dst,.load T x,ty,pos,af,g⟩:Oper)::rest) s Q:=h
theorem uy (h:zG c ops ((⟨dst,.load T x,ty,pos,af,g⟩:Oper)::rest) s tr QD):zG c ops ((⟨dst,.load T x,ty,pos,af,g⟩:Oper)::rest) s tr QD:=h
theorem CW (h:zx c ops ((⟨dst,.store T x y,ty,pos,af,g⟩:Oper)::rest) s Q):zx c ops ((⟨dst,.store T x y,ty,pos,af,g⟩:Oper)::rest) s Q:=h
theorem mI (h:zG c ops ((⟨dst,.store T x y,ty,pos,af,g⟩:Oper)::rest) s tr QD):zG c ops ((⟨dst,.store T x y,ty,pos,af,g⟩:Oper)::rest) s tr QD:=h
theorem CU (h:zx c ops ((⟨dst,.fieldAddr T x i,ty,pos,af,g⟩:Oper)::rest) s Q):zx c ops ((⟨dst,.fieldAddr T x i,ty,pos,af,g⟩:Oper)::rest) s Q:=h
theorem Uy (h:zG c ops ((⟨dst,.fieldAddr T x i,ty,pos,af,g⟩:Oper)::rest) s tr QD):zG c ops ((⟨dst,.fieldAddr T x i,ty,pos,af,g⟩:Oper)::rest) s tr QD:=h
theorem CV (h:zx c ops ((⟨dst,.indexAddr T x y,ty,pos,af,g⟩:Oper)::rest) s Q):zx c ops ((⟨dst,.indexAddr T x y,ty,pos,af,g⟩:Oper)::rest) s Q:=h
theorem CQ (h:zG c ops ((⟨dst,.indexAddr T x y,ty,pos,af,g⟩:Oper)::rest) s tr QD):zG c ops ((⟨dst,.indexAddr T x y,ty,pos,af,g⟩:Oper)::rest) s tr QD:=h
theorem uD {z:Operand} (h:zx c ops ((⟨dst,.pick x y z,ty,pos,af,g⟩:Oper)::rest) s Q):zx c ops ((⟨dst,.pick x y z,ty,pos,af,g⟩:Oper)::rest) s Q:=h
theorem uz {z:Operand} (h:zG c ops ((⟨dst,.pick x y z,ty,pos,af,g⟩:Oper)::rest) s tr QD):zG c ops ((⟨dst,.pick x y z,ty,pos,af,g⟩:Oper)::rest) s tr QD:=h
theorem rR {b:BinOp} (h:zx c ops ((⟨dst,.binOp b T x y T2,ty,pos,af,g⟩:Oper)::rest) s Q):zx c ops ((⟨dst,.binOp b T x y T2,ty,pos,af,g⟩:Oper)::rest) s Q:=h
theorem uK {b:BinOp} (h:zG c ops ((⟨dst,.binOp b T x y T2,ty,pos,af,g⟩:Oper)::rest) s tr QD):zG c ops ((⟨dst,.binOp b T x y T2,ty,pos,af,g⟩:Oper)::rest) s tr QD:=h
theorem sr  (h:zx c ops ((⟨dst,op,ty,pos,af,none⟩:Oper)::rest) s Q):zx c ops ((⟨dst,op,ty,pos,af,none⟩:Oper)::rest) s Q:=h
theorem vM  (h:zG c ops ((⟨dst,op,ty,pos,af,none⟩:Oper)::rest) s tr QD):zG c ops ((⟨dst,op,ty,pos,af,none⟩:Oper)::rest) s tr QD:=h
theorem Ej (h:zx c ops ((⟨dst,op,ty,pos,af,some gg⟩:Oper)::rest) s Q):zx c ops ((⟨dst,op,ty,pos,af,some gg⟩:Oper)::rest) s Q:=h
theorem Ei (h:zG c ops ((⟨dst,op,ty,pos,af,some gg⟩:Oper)::rest) s tr QD):zG c ops ((⟨dst,op,ty,pos,af,some gg⟩:Oper)::rest) s tr QD:=h
theorem yl (h1:b=true→zx c ops rest ⟨(d,.bool true)::t,ob⟩ Q) (h2:b=false→zx c ops rest ⟨(d,.bool false)::t,ob⟩ Q):zx c ops rest ⟨(d,.bool b)::t,ob⟩ Q:=by
 cases b
 ·exact h2 rfl
 ·exact h1 rfl
theorem pB {o:Oper} {ft:List Nat} (h1:b=true→zG c ops rest ⟨(d,.bool true)::t,ob⟩ (tr++[⟨o,.bool true,wr,ft⟩]) QD) (h2:b=false→zG c ops rest ⟨(d,.bool false)::t,ob⟩ (tr++[⟨o,.bool false,wr,ft⟩]) QD) :
  zG c ops rest ⟨(d,.bool b)::t,ob⟩ (tr++[⟨o,.bool b,wr,ft⟩]) QD:=by
 cases b
 ·exact h2 rfl
 ·exact h1 rfl
end
end Go.Proofs.YtedkppfghdipdaaGreatDoor
