/-
  The operations on states that are written out: one law each, for regions in the text's order (rn_) and for those that draw (rd_). (Printed by wip/fmm.py.)
-/
import Derived.Test.YtphidhljdcledaaGreatZBxxx
namespace Go.Proofs.YtphidhljdcledaaGreat
set_option linter.unusedVariables false
set_option maxHeartbeats 16000000
open Go.RowKit
variable {t:List (Nat×FV)} {ob wr:List (Nat×zE)} {E E0 c8 e i fO j k l o off sz gK p8 v0 ae fX:Nat} {lf lf0 lf2:Zn} {es du aG:List (List FV)} {m n:Int} {aH cs gs z ze:List FV} {f g1 res:FV} {s:ah} {fs:List (Nat×Nat)} {ps:List (Nat×Operand)} {x y:Operand} {kk:IntKind} {α:Type} {T T2:TypeId} {op:Op} {p:Nat×zE} {b:Bool} {xs:List Operand} {ts:Array TypeId} {dst:Option Nat} {gg:Nat×Bool}
theorem yI {id:Nat} (h:(⟨t,ob⟩:ah).ob id=⟨ae,lf,E,sz,es⟩) (hl:lf≠.dead):(⟨t,ob⟩:ah).live id ae:=by
 unfold ah.live;rw [h];exact ⟨hl,rfl⟩
theorem VD {d v:Nat} (h:(⟨t,ob⟩:ah).ob d=⟨v,lf,E,sz,es⟩):((⟨t,ob⟩:ah).ob d).ae+1=v+1:=by rw [h]
theorem zvg (h:0≤n∧n≤18446744073709551615):IntKind.wrap .u64 n=n:=by
 have:n % (2 ^ 64:Int)=n:=Int.emod_eq_of_lt h.1 za;show (if false && decide (n % (2 ^ 64:Int)≥2 ^ (64 - 1)) then n % (2 ^ 64:Int) - 2 ^ 64 else n % (2 ^ 64:Int))=n;rw [this];simp
theorem zih (h:cs[o]? = some f):o<cs.length∧(cs.drop o).headD .undef=f:=by
 obtain ⟨h1,h2⟩:=yq.1 h;refine ⟨h1,?_⟩;rw [BW h1,h2];rfl
theorem UO (h:o<cs.length):av cs o [f]=cs.set o f:=by
 unfold av;rw [zkI,if_pos h];simp
def Mt (cs:List FV) (o:Nat):List FV→List FV
 | [] => cs
 | f :: fs => Mt (cs.set o f) (o+1) fs
theorem zkq (cs:List FV) (o:Nat) (f:FV) (fs:List FV) (h:o<cs.length):av (av cs o [f]) (o+1) fs=av cs o (f::fs):=by
 unfold av;have h1:(List.take o cs++[f]++List.drop (o+1) cs).take (o+1)=List.take o cs++[f]:=by
  rw [YS zM,zS zM]
 have h2:(List.take o cs++[f]++List.drop (o+1) cs).drop (o+1+fs.length)=List.drop (o+1+fs.length) cs:=by
  rw [Rq,VN zM,YQ,List.drop_drop];congr 1;simp;omega
 simp only [yS,HA,yh];rw [h1,h2];simp [Uo,Nat.add_left_comm]
theorem zhg:∀ (fs:List FV) (cs:List FV) (o:Nat),o+fs.length≤cs.length→fs≠[]→av cs o fs=Mt cs o fs
 | [], _, _, _, h => absurd rfl h
 | [f], cs, o, h, _ => by rw [UO (by simp at h; omega)]; rfl
 | f :: g :: fs, cs, o, h, _ => by
  rw [← zkq cs o f (g::fs) (by simp at h;omega),UO (by simp at h;omega),zhg (g::fs) _ _ (by simp at h ⊢;omega) zc];rfl
inductive tS (c:Ctx) (s:ah) (fs:List (Nat×Nat)):List FV→List (Nat×Operand)→List FV→Prop where
 | nil {cs:List FV}:tS c s fs cs [] cs
 | one {i off ft:Nat} {x:Operand} {f:FV} {ps:List (Nat × Operand)} {cs eV : List FV} (hx:s.ev x=f) (hi:fs[i]? = some (off, ft)) (ho:f.cells=[f]) (h1:f.one=true) (hs:(c.ty ft).size=1) (hl:Nat.blt off cs.length=true) (h:tS c s fs (cs.set off f) ps eV):tS c s fs cs ((i, x) :: ps) eV
 | agg {i off ft:Nat} {x:Operand} {gs:List FV} {ps:List (Nat × Operand)} {cs eV : List FV} (hx:s.ev x=.agg gs) (hi:fs[i]? = some (off, ft)) (h1:gs.all FV.one=true) (hs:gs.length=(c.ty ft).size) (hp:gs ≠ []) (hl:Nat.ble (off+gs.length) cs.length=true) (h:tS c s fs (Mt cs off gs) ps eV):tS c s fs cs ((i, x) :: ps) eV
theorem WS {place:Nat→Option (Nat×Nat)} {size:Nat} {rest:List (Nat×FV)} (hp:place i=some (off,size)) (h1:f.cells.all FV.one=true) (h2:f.cells.length=size) (h3:off+size≤cs.length) :
  Vo place cs ((i,f)::rest)=Vo place (av cs off f.cells) rest:=by
 rw [Vo,hp];exact if_pos ⟨h1,h2,h3⟩
theorem tS.get {c:Ctx} {eV : List FV} (h:tS c s fs cs ps eV) :
  Vo (fun i=>(fs[i]?).map fun p=>(p.1,(c.ty p.2).size)) cs (s.parts ps.toArray)=some eV:=by
 unfold ah.parts;simp only []
 induction h with
 | nil => rfl
 | one hx hi ho h1 hs hl h ih =>
  have bn:=zO hl;rw [zZ,hx,WS (off:=_) (size:=_) (by rw [hi];rfl) (by rw [ho];simpa using h1) (by rw [ho];exact hs.symm) (by dsimp only;omega),ho,UO bn];exact ih
 | @agg i off ft x gs ps cs eV hx hi h1 hs hp hl h ih =>
  have bn:=zO hl;rw [zZ,hx,WS (f:=.agg gs) (off:=off) (size:=(c.ty ft).size) (by rw [hi];rfl) h1 hs (by rw [← hs];exact bn)];rw [show (FV.agg gs).cells=gs from rfl,zhg gs cs off bn hp];exact ih
def IH {α:Type} (d:α):List (Nat×α)→Nat→Option α
 | [], _ => some d
 | (i, a) :: l, k => bif Nat.beq i k then some a else IH d l k
theorem zoA {α:Type} (d:α) (k:Nat):∀ l:List (Nat×α),IH d l k=some (look d l k)
 | [] => rfl
 | (i, a) :: l => by
  unfold IH look;rw [zoA d k l];cases Nat.beq i k <;> rfl
def Md (v:Value):Option FV:=
 match v with
 | .int k n => some (.int k n)
 | .bool b => some (.bool b)
 | v => some (kJ v)
theorem zt9 (v:Value):Md v=some (kJ v):=by unfold Md;split <;> rfl
def lx (t:List (Nat×FV)):Operand→Option FV
 | .tmp i => IH .undef t i
 | .const v => Md v
 | .func f => some (.fn f [])
 | _ => some .undef
theorem mW (h:lx t x=some f):(⟨t,ob⟩:ah).ev x=f:=by
 cases x with
 | tmp i => have h' : IH .undef t i=some f := h; rw [zoA] at h'; injection h'
 | const v => have h' : Md v=some f := h; rw [zt9] at h'; injection h'
 | _ => injection h
theorem YC (h:f.one=true):f.cells=[f]:=by
 cases f <;> first|rfl|(simp [FV.one] at h)
inductive Xi (s:ah) (sz:Nat):Nat→List (Nat×Operand)→List (List FV)→Prop where
 | nil {k:Nat}:Xi s sz k [] []
 | one {k:Nat} {x:Operand} {f:FV} {ps:List (Nat × Operand)} {es:List (List FV)} (hx:s.ev x=f) (hc:f.cells=[f]) (h1:f.one=true) (hs:sz=1) (h:Xi s sz (k+1) ps es):Xi s sz k ((k, x) :: ps) ([f] :: es)
 | agg {k:Nat} {x:Operand} {gs:List FV} {ps:List (Nat × Operand)} {es:List (List FV)} (hx:s.ev x=.agg gs) (h1:gs.all FV.one=true) (hs:gs.length=sz) (h:Xi s sz (k+1) ps es):Xi s sz k ((k, x) :: ps) (gs :: es)
theorem Xi.int (hx:s.ev x=.int kk n) (hs:sz=1) (h:Xi s sz (k+1) ps es):Xi s sz k ((k,x)::ps) ([.int kk n]::es):=.one hx rfl rfl hs h
theorem Xi.list {q:Nat} {gs:List (List FV)} (hx:s.ev x=.list q gs) (hs:sz=1) (h:Xi s sz (k+1) ps es):Xi s sz k ((k,x)::ps) ([.list q gs]::es):=.one hx rfl rfl hs h
theorem Xi.len (h:Xi s sz k ps es):es.length=ps.length∧(∀ e∈es,e.length=sz)∧(∀ f∈es.flatten,f.one=true):=by
 have key:∀ (e:List FV) (es:List (List FV)) (q:Nat×Operand) (ps:List (Nat×Operand)),e.length=sz→(∀ f∈e,f.one=true)→(es.length=ps.length∧(∀ e∈es,e.length=sz)∧(∀ f∈es.flatten,f.one=true))→
   ((e::es).length=(q::ps).length∧(∀ e'∈e::es,e'.length=sz)∧(∀ f∈(e::es).flatten,f.one=true)):=by
  intro e es q ps h1 h2 h3;refine ⟨by simp [h3.1],fun e' he=>?_,fun f hf=>?_⟩
  ·rcases zA.1 he with e1|e1
   ·rw [e1];exact h1
   ·exact h3.2.1 _ e1
  ·rw [xF] at hf;rcases zC.1 hf with e1|e1
   ·exact h2 f e1
   ·exact h3.2.2 _ e1
 induction h with
 | nil => exact ⟨rfl, by simp, by simp⟩
 | one hx hc h1 hs h ih => exact key [_] _ (_, _) _ (by rw [hs]; rfl) (by simpa using h1) ih
 | agg hx h1 hs h ih => exact key _ _ (_, _) _ hs (fun f hf => zL.1 h1 f hf) ih
theorem zi9 (pre O7 post ds:List α) (h:O7.length=ds.length):av (pre++(O7++post)) pre.length ds=pre++(ds++post):=by
 unfold av;rw [List.take_left,← h,← yV pre O7 post,← zN,List.drop_left,yV]
theorem Xi.fill (h:Xi s sz k ps es):∀ (pre:List FV),pre.length=k * sz→
  Vo (fun i=>some (i * sz,sz)) (pre++List.replicate (ps.length * sz) .undef) (ps.map fun p=>(p.1,s.ev p.2))=some (pre++es.flatten):=by
 induction h with
 | nil => intro pre _; simp [Vo]
 | @one k x f ps es hx hc h1 hs h ih=>
  intro pre hp;have e1:List.replicate ((((k,x)::ps:List (Nat×Operand))).length * sz) FV.undef=List.replicate sz .undef++List.replicate (ps.length * sz) .undef:=by
   rw [yS,yu,Ut,Uo,P3]
  have e2:(pre++List.replicate ((((k,x)::ps:List (Nat×Operand))).length * sz) FV.undef).length=k * sz+(ps.length+1) * sz:=by simp [hp]
  rw [zZ,hx,WS (place:=fun i=>some (i * sz,sz)) (off:=k * sz) (size:=sz) rfl (by rw [hc];simpa using h1) (by rw [hc,hs];rfl) (by rw [e2,yu];omega),hc,e1,← hp,zi9 _ _ _ _ (by simp [hs]),← yV,ih (pre++[f]) (by simp [hp,hs])];simp
 | @agg k x gs ps es hx h1 hs h ih=>
  intro pre hp;have e1:List.replicate ((((k,x)::ps:List (Nat×Operand))).length * sz) FV.undef=List.replicate sz .undef++List.replicate (ps.length * sz) .undef:=by
   rw [yS,yu,Ut,Uo,P3]
  have e2:(pre++List.replicate ((((k,x)::ps:List (Nat×Operand))).length * sz) FV.undef).length=k * sz+(ps.length+1) * sz:=by simp [hp]
  rw [zZ,hx,WS (f:=.agg gs) (place:=fun i=>some (i * sz,sz)) (off:=k * sz) (size:=sz) rfl h1 hs (by rw [e2,yu];omega),e1,← hp];rw [show (FV.agg gs).cells=gs from rfl,zi9 _ _ _ _ (by simp [hs]),← yV,ih (pre++gs) (by simp [hp,yu,hs])];simp
def VI (c:Ctx) (s:ah) (fs:List (Nat×Nat)) (ps:List (Nat×Operand)) (cs:List FV) (K:List FV→Prop):Prop:=∃ eV,tS c s fs cs ps eV∧K eV
theorem VI.nil {c:Ctx} {s:ah} {fs:List (Nat×Nat)} {cs:List FV} {K:List FV→Prop} (h:K cs):VI c s fs [] cs K:=⟨cs,.nil,h⟩
theorem VI.one {c:Ctx} {t:List (Nat×FV)} {ob:List (Nat×zE)} {fs:List (Nat×Nat)} {i off ft:Nat} {x:Operand} {ps:List (Nat×Operand)} {cs:List FV} {K:List FV→Prop} {f:FV} (hx:lx t x=some f) (h1:f.one=true) (hi:fs[i]? = some (off,ft)) (hs:(c.ty ft).size=1) (hl:Nat.blt off cs.length=true) (h:VI c ⟨t,ob⟩ fs ps (cs.set off f) K):VI c ⟨t,ob⟩ fs ((i,x)::ps) cs K:=
 let ⟨eV,q1,q2⟩:=h;⟨eV,.one (mW hx) hi (YC h1) h1 hs hl q1,q2⟩
theorem VI.agg {c:Ctx} {s:ah} {fs:List (Nat×Nat)} {i off ft:Nat} {x:Operand} {gs:List FV} {ps:List (Nat×Operand)} {cs:List FV} {K:List FV→Prop} (hx:s.ev x=.agg gs) (hi:fs[i]? = some (off,ft)) (h1:gs.all FV.one=true) (hs:gs.length=(c.ty ft).size) (hp:gs≠[]) (hl:Nat.ble (off+gs.length) cs.length=true) (h:VI c s fs ps (Mt cs off gs) K):VI c s fs ((i,x)::ps) cs K:=
 let ⟨eV,q1,q2⟩:=h;⟨eV,.agg hx hi h1 hs hp hl q1,q2⟩
def TK.known:TK→Bool
 | .other => false
 | _ => true
theorem TK.aB {k:TK} (h:k.known=true):k≠.other:=by rintro rfl;cases h
inductive o4 (t:List (Nat×FV)) (ob:List (Nat×zE)) (m:ll):Operand→FV→Prop where
 | plain {x:Operand} {f:FV} (h:(⟨t, ob⟩:ah).ev x=f) (hn:f.hand=none):o4 t ob m x f
 | nil {x:Operand} {sz:Nat} (h:(⟨t, ob⟩:ah).ev x=.nil):o4 t ob m x (.list sz [])
 | sub {x:Operand} {f g:FV} (h:(⟨t, ob⟩:ah).ev x=f) (hn:f.hand=none) (hle:FV.le f g):o4 t ob m x g
 | own {x:Operand} {id ae n E sz:Nat} {es:List (List FV)} {lf:Zn} (h:(⟨t, ob⟩:ah).ev x=(.own id ae 0 n)) (hb:(⟨t, ob⟩:ah).ob id=⟨ae, lf, E, sz, es⟩) (hl:lf.row=true) (hm:m=.sh → lf=.shut) (hn:n=es.length):o4 t ob m x (.list sz es)
 | part {x:Operand} {id ae o n E sz:Nat} {es:List (List FV)} {lf:Zn} (h:(⟨t, ob⟩:ah).ev x=(.own id ae o n)) (hb:(⟨t, ob⟩:ah).ob id=⟨ae, lf, E, sz, es⟩) (hl:lf.row=true) (hm:m=.sh → lf=.shut):o4 t ob m x (.list sz ((es.drop o).take n))
theorem o4.ok {m:ll}:∀ {x:Operand} {g:FV},o4 t ob m x g→qH ⟨t,ob⟩ m ((⟨t,ob⟩:ah).ev x) g
 | _, _, .plain h hn => by rw [h]; exact .plain _ hn
 | _, _, .sub h hn hle => by rw [h]; exact .sub _ _ hn hle
 | _, _, .nil h => by rw [h]; exact .nil _
 | _, _, .own (id := id) (ae := ae) (n := n) (es := es) h hb hl hm hn => by
  rw [h];have:=qH.own (s:=⟨t,ob⟩) (m:=m) id ae 0 n (yI hb (Zn.fW hl)) (by rw [hb];exact hl) (by rw [hb];exact hm);rw [hb] at this;simpa [hn] using this
 | _, _, .part (id := id) (ae := ae) (o := o) (n := n) h hb hl hm => by
  rw [h];have:=qH.own (s:=⟨t,ob⟩) (m:=m) id ae o n (yI hb (Zn.fW hl)) (by rw [hb];exact hl) (by rw [hb];exact hm);rw [hb] at this;exact this
inductive zH (t:List (Nat×FV)) (ob:List (Nat×zE)) (m:ll):List Operand→List FV→Prop where
 | nil:zH t ob m [] []
 | cons {x:Operand} {xs:List Operand} {g:FV} {gs:List FV} (h:o4 t ob m x g) (hs:zH t ob m xs gs):zH t ob m (x :: xs) (g :: gs)
theorem zH.ok {m:ll}:∀ {xs:List Operand} {gs:List FV},zH t ob m xs gs→Ug ⟨t,ob⟩ m xs gs
 | _, _, .nil => .nil
 | _, _, .cons h hs => .cons h.ok hs.ok
inductive WE (t:List (Nat×FV)) (ob:List (Nat×zE)):Operand→Nat→List (List FV)→Prop where
 | nil {x:Operand} {sz:Nat} (h:(⟨t, ob⟩:ah).ev x=.nil):WE t ob x sz []
 | list {x:Operand} {sz:Nat} {es:List (List FV)} (h:(⟨t, ob⟩:ah).ev x=(.list sz es)):WE t ob x sz es
 | own {x:Operand} {id ae n E sz:Nat} {es:List (List FV)} {lf:Zn} (h:(⟨t, ob⟩:ah).ev x=(.own id ae 0 n)) (hb:(⟨t, ob⟩:ah).ob id=⟨ae, lf, E, sz, es⟩) (hl:lf.row=true) (hn:n=es.length):WE t ob x sz es
 | part {x:Operand} {id ae o n E sz:Nat} {es:List (List FV)} {lf:Zn} (h:(⟨t, ob⟩:ah).ev x=(.own id ae o n)) (hb:(⟨t, ob⟩:ah).ob id=⟨ae, lf, E, sz, es⟩) (hl:lf.row=true):WE t ob x sz ((es.drop o).take n)
theorem WE.ok:∀ {x:Operand} {sz:Nat} {es:List (List FV)},WE t ob x sz es→Src ⟨t,ob⟩ ((⟨t,ob⟩:ah).ev x) sz es
 | _, _, _, .nil h => by rw [h]; exact .nil _
 | _, _, _, .list h => by rw [h]; exact .list _ _
 | _, _, _, .own (id := id) (ae := ae) (n := n) h hb hl hn => by
  rw [h];have:=Src.own (s:=⟨t,ob⟩) id ae 0 n (yI hb (Zn.fW hl)) (by rw [hb];exact hl);rw [hb] at this;simpa [hn] using this
 | _, _, _, .part (id := id) (ae := ae) (o := o) (n := n) h hb hl => by
  rw [h];have:=Src.own (s:=⟨t,ob⟩) id ae o n (yI hb (Zn.fW hl)) (by rw [hb];exact hl);rw [hb] at this;exact this
inductive qo (s:ah):Option Operand→Nat→Prop where
 | none:qo s none 0
 | some {y:Operand} {k:IntKind} {l:Nat} (h:s.ev y=.int k (l:Nat)):qo s (some y) l
 | lit {y:Operand} {k:IntKind} {n:Int} {l:Nat} (h:s.ev y=.int k n) (e:n=(l:Nat)):qo s (some y) l
inductive ql (s:ah):Option Operand→Nat→Nat→Prop where
 | none {m:Nat}:ql s none m m
 | some {y:Operand} {k:IntKind} {m l:Nat} (h:s.ev y=.int k (l:Nat)):ql s (some y) m l
 | lit {y:Operand} {k:IntKind} {n:Int} {m l:Nat} (h:s.ev y=.int k n) (e:n=(l:Nat)):ql s (some y) m l
theorem qo.ok {x:Option Operand} (h:qo s x l):s.lo x l:=by
 cases h with
 | none => exact rfl
 | some h => exact ⟨_, h⟩
 | lit h e => subst e; exact ⟨_, h⟩
theorem ql.ok {x:Option Operand} {m:Nat} (h:ql s x m l):s.hi x m l:=by
 cases h with
 | none => exact rfl
 | some h => exact ⟨_, h⟩
 | lit h e => subst e; exact ⟨_, h⟩
theorem yY [Inhabited α] {fv:α→List FV} {l:List α} (h:j<l.length):(l.map fv).getD j []=fv (nth l j):=by
 rw [yz,ye,xz h,ak h];rfl
theorem zqE {fs:List FV} (h:cs.length=fs.length):av cs 0 fs=fs:=by
 unfold av;rw [P7,YQ,yh,VN za,zT]
section
variable {c:Ctx} {t:List (Nat×FV)} {ob:List (Nat×zE)} {d:Nat}
theorem zpE {T:Nat} {kk:TK} (hx:(⟨t,ob⟩:ah).ev x=(.ax sz es j 0)) (hT:c.ty T=⟨kk,sz,c8,ze⟩) (hk:kk.bD = some true) (hp:0<sz) (hj:j<es.length) (bk:es.getD j []=cs) (hl:cs.length=sz):aD c ⟨t,ob⟩ d (.load T x) (.agg cs) []:=by
 have ee : (c.ty T).k.bD = some true:=by rw [hT];exact hk
 have:=aD.fB (c:=c) (s:=⟨t,ob⟩) (d:=d) ee x hx hj (by rw [hT];simp) hp;rw [bk] at this;unfold UG at this;rw [ee] at this;dsimp only at this;rwa [hT,Yl,zS (by rw [hl];exact zg _)] at this
theorem zpF {T:Nat} {id:Nat} {kk:TK} (hx:(⟨t,ob⟩:ah).ev x=(.ptr id ae j 0)) (hT:c.ty T=⟨kk,sz,c8,ze⟩) (hk:kk.bD = some true) (hp:0<sz) (hb:(⟨t,ob⟩:ah).ob id=⟨ae,lf,E,sz,es⟩) (bN:lf.row=true) (hj:j<es.length) (bk:es.getD j []=cs) (hl:cs.length=sz) :
  aD c ⟨t,ob⟩ d (.load T x) (.agg cs) []:=by
 have ee : (c.ty T).k.bD = some true:=by rw [hT];exact hk
 have:=aD.gF (c:=c) (s:=⟨t,ob⟩) (d:=d) ee x hx (yI hb (Zn.fW bN)) (by rw [hb];exact bN) (by rw [hb];exact hj) (by rw [hb,hT];simp) (by rw [hb];exact hp);rw [hb] at this;dsimp only at this;rw [bk] at this;unfold UG at this;rw [ee] at this;dsimp only at this;rwa [hT,Yl,zS (by rw [hl];exact zg _)] at this
theorem zpH {T:Nat} {id:Nat} (hx:(⟨t,ob⟩:ah).ev x=(.ptr id ae 0 o)) (hy:(⟨t,ob⟩:ah).ev y=f) (h1:f.one=true) (hk:(c.ty T).k.known=true) (hz:(c.ty T).size=1) (hb:(⟨t,ob⟩:ah).ob id=⟨ae,.own,E,sz,[cs]⟩) (ch:cs.length=sz) (ho:Nat.blt o sz=true) :
  aD c ⟨t,ob⟩ 0 (.store T x y) .undef [(id,⟨ae,.own,E,sz,[cs.set o f]⟩)]:=by
 have eJ:=zO ho;have hc:=YC h1;have:=aD.store (c:=c) (s:=⟨t,ob⟩) (d:=0) (TK.aB hk) x y hx (by rw [hb]) (by rw [hb]) hy (by rw [hc];simp [h1]) (by rw [hz,hc];rfl) (by rw [hb];exact HF) (by rw [hb];dsimp only;omega);rw [hb] at this;have e:=UO (f:=f) (show o<cs.length by omega);simpa [hc,e] using this
theorem zpG {T:Nat} {id:Nat} (hx:(⟨t,ob⟩:ah).ev x=(.ptr id ae j o)) (hy:(⟨t,ob⟩:ah).ev y=f) (h1:f.one=true) (hk:(c.ty T).k.known=true) (hz:(c.ty T).size=1) (hb:(⟨t,ob⟩:ah).ob id=⟨ae,.own,E,sz,es⟩) (hj:j<es.length) (bk:es.getD j []=cs) (ch:cs.length=sz) (ho:Nat.blt o sz=true) :
  aD c ⟨t,ob⟩ 0 (.store T x y) .undef [(id,⟨ae,.own,E,sz,es.set j (cs.set o f)⟩)]:=by
 have eJ:=zO ho;have hc:=YC h1;have:=aD.store (c:=c) (s:=⟨t,ob⟩) (d:=0) (TK.aB hk) x y hx (by rw [hb]) (by rw [hb]) hy (by rw [hc];simp [h1]) (by rw [hz,hc];rfl) (by rw [hb];exact hj) (by rw [hb];dsimp only;omega);rw [hb] at this;have e:=UO (f:=f) (show o<cs.length by omega);rw [hc] at this;dsimp only at this;rw [bk,e] at this;exact this
theorem zuj {T d:Nat} (hx:(⟨t,ob⟩:ah).ev x=f) (h1:f.one=true) (hv:(⟨t,ob⟩:ah).ob d=⟨v0,lf0,E0,gK,du⟩):aD c ⟨t,ob⟩ d (.box T x) (.ptr d (v0+1) 0 0) [(d,⟨v0+1,.own,T,1,[[f]]⟩)]:=by
 have hc:=YC h1;have:=aD.box (c:=c) (s:=⟨t,ob⟩) (d:=d) (T:=T) x hx (by rw [hc];simp [h1]);rw [VD hv,hc] at this;exact this
theorem zm1 {T:Nat} {id:Nat} {fs:List FV} (hx:(⟨t,ob⟩:ah).ev x=(.ptr id ae 0 0)) (hy:(⟨t,ob⟩:ah).ev y=(.agg fs)) (h1:fs.all FV.one=true) (hk:(c.ty T).k.known=true) (hz:(c.ty T).size=sz) (hb:(⟨t,ob⟩:ah).ob id=⟨ae,.own,E,sz,[cs]⟩) (hl:cs.length=sz) (cu:fs.length=sz) :
  aD c ⟨t,ob⟩ 0 (.store T x y) .undef [(id,⟨ae,.own,E,sz,[fs]⟩)]:=by
 have:=aD.store (c:=c) (s:=⟨t,ob⟩) (d:=0) (TK.aB hk) x y hx (by rw [hb]) (by rw [hb]) hy h1 (by rw [hz];exact cu) (by rw [hb];exact HF) (by rw [hb,hz];simp);rw [hb] at this;simpa [FV.cells,zqE (hl.trans cu.symm)] using this
theorem zog {T id n:Nat} {kk:TK} (hx:(⟨t,ob⟩:ah).ev x=(.own id ae 0 n)) (hb:(⟨t,ob⟩:ah).ob id=⟨ae,.own,e,sz,es⟩) (hn:n=es.length) (hT:(c.ty T).k=.slice e) (he:c.ty e=⟨kk,sz,c8,z⟩) (hk:kk.known=true) (hp:0<sz) (hy:WE t ob y sz aG)
  (aU:(es.length+aG.length) * c8≤140737488355328) (hm:es.length+aG.length≤140737488355328) (hv:(⟨t,ob⟩:ah).ob d=⟨v0,lf0,E0,gK,du⟩) :
  aD c ⟨t,ob⟩ d (.call { callee:=.builtin .append,args:=#[x,y],argTypes:=#[T,T] }) (.own d (v0+1) 0 (es++aG).length) [(id,⟨ae,.dead,e,sz,es⟩),(d,⟨v0+1,.own,e,sz,es++aG⟩)]:=by
 have AP:pa ⟨t,ob⟩ (.own id ae 0 n) sz es (some id):=by
  have:=pa.own (s:=⟨t,ob⟩) id ae (by rw [hb]) (by rw [hb]) n (by rw [hb];exact hn);rw [hb] at this;exact this
 have:=aD.append (c:=c) (s:=⟨t,ob⟩) (d:=d) (i:=some id) hT (by rw [he];exact TK.aB hk) (by rw [he];exact hp) x y hx rfl (by rw [he];exact AP) (fun k h=>by injection h with h;subst h;rw [hb]) (by rw [he];exact hy.ok) (by rw [he];exact aU) hm;rw [he] at this;simpa [VZ,VD hv,hb] using this
theorem zrH {T id n:Nat} {kk:TK} (hx:(⟨t,ob⟩:ah).ev x=(.own id ae 0 n)) (hb:(⟨t,ob⟩:ah).ob id=⟨ae,.own,e,sz,es⟩) (hn:n=es.length) (hT:(c.ty T).k=.slice e) (he:c.ty e=⟨kk,sz,c8,z⟩) (hk:kk.known=true) (hp:0<sz) (hy:WE t ob y sz aG)
  (aU:(es.length+aG.length) * c8≤140737488355328) (hm:es.length+aG.length≤140737488355328) (hv:(⟨t,ob⟩:ah).ob d=⟨v0,lf0,E0,gK,du⟩) :
  aD c ⟨t,ob⟩ d (.call { callee:=.builtin .append,args:=#[x,y],argTypes:=#[T,T] }) (.list sz (es++aG)) [(id,⟨ae,.dead,e,sz,es⟩),(d,⟨v0+1,.own,e,sz,es++aG⟩),(d,⟨v0+1,.dead,e,sz,es++aG⟩)]:=by
 have AP:pa ⟨t,ob⟩ (.own id ae 0 n) sz es (some id):=by
  have:=pa.own (s:=⟨t,ob⟩) id ae (by rw [hb]) (by rw [hb]) n (by rw [hb];exact hn);rw [hb] at this;exact this
 have:=aD.iP (c:=c) (s:=⟨t,ob⟩) (d:=d) (i:=some id) hT (by rw [he];exact TK.aB hk) (by rw [he];exact hp) x y hx rfl (by rw [he];exact AP) (fun k h=>by injection h with h;subst h;rw [hb]) (by rw [he];exact hy.ok) (by rw [he];exact aU) hm;rw [he] at this;simpa [VZ,VD hv,hb] using this
theorem zm0 {T Mz:Nat} {kk:TK} {z0 z1 g:FV} (hx:(⟨t,ob⟩:ah).ev x=f) (hy:(⟨t,ob⟩:ah).ev y=g) (h1:f.one=true) (h2:g.one=true) (hT:c.ty T=⟨.arr 2 e,2,c8,[z0,z1]⟩) (he:c.ty e=⟨kk,1,Mz,z⟩) (hk:kk.known=true) :
  aD c ⟨t,ob⟩ d (.build T #[(0,x),(1,y)]) (.agg [f,g]) []:=by
 refine .kH (n:=2) (e:=e) (by rw [hT]) (by rw [he];exact TK.aB hk) _ ?_;rw [hT,he];show Vo (fun i=>some (i * 1,1)) [z0,z1] [(0,(⟨t,ob⟩:ah).ev x),(1,(⟨t,ob⟩:ah).ev y)]=some [f,g];rw [hx,hy,WS (off:=0) (size:=1) rfl (by rw [YC h1];simpa using h1) (by rw [YC h1];rfl) zc,YC h1];rw [WS (off:=1) (size:=1) rfl (by rw [YC h2];simpa using h2) (by rw [YC h2];rfl) (by simp [av]),YC h2];rfl
end
section
variable {c:Ctx} {ops:Array Oper} {rest:List Oper} {t:List (Nat×FV)} {ob:List (Nat×zE)} {d:Nat} {ty:TypeId} {pos:String} {af:Array Edge} {g:Option (Nat×Bool)} {Q:ah→Prop} {QD:ah→List Rec→Prop} {tr:List Rec}
theorem fZ (hd:Nat.blt d c.N=true) (h:aD c s d op f wr):Ey c s ⟨some d,op,ty,pos,af,g⟩ f wr d:=
 ⟨.inl rfl,(fun _ e=>by injection e with e;subst e;exact zO hd),h⟩
theorem zyg (h:aD c s d (.store T x y) f wr):Ey c s ⟨none,.store T x y,ty,pos,af,g⟩ f wr d:=
 ⟨.inr ⟨rfl,.inl ⟨_,_,_,rfl⟩⟩,(fun _ e=>by cases e),h⟩
theorem zyh {z:Operand} (h:aD c s d (.mapUpdate T x y z) f wr):Ey c s ⟨none,.mapUpdate T x y z,ty,pos,af,g⟩ f wr d:=
 ⟨.inr ⟨rfl,.inr ⟨_,_,_,_,rfl⟩⟩,(fun _ e=>by cases e),h⟩
theorem zt.dN (h:aD c ⟨t,ob⟩ 0 (.store T x y) .undef [p]) (hw:ZB ops ⟨t,ob⟩ ⟨none,.store T x y,ty,pos,af,g⟩ true) (k:zt c ops rest ⟨t,p::ob⟩ Q):zt c ops (⟨none,.store T x y,ty,pos,af,g⟩::rest) ⟨t,ob⟩ Q:=zt.cons (f:=.undef) (wr:=[p]) (d:=0) (zyg h) hw rfl k
theorem zt.ai (h:aD c ⟨t,ob⟩ d op f []) (hd:Nat.blt d c.N=true) (hw:ZB ops ⟨t,ob⟩ ⟨some d,op,ty,pos,af,g⟩ true) (k:zt c ops rest ⟨(d,f)::t,ob⟩ Q):zt c ops (⟨some d,op,ty,pos,af,g⟩::rest) ⟨t,ob⟩ Q:=zt.cons (f:=f) (wr:=[]) (d:=d) (fZ hd h) hw rfl k
theorem zt.cL (h:aD c ⟨t,ob⟩ d op f [p]) (hd:Nat.blt d c.N=true) (hw:ZB ops ⟨t,ob⟩ ⟨some d,op,ty,pos,af,g⟩ true) (k:zt c ops rest ⟨(d,f)::t,p::ob⟩ Q):zt c ops (⟨some d,op,ty,pos,af,g⟩::rest) ⟨t,ob⟩ Q:=zt.cons (f:=f) (wr:=[p]) (d:=d) (fZ hd h) hw rfl k
theorem zt.Ap {q:Nat×zE} (h:aD c ⟨t,ob⟩ d op f [p,q]) (hd:Nat.blt d c.N=true) (hw:ZB ops ⟨t,ob⟩ ⟨some d,op,ty,pos,af,g⟩ true) (k:zt c ops rest ⟨(d,f)::t,q::p::ob⟩ Q):zt c ops (⟨some d,op,ty,pos,af,g⟩::rest) ⟨t,ob⟩ Q:=zt.cons (f:=f) (wr:=[p,q]) (d:=d) (fZ hd h) hw rfl k
theorem zR.dN (h:aD c ⟨t,ob⟩ 0 (.store T x y) .undef [p]) (hw:ZB ops ⟨t,ob⟩ ⟨none,.store T x y,ty,pos,af,g⟩ true) (k:zR c ops rest ⟨t,p::ob⟩ (tr++[⟨⟨none,.store T x y,ty,pos,af,g⟩,.undef,[p],VH ⟨t,ob⟩ 0 (.store T x y)⟩]) QD):zR c ops (⟨none,.store T x y,ty,pos,af,g⟩::rest) ⟨t,ob⟩ tr QD:=zR.cons (f:=.undef) (wr:=[p]) (d:=0) (zyg h) hw rfl rfl k
theorem zR.ai (h:aD c ⟨t,ob⟩ d op f []) (hd:Nat.blt d c.N=true) (hw:ZB ops ⟨t,ob⟩ ⟨some d,op,ty,pos,af,g⟩ true) (k:zR c ops rest ⟨(d,f)::t,ob⟩ (tr++[⟨⟨some d,op,ty,pos,af,g⟩,f,[],VH ⟨t,ob⟩ d op⟩]) QD):zR c ops (⟨some d,op,ty,pos,af,g⟩::rest) ⟨t,ob⟩ tr QD:=zR.cons (f:=f) (wr:=[]) (d:=d) (fZ hd h) hw rfl rfl k
theorem zR.cL (h:aD c ⟨t,ob⟩ d op f [p]) (hd:Nat.blt d c.N=true) (hw:ZB ops ⟨t,ob⟩ ⟨some d,op,ty,pos,af,g⟩ true) (k:zR c ops rest ⟨(d,f)::t,p::ob⟩ (tr++[⟨⟨some d,op,ty,pos,af,g⟩,f,[p],VH ⟨t,ob⟩ d op⟩]) QD):zR c ops (⟨some d,op,ty,pos,af,g⟩::rest) ⟨t,ob⟩ tr QD:=zR.cons (f:=f) (wr:=[p]) (d:=d) (fZ hd h) hw rfl rfl k
theorem zR.Ap {q:Nat×zE} (h:aD c ⟨t,ob⟩ d op f [p,q]) (hd:Nat.blt d c.N=true) (hw:ZB ops ⟨t,ob⟩ ⟨some d,op,ty,pos,af,g⟩ true) (k:zR c ops rest ⟨(d,f)::t,q::p::ob⟩ (tr++[⟨⟨some d,op,ty,pos,af,g⟩,f,[p,q],VH ⟨t,ob⟩ d op⟩]) QD):zR c ops (⟨some d,op,ty,pos,af,g⟩::rest) ⟨t,ob⟩ tr QD:=zR.cons (f:=f) (wr:=[p,q]) (d:=d) (fZ hd h) hw rfl rfl k
theorem zD (hx:lx t x=some f):aD c ⟨t,ob⟩ d (.move x) f []:=(by have:=aD.move (c:=c) (s:=⟨t,ob⟩) (d:=d) x;rwa [mW hx] at this)
theorem yj (hx:lx t x=some f):aD c ⟨t,ob⟩ d (.assign x) f []:=(by have:=aD.assign (c:=c) (s:=⟨t,ob⟩) (d:=d) x;rwa [mW hx] at this)
theorem H5 {q:Operand} (hq:(⟨t,ob⟩:ah).ev q=(.bool true)) (hx:lx t x=some f):aD c ⟨t,ob⟩ d (.pick q x y) f []:=(by have:=aD.pick (c:=c) (s:=⟨t,ob⟩) (d:=d) q x y hq;rw [if_pos rfl,mW hx] at this;exact this)
theorem H4 {q:Operand} (hq:(⟨t,ob⟩:ah).ev q=(.bool false)) (hx:lx t y=some f):aD c ⟨t,ob⟩ d (.pick q x y) f []:=(by have:=aD.pick (c:=c) (s:=⟨t,ob⟩) (d:=d) q x y hq;rw [if_neg zd,mW hx] at this;exact this)
theorem tI (hx:(⟨t,ob⟩:ah).ev x=.int .i64 m) (hy:(⟨t,ob⟩:ah).ev y=.int .i64 n) (hr:-9223372036854775808≤m+n∧m+n≤9223372036854775807):aD c ⟨t,ob⟩ d (.binOp .add T x y T2) (.int .i64 (m+n)) []:=(.dC .add T T2 x y hx hy (by simp only [dC];rw [DR _ hr]))
theorem LO (hx:(⟨t,ob⟩:ah).ev x=.int kk m) (hy:(⟨t,ob⟩:ah).ev y=.int kk n):aD c ⟨t,ob⟩ d (.binOp .add T x y T2) (.int kk (kk.wrap (m+n))) []:=(.dC .add T T2 x y hx hy rfl)
theorem Iv (hx:(⟨t,ob⟩:ah).ev x=.int .i64 m) (hy:(⟨t,ob⟩:ah).ev y=.int .i64 n) (hr:-9223372036854775808≤m - n∧m - n≤9223372036854775807):aD c ⟨t,ob⟩ d (.binOp .sub T x y T2) (.int .i64 (m - n)) []:=(.dC .sub T T2 x y hx hy (by simp only [dC];rw [DR _ hr]))
theorem zw9 (hx:(⟨t,ob⟩:ah).ev x=.int .i64 m) (hy:(⟨t,ob⟩:ah).ev y=.int .i64 n) (hr:-9223372036854775808≤m * n∧m * n≤9223372036854775807):aD c ⟨t,ob⟩ d (.binOp .mul T x y T2) (.int .i64 (m * n)) []:=(.dC .mul T T2 x y hx hy (by simp only [dC];rw [DR _ hr]))
theorem Ig (hx:(⟨t,ob⟩:ah).ev x=.int kk m) (hy:(⟨t,ob⟩:ah).ev y=.int kk n):aD c ⟨t,ob⟩ d (.binOp .mul T x y T2) (.int kk (kk.wrap (m * n))) []:=(.dC .mul T T2 x y hx hy rfl)
theorem Is (hx:(⟨t,ob⟩:ah).ev x=.int kk m) (hy:(⟨t,ob⟩:ah).ev y=.int kk n):aD c ⟨t,ob⟩ d (.binOp .eql T x y T2) (.bool (decide (m=n))) []:=(.dC .eql T T2 x y hx hy rfl)
theorem Iu (hx:(⟨t,ob⟩:ah).ev x=.int kk m) (hy:(⟨t,ob⟩:ah).ev y=.int kk n):aD c ⟨t,ob⟩ d (.binOp .neq T x y T2) (.bool (decide (m≠n))) []:=(.dC .neq T T2 x y hx hy (by simp only [dC];congr 2;by_cases h:m=n <;> simp [h,bne]))
theorem It (hx:(⟨t,ob⟩:ah).ev x=.int kk m) (hy:(⟨t,ob⟩:ah).ev y=.int kk n):aD c ⟨t,ob⟩ d (.binOp .lss T x y T2) (.bool (decide (m<n))) []:=(.dC .lss T T2 x y hx hy rfl)
theorem zw6 (hx:(⟨t,ob⟩:ah).ev x=.int kk m) (hy:(⟨t,ob⟩:ah).ev y=.int kk n):aD c ⟨t,ob⟩ d (.binOp .leq T x y T2) (.bool (decide (m≤n))) []:=(.dC .leq T T2 x y hx hy rfl)
theorem L9 (hx:(⟨t,ob⟩:ah).ev x=.int kk m) (hy:(⟨t,ob⟩:ah).ev y=.int kk n):aD c ⟨t,ob⟩ d (.binOp .gtr T x y T2) (.bool (decide (m > n))) []:=(.dC .gtr T T2 x y hx hy rfl)
theorem Sd (hx:(⟨t,ob⟩:ah).ev x=.int kk m) (hy:(⟨t,ob⟩:ah).ev y=.int kk n):aD c ⟨t,ob⟩ d (.binOp .geq T x y T2) (.bool (decide (m≥n))) []:=(.dC .geq T T2 x y hx hy rfl)
theorem zvV {m n:Bool} (hx:(⟨t,ob⟩:ah).ev x=.bool m) (hy:(⟨t,ob⟩:ah).ev y=.bool n) (hT:(c.ty T).k=.bool):aD c ⟨t,ob⟩ d (.binOp .neq T x y T2) (.bool (decide (m≠n))) []:=(by have:=aD.uf (c:=c) (s:=⟨t,ob⟩) (d:=d) .neq (T2:=T2) x y hT hx hy zc;cases m <;> cases n <;> exact this)
theorem Se (hx:(⟨t,ob⟩:ah).ev x=.int .i64 m) (hy:(⟨t,ob⟩:ah).ev y=.int .i64 n) (hr:0≤m∧m≤9223372036854775807∧0<n):aD c ⟨t,ob⟩ d (.binOp .quo T x y T2) (.int .i64 (m / n)) []:=(by have:=aD.pS (c:=c) (s:=⟨t,ob⟩) (d:=d) .quo T T2 x y hx hy za (.inl rfl);rw [if_pos rfl,Rp hr.1,DR _ ⟨by have:=Int.ediv_nonneg hr.1 (Int.le_of_lt hr.2.2);omega,by have:=Int.ediv_le_self n hr.1;omega⟩] at this;exact this)
theorem Sf (hx:(⟨t,ob⟩:ah).ev x=.int .i64 m) (hy:(⟨t,ob⟩:ah).ev y=.int .i64 n) (hr:0≤m∧0<n):aD c ⟨t,ob⟩ d (.binOp .rem T x y T2) (.int .i64 (m % n)) []:=(by have:=aD.pS (c:=c) (s:=⟨t,ob⟩) (d:=d) .rem T T2 x y hx hy za (.inr rfl);rw [if_neg zd,znU hr.1] at this;exact this)
theorem zvW (hx:(⟨t,ob⟩:ah).ev x=.int kk m) (hy:(⟨t,ob⟩:ah).ev y=.int kk n) (hr:n≠0):aD c ⟨t,ob⟩ d (.binOp .quo T x y T2) (.int kk (kk.wrap (m.tdiv n))) []:=(by have:=aD.pS (c:=c) (s:=⟨t,ob⟩) (d:=d) .quo T T2 x y hx hy hr (.inl rfl);rwa [if_pos rfl] at this)
theorem Ma (hx:(⟨t,ob⟩:ah).ev x=.bool b):aD c ⟨t,ob⟩ d (.unOp .not T x) (.bool (!b)) []:=(.not T x hx)
theorem zui (hx:(⟨t,ob⟩:ah).ev x=.int kk n) (hT:(c.ty T).k.known=true) (ri:(c.ty T2).k=.int .u64) (hr:0≤n∧n≤18446744073709551615):aD c ⟨t,ob⟩ d (.convert T T2 x) (.int .u64 n) []:=(by have:=aD.conv (c:=c) (s:=⟨t,ob⟩) (d:=d) (TK.aB hT) ri x hx;rwa [zvg hr] at this)
theorem zuh (hx:(⟨t,ob⟩:ah).ev x=.int kk n) (hT:(c.ty T).k.known=true) (ri:(c.ty T2).k=.int .i64) (hr:-9223372036854775808≤n∧n≤9223372036854775807):aD c ⟨t,ob⟩ d (.convert T T2 x) (.int .i64 n) []:=(by have:=aD.conv (c:=c) (s:=⟨t,ob⟩) (d:=d) (TK.aB hT) ri x hx;rwa [DR _ hr] at this)
theorem zxx {yk:IntKind} (hx:(⟨t,ob⟩:ah).ev x=.int kk m) (hy:(⟨t,ob⟩:ah).ev y=.int yk n) (hn:0≤n) (hd:Nat.blt d c.N=true) (hw:ZB ops ⟨t,ob⟩ ⟨some d,.binOp .shl T x y T2,ty,pos,af,g⟩ true) (k:zR c ops rest ⟨((d,(.int kk (kk.wrap (m * 2 ^ (min n.toNat kk.bits)))))::t),ob⟩ (tr++[⟨⟨some d,.binOp .shl T x y T2,ty,pos,af,g⟩,(.int kk (kk.wrap (m * 2 ^ (min n.toNat kk.bits)))),[],VH ⟨t,ob⟩ d (.binOp .shl T x y T2)⟩]) QD):zR c ops (⟨some d,.binOp .shl T x y T2,ty,pos,af,g⟩::rest) ⟨t,ob⟩ tr QD:=
 zR.cons (f:=(.int kk (kk.wrap (m * 2 ^ (min n.toNat kk.bits))))) (wr:=[]) (d:=d) (fZ hd (by have:=aD.shift (c:=c) (s:=⟨t,ob⟩) (d:=d) .shl T T2 x y hx hy hn (.inl rfl);simpa using this)) hw rfl rfl k
theorem D3 {yk:IntKind} (hx:(⟨t,ob⟩:ah).ev x=.int kk m) (hy:(⟨t,ob⟩:ah).ev y=.int yk n) (hn:0≤n):aD c ⟨t,ob⟩ d (.binOp .shr T x y T2) (.int kk (m.fdiv (2 ^ (min n.toNat kk.bits)))) []:=(by have:=aD.shift (c:=c) (s:=⟨t,ob⟩) (d:=d) .shr T T2 x y hx hy hn (.inr rfl);simpa using this)
theorem Kv (hx:(⟨t,ob⟩:ah).ev x=.int kk m) (hy:(⟨t,ob⟩:ah).ev y=.int kk n):aD c ⟨t,ob⟩ d (.binOp .and T x y T2) (.int kk (kk.wrap (BitVec.ofInt kk.bits m &&& BitVec.ofInt kk.bits n).toNat)) []:=(.dC .and T T2 x y hx hy rfl)
theorem zod (hx:(⟨t,ob⟩:ah).ev x=.int kk m) (hy:(⟨t,ob⟩:ah).ev y=.int kk n):aD c ⟨t,ob⟩ d (.binOp .or T x y T2) (.int kk (kk.wrap (BitVec.ofInt kk.bits m ||| BitVec.ofInt kk.bits n).toNat)) []:=(.dC .or T T2 x y hx hy rfl)
theorem zw8 {T T2:TypeId} (hx:(⟨t,ob⟩:ah).ev x=.int kk m) (hy:(⟨t,ob⟩:ah).ev y=.int kk n):aD c ⟨t,ob⟩ d (.call { callee:=.builtin .min,args:=#[x,y],argTypes:=#[T,T2] }) (.int kk (min m n)) []:=(by have:=aD.min2 (c:=c) (s:=⟨t,ob⟩) (d:=d) .min T T2 x y hx hy (.inl rfl);rw [if_pos rfl] at this;rwa [show min m n=if n<m then n else m by split <;> omega])
theorem zw7 {T T2:TypeId} (hx:(⟨t,ob⟩:ah).ev x=.int kk m) (hy:(⟨t,ob⟩:ah).ev y=.int kk n):aD c ⟨t,ob⟩ d (.call { callee:=.builtin .max,args:=#[x,y],argTypes:=#[T,T2] }) (.int kk (max m n)) []:=(by have:=aD.min2 (c:=c) (s:=⟨t,ob⟩) (d:=d) .max T T2 x y hx hy (.inr rfl);rw [if_neg zd] at this;rwa [show max m n=if m<n then n else m by split <;> omega])
theorem Kw {T n:Nat} {id:Nat} (hx:(⟨t,ob⟩:ah).ev x=.own id ae o n) (hT:(c.ty T).k=.slice e) (hb:(⟨t,ob⟩:ah).ob id=⟨ae,lf,E,sz,es⟩) (hl:lf≠.dead):aD c ⟨t,ob⟩ d (.call { callee:=.builtin .len,args:=#[x],argTypes:=#[T] }) (.int .i64 n) []:=(.k9 hT x hx (yI hb hl))
theorem XJ {e:TypeId} {n:Nat} (hx:(⟨t,ob⟩:ah).ev x=.list sz es) (hT:(c.ty T).k=.slice e) (hn:es.length=n):aD c ⟨t,ob⟩ d (.call { callee:=.builtin .len,args:=#[x],argTypes:=#[T] }) (.int .i64 n) []:=(hn▸.jf hT x hx)
theorem zrD {e:TypeId} (hx:(⟨t,ob⟩:ah).ev x=.nil) (hT:(c.ty T).k=.slice e):aD c ⟨t,ob⟩ d (.call { callee:=.builtin .len,args:=#[x],argTypes:=#[T] }) (.int .i64 0) []:=(.k8 hT x hx)
theorem Zl {T ft z:Nat} {id:Nat} (hx:(⟨t,ob⟩:ah).ev x=.ptr id ae j o) (hT:(c.ty T).k=.aQ fs) (hf:fs[i]? = some (off,ft)) (hk:(c.ty ft).k.known=true) (hz:(c.ty ft).size=z+1) (hb:(⟨t,ob⟩:ah).ob id=⟨ae,lf,E,sz,es⟩) (hl:lf≠.dead):aD c ⟨t,ob⟩ d (.fieldAddr T x i) (.ptr id ae j (o+off)) []:=(.gv hT hf (TK.aB hk) za x hx (yI hb hl))
theorem Xw {T ft z:Nat} (hx:(⟨t,ob⟩:ah).ev x=.ax sz es j o) (hT:(c.ty T).k=.aQ fs) (hf:fs[i]? = some (off,ft)) (hk:(c.ty ft).k.known=true) (hz:(c.ty ft).size=z+1):aD c ⟨t,ob⟩ d (.fieldAddr T x i) (.ax sz es j (o+off)) []:=(.fD hT hf (TK.aB hk) za x hx)
theorem Yc {T:Nat} {n:Nat} (hx:(⟨t,ob⟩:ah).ev x=.list sz es) (hy:(⟨t,ob⟩:ah).ev y=.int kk m) (hm:m=(n:Int)) (hT:(c.ty T).k=.slice e) (hk:(c.ty e).k.known=true) (hz:(c.ty e).size=sz) (hn:n<es.length):aD c ⟨t,ob⟩ d (.indexAddr T x y) (.ax sz es n 0) []:=(by subst hm;exact .fG hT (TK.aB hk) x y hx hz hy hn)
theorem yL {T p:Nat} {n:Nat} {id:Nat} (hx:(⟨t,ob⟩:ah).ev x=.own id ae 0 p) (hy:(⟨t,ob⟩:ah).ev y=.int kk m) (hm:m=(n:Int)) (hT:(c.ty T).k=.slice e) (hk:(c.ty e).k.known=true) (hb:(⟨t,ob⟩:ah).ob id=⟨ae,lf,E,sz,es⟩) (hl:lf≠.dead) (hz:(c.ty e).size=sz) (hn:n<p):aD c ⟨t,ob⟩ d (.indexAddr T x y) (.ptr id ae n 0) []:=(by subst hm;have:=aD.fA (c:=c) (s:=⟨t,ob⟩) (d:=d) hT (TK.aB hk) x y hx (yI hb hl) (by rw [hb];exact hz) hy hn;rwa [yh] at this)
theorem PJ {T p:Nat} {n:Nat} {id:Nat} (hx:(⟨t,ob⟩:ah).ev x=.own id ae o p) (hy:(⟨t,ob⟩:ah).ev y=.int kk m) (hm:m=(n:Int)) (hT:(c.ty T).k=.slice e) (hk:(c.ty e).k.known=true) (hb:(⟨t,ob⟩:ah).ob id=⟨ae,lf,E,sz,es⟩) (hl:lf≠.dead) (hz:(c.ty e).size=sz) (hn:n<p):aD c ⟨t,ob⟩ d (.indexAddr T x y) (.ptr id ae (o+n) 0) []:=(by subst hm;exact aD.fA (c:=c) (s:=⟨t,ob⟩) (d:=d) hT (TK.aB hk) x y hx (yI hb hl) (by rw [hb];exact hz) hy hn)
theorem Yf {tk:TK} {T q z:Nat} {n:Nat} {id:Nat} (hx:(⟨t,ob⟩:ah).ev x=.ptr id ae j o) (hy:(⟨t,ob⟩:ah).ev y=.int kk m) (hm:m=(n:Int)) (hT:(c.ty T).k=.arr q e) (he:c.ty e=⟨tk,z,c8,ze⟩) (hk:tk.known=true) (hb:(⟨t,ob⟩:ah).ob id=⟨ae,lf,E,sz,es⟩) (hl:lf≠.dead) (hn:n<q):aD c ⟨t,ob⟩ d (.indexAddr T x y) (.ptr id ae j (o+n * z)) []:=(by subst hm;have:=aD.fF (c:=c) (s:=⟨t,ob⟩) (d:=d) hT (by rw [he];exact TK.aB hk) x y hx (yI hb hl) hy hn;rw [he] at this;exact this)
theorem yX {T:Nat} (hx:(⟨t,ob⟩:ah).ev x=.ax sz es j o) (hk:(c.ty T).k.bD = some false) (hz:(c.ty T).size=1) (hj:j<es.length) (bk:es.getD j []=cs) (ch:cs.length=sz) (hf:cs[o]? = some f):aD c ⟨t,ob⟩ d (.load T x) f []:=(by have h1:=zih hf;have:=aD.fB (c:=c) (s:=⟨t,ob⟩) (d:=d) hk x hx hj za za;rw [bk] at this;unfold UG at this;rw [hk] at this;dsimp only at this;rw [h1.2] at this;exact this)
theorem xC {T:Nat} {id:Nat} (hx:(⟨t,ob⟩:ah).ev x=.ptr id ae j o) (hk:(c.ty T).k.bD = some false) (hz:(c.ty T).size=1) (hb:(⟨t,ob⟩:ah).ob id=⟨ae,lf,E,sz,es⟩) (hl:lf.row=true) (hj:j<es.length) (bk:es.getD j []=cs) (ch:cs.length=sz) (hf:cs[o]? = some f):aD c ⟨t,ob⟩ d (.load T x) f []:=(by have h1:=zih hf;have:=aD.gF (c:=c) (s:=⟨t,ob⟩) (d:=d) hk x hx (yI hb (Zn.fW hl)) (by rw [hb];exact hl) (by rw [hb];exact hj) (by rw [hb];dsimp only;omega) (by rw [hb];dsimp only;omega);rw [hb] at this;dsimp only at this;rw [bk] at this;unfold UG at this;rw [hk] at this;dsimp only at this;rw [h1.2] at this;exact this)
theorem PX {T:Nat} {kk:TK} (hx:(⟨t,ob⟩:ah).ev x=.ax sz es j 0) (hT:c.ty T=⟨kk,sz,c8,ze⟩) (hk:kk.bD = some true) (hp:0<sz) (hj:j<es.length) (bk:es.getD j []=cs) (ch:cs.length=sz):aD c ⟨t,ob⟩ d (.load T x) (.agg cs) []:=(zpE hx hT hk hp hj bk ch)
theorem K7 {T:Nat} {kk:TK} {id:Nat} (hx:(⟨t,ob⟩:ah).ev x=.ptr id ae j 0) (hT:c.ty T=⟨kk,sz,c8,ze⟩) (hk:kk.bD = some true) (hp:0<sz) (hb:(⟨t,ob⟩:ah).ob id=⟨ae,lf,E,sz,es⟩) (hl:lf.row=true) (hj:j<es.length) (bk:es.getD j []=cs) (ch:cs.length=sz):aD c ⟨t,ob⟩ d (.load T x) (.agg cs) []:=(zpF hx hT hk hp hb hl hj bk ch)
theorem zk6 {T id:Nat} (hx:(⟨t,ob⟩:ah).ev x=.ptr id ae 0 o) (hy:lx t y=some f) (h1:f.one=true) (hk:(c.ty T).k.known=true) (hz:(c.ty T).size=1) (hb:(⟨t,ob⟩:ah).ob id=⟨ae,.own,E,sz,[cs]⟩) (ch:cs.length=sz) (ho:Nat.blt o sz=true):aD c ⟨t,ob⟩ 0 (.store T x y) .undef [(id,⟨ae,.own,E,sz,[cs.set o f]⟩)]:=(zpH hx (mW hy) h1 hk hz hb ch ho)
theorem Vn {T id:Nat} (hx:(⟨t,ob⟩:ah).ev x=.ptr id ae j o) (hy:lx t y=some f) (h1:f.one=true) (hk:(c.ty T).k.known=true) (hz:(c.ty T).size=1) (hb:(⟨t,ob⟩:ah).ob id=⟨ae,.own,E,sz,es⟩) (hj:j<es.length) (bk:es.getD j []=cs) (ch:cs.length=sz) (ho:Nat.blt o sz=true):aD c ⟨t,ob⟩ 0 (.store T x y) .undef [(id,⟨ae,.own,E,sz,es.set j (cs.set o f)⟩)]:=(zpG hx (mW hy) h1 hk hz hb hj bk ch ho)
theorem PA {T id:Nat} {fs:List FV} (hx:(⟨t,ob⟩:ah).ev x=.ptr id ae 0 0) (hy:(⟨t,ob⟩:ah).ev y=.agg fs) (h1:fs.all FV.one=true) (hk:(c.ty T).k.known=true) (hz:(c.ty T).size=sz) (hb:(⟨t,ob⟩:ah).ob id=⟨ae,.own,E,sz,[cs]⟩) (ch:cs.length=sz) (cu:fs.length=sz):aD c ⟨t,ob⟩ 0 (.store T x y) .undef [(id,⟨ae,.own,E,sz,[fs]⟩)]:=(zm1 hx hy h1 hk hz hb ch cu)
theorem Lv {T:Nat} {kk:TK} (hT:c.ty T=⟨kk,sz,c8,z⟩) (hk:kk.known=true) (hz:z.all FV.one=true) (hl:z.length=sz) (hv:(⟨t,ob⟩:ah).ob d=⟨v0,lf0,E0,gK,du⟩):aD c ⟨t,ob⟩ d (.alloc T) (.ptr d (v0+1) 0 0) [(d,⟨v0+1,.own,T,sz,[z]⟩)]:=(by have:=aD.alloc (c:=c) (s:=⟨t,ob⟩) (d:=d) (T:=T) (by rw [hT];exact TK.aB hk) (by rw [hT];exact hz);rw [hT,VD hv] at this;dsimp only at this;rw [hl] at this;exact this)
theorem zry {T:Nat} {kk:TK} {fs:List FV} (hx:(⟨t,ob⟩:ah).ev x=.agg fs) (hT:c.ty T=⟨kk,sz,c8,z⟩) (h1:fs.all FV.one=true) (hl:fs.length=sz) (hv:(⟨t,ob⟩:ah).ob d=⟨v0,lf0,E0,gK,du⟩):aD c ⟨t,ob⟩ d (.box T x) (.ptr d (v0+1) 0 0) [(d,⟨v0+1,.own,T,sz,[fs]⟩)]:=(by have:=aD.box (c:=c) (s:=⟨t,ob⟩) (d:=d) (T:=T) x hx h1;rw [VD hv] at this;dsimp only [FV.cells] at this;rw [hl] at this;exact this)
theorem LY {T:Nat} (hx:lx t x=some f) (h1:f.one=true) (hv:(⟨t,ob⟩:ah).ob d=⟨v0,lf0,E0,gK,du⟩) (hd:Nat.blt d c.N=true) (hw:ZB ops ⟨t,ob⟩ ⟨some d,.box T x,ty,pos,af,g⟩ true) (k:zt c ops rest ⟨((d,(.ptr d (v0+1) 0 0))::t),((d,⟨v0+1,.own,T,1,[[f]]⟩)::ob)⟩ Q):zt c ops (⟨some d,.box T x,ty,pos,af,g⟩::rest) ⟨t,ob⟩ Q:=
 zt.cons (fZ hd (zuj (mW hx) h1 hv)) hw rfl k
theorem zuY {T:Nat} (hT:c.ty T=⟨.aQ fs,sz,c8,z⟩) (hk:fs.all (fun p=>(c.ty p.2).k.known)=true) (hf:tS c ⟨t,ob⟩ fs z ps cs) (hd:Nat.blt d c.N=true) (hw:ZB ops ⟨t,ob⟩ ⟨some d,.build T ps.toArray,ty,pos,af,g⟩ true) (k:zt c ops rest ⟨((d,(.agg cs))::t),ob⟩ Q):zt c ops (⟨some d,.build T ps.toArray,ty,pos,af,g⟩::rest) ⟨t,ob⟩ Q:=
 zt.cons (fZ hd (.build (by rw [hT]) (fun p hp=>TK.aB (zL.1 hk p hp)) ps.toArray (by rw [hT];exact hf.get))) hw rfl k
theorem zuU {T:Nat} (hT:c.ty T=⟨.aQ fs,sz,c8,z⟩) (hk:fs.all (fun p=>(c.ty p.2).k.known)=true) (hf:tS c ⟨t,ob⟩ fs z ps cs) (hd:Nat.blt d c.N=true) (hw:ZB ops ⟨t,ob⟩ ⟨some d,.build T ps.toArray,ty,pos,af,g⟩ true) (k:zR c ops rest ⟨((d,(.agg cs))::t),ob⟩ (tr++[⟨⟨some d,.build T ps.toArray,ty,pos,af,g⟩,(.agg cs),[],VH ⟨t,ob⟩ d (.build T ps.toArray)⟩]) QD):zR c ops (⟨some d,.build T ps.toArray,ty,pos,af,g⟩::rest) ⟨t,ob⟩ tr QD:=
 zR.cons (fZ hd (.build (by rw [hT]) (fun p hp=>TK.aB (zL.1 hk p hp)) ps.toArray (by rw [hT];exact hf.get))) hw rfl rfl k
theorem Vy {T n:Nat} {kk:TK} (hT:(c.ty T).k=.slice e) (he:c.ty e=⟨kk,sz,c8,z⟩) (hk:kk.known=true) (hf:Xi ⟨t,ob⟩ sz 0 ps es) (hn:ps.length=n) (hm:Nat.ble (n * sz) 16777216=true) (oM:Nat.ble n 16777216=true) (hv:(⟨t,ob⟩:ah).ob d=⟨v0,lf0,E0,gK,du⟩) (hd:Nat.blt d c.N=true) (hw:ZB ops ⟨t,ob⟩ ⟨some d,.buildSlice T n ps.toArray,ty,pos,af,g⟩ true) (k:zt c ops rest ⟨((d,(.own d (v0+1) 0 n))::t),((d,⟨v0+1,.own,e,sz,es⟩)::ob)⟩ Q):zt c ops (⟨some d,.buildSlice T n ps.toArray,ty,pos,af,g⟩::rest) ⟨t,ob⟩ Q:=
 zt.cons (f:=(.own d (v0+1) 0 n)) (wr:=[(d,⟨v0+1,.own,e,sz,es⟩)]) (d:=d) (fZ hd (by subst hn;obtain ⟨l1,l2,l3⟩:=hf.len;have dO:=hf.fill [] zc;have:=aD.buildSlice (c:=c) (s:=⟨t,ob⟩) (d:=d) (n:=ps.length) hT (by rw [he];exact TK.aB hk) ps.toArray es l1 (by rw [he];exact l2) l3 (by rw [he];exact zO hm) (zO oM) (by rw [he];simpa [ah.parts] using dO);rw [VD hv,he] at this;exact this)) hw rfl k
theorem UK {T n:Nat} {kk:TK} (hT:(c.ty T).k=.slice e) (he:c.ty e=⟨kk,sz,c8,z⟩) (hk:kk.known=true) (hf:Xi ⟨t,ob⟩ sz 0 ps es) (hn:ps.length=n) (hm:Nat.ble (n * sz) 16777216=true) (oM:Nat.ble n 16777216=true) (hd:Nat.blt d c.N=true) (hw:ZB ops ⟨t,ob⟩ ⟨some d,.buildSlice T n ps.toArray,ty,pos,af,g⟩ true) (k:zt c ops rest ⟨((d,(.list sz es))::t),ob⟩ Q):zt c ops (⟨some d,.buildSlice T n ps.toArray,ty,pos,af,g⟩::rest) ⟨t,ob⟩ Q:=
 zt.cons (f:=(.list sz es)) (wr:=[]) (d:=d) (fZ hd (by subst hn;obtain ⟨l1,l2,l3⟩:=hf.len;have dO:=hf.fill [] zc;have:=aD.dt (c:=c) (s:=⟨t,ob⟩) (d:=d) (n:=ps.length) hT (by rw [he];exact TK.aB hk) ps.toArray es l1 (by rw [he];exact l2) l3 (by rw [he];exact zO hm) (zO oM) (by rw [he];simpa [ah.parts] using dO);rw [he] at this;exact this)) hw rfl k
theorem zqr {T n:Nat} {kk:TK} (hT:(c.ty T).k=.slice e) (he:c.ty e=⟨kk,sz,c8,z⟩) (hk:kk.known=true) (hf:Xi ⟨t,ob⟩ sz 0 ps es) (hn:ps.length=n) (hm:Nat.ble (n * sz) 16777216=true) (oM:Nat.ble n 16777216=true) (hd:Nat.blt d c.N=true) (hw:ZB ops ⟨t,ob⟩ ⟨some d,.buildSlice T n ps.toArray,ty,pos,af,g⟩ true) (k:zR c ops rest ⟨((d,(.list sz es))::t),ob⟩ (tr++[⟨⟨some d,.buildSlice T n ps.toArray,ty,pos,af,g⟩,(.list sz es),[],VH ⟨t,ob⟩ d (.buildSlice T n ps.toArray)⟩]) QD):zR c ops (⟨some d,.buildSlice T n ps.toArray,ty,pos,af,g⟩::rest) ⟨t,ob⟩ tr QD:=
 zR.cons (f:=(.list sz es)) (wr:=[]) (d:=d) (fZ hd (by subst hn;obtain ⟨l1,l2,l3⟩:=hf.len;have dO:=hf.fill [] zc;have:=aD.dt (c:=c) (s:=⟨t,ob⟩) (d:=d) (n:=ps.length) hT (by rw [he];exact TK.aB hk) ps.toArray es l1 (by rw [he];exact l2) l3 (by rw [he];exact zO hm) (zO oM) (by rw [he];simpa [ah.parts] using dO);rw [he] at this;exact this)) hw rfl rfl k
theorem zpy {T:Nat} {kk:TK} (hT:(c.ty T).k=.slice e) (he:c.ty e=⟨kk,sz,c8,z⟩) (hk:kk.known=true) (hv:(⟨t,ob⟩:ah).ob d=⟨v0,lf0,E0,gK,du⟩):aD c ⟨t,ob⟩ d (.buildSlice T 0 #[]) (.own d (v0+1) 0 0) [(d,⟨v0+1,.own,e,sz,[]⟩)]:=(by have:=aD.buildSlice (c:=c) (s:=⟨t,ob⟩) (d:=d) (n:=0) hT (by rw [he];exact TK.aB hk) #[] [] rfl zc zc zc zc (by simp [ah.parts,Vo]);rw [VD hv,he] at this;exact this)
theorem Ye {T:Nat} {kk:TK} (hx:lx t x=some f) (h1:f.one=true) (hT:(c.ty T).k=.slice e) (he:c.ty e=⟨kk,1,c8,z⟩) (hk:kk.known=true) (hv:(⟨t,ob⟩:ah).ob d=⟨v0,lf0,E0,gK,du⟩):aD c ⟨t,ob⟩ d (.buildSlice T 1 #[(0,x)]) (.own d (v0+1) 0 1) [(d,⟨v0+1,.own,e,1,[[f]]⟩)]:=(by have hf:Xi ⟨t,ob⟩ 1 0 [(0,x)] [[f]]:=Xi.one (mW hx) (YC h1) h1 rfl .nil;obtain ⟨l1,l2,l3⟩:=hf.len;have dO:=hf.fill [] zc;have:=aD.buildSlice (c:=c) (s:=⟨t,ob⟩) (d:=d) (n:=1) hT (by rw [he];exact TK.aB hk) #[(0,x)] [[f]] l1 (by rw [he];exact l2) l3 (by rw [he];exact by simp) zd (by rw [he];simpa [ah.parts] using dO);rw [VD hv,he] at this;exact this)
theorem Y5 {T:Nat} {kk:TK} (hx:(⟨t,ob⟩:ah).ev x=(.agg cs)) (hT:(c.ty T).k=.slice e) (he:c.ty e=⟨kk,sz,c8,z⟩) (hk:kk.known=true) (h1:cs.all FV.one=true) (hl:cs.length=sz) (hm:Nat.ble (1 * sz) 16777216=true) (hv:(⟨t,ob⟩:ah).ob d=⟨v0,lf0,E0,gK,du⟩):aD c ⟨t,ob⟩ d (.buildSlice T 1 #[(0,x)]) (.own d (v0+1) 0 1) [(d,⟨v0+1,.own,e,sz,[cs]⟩)]:=(by have hf:Xi ⟨t,ob⟩ sz 0 [(0,x)] [cs]:=Xi.agg hx h1 hl .nil;obtain ⟨l1,l2,l3⟩:=hf.len;have dO:=hf.fill [] zc;have:=aD.buildSlice (c:=c) (s:=⟨t,ob⟩) (d:=d) (n:=1) hT (by rw [he];exact TK.aB hk) #[(0,x)] [cs] l1 (by rw [he];exact l2) l3 (by rw [he];exact zO hm) zd (by rw [he];simpa [ah.parts] using dO);rw [VD hv,he] at this;exact this)
theorem LP {T n:Nat} {m1 m2:Int} {k1 k2:IntKind} {kk:TK} (hx:(⟨t,ob⟩:ah).ev x=.int k1 m1) (Bj:m1=(n:Int)) (hy:(⟨t,ob⟩:ah).ev y=.int k2 m2) (oM:m2=(n:Int)) (hT:(c.ty T).k=.slice e) (he:c.ty e=⟨kk,sz,c8,z⟩) (hk:kk.known=true) (hz:z.all FV.one=true) (hb:c8 * n≤281474976710656) (hn:n≤281474976710656) (hv:(⟨t,ob⟩:ah).ob d=⟨v0,lf0,E0,gK,du⟩):aD c ⟨t,ob⟩ d (.makeSlice T x y) (.own d (v0+1) 0 n) [(d,⟨v0+1,.own,e,sz,List.replicate n z⟩)]:=(by subst Bj;subst oM;have:=aD.makeSlice (c:=c) (s:=⟨t,ob⟩) (d:=d) (n:=n) hT (by rw [he];exact TK.aB hk) x y hx hy (by rw [he];exact hz) (by rw [he];exact hb) hn;rw [he,VD hv] at this;exact this)
theorem zk5 {T u m:Nat} {lo hi:Option Operand} {id:Nat} (hx:(⟨t,ob⟩:ah).ev x=.own id ae o m) (hT:(c.ty T).k=.slice e) (hk:(c.ty e).k.known=true) (hb:(⟨t,ob⟩:ah).ob id=⟨ae,lf,E,sz,es⟩) (hl:lf≠.dead) (hz:(c.ty e).size=sz) (gA:qo ⟨t,ob⟩ lo l) (gz:ql ⟨t,ob⟩ hi m u) (h1:l≤u) (h2:u≤m):aD c ⟨t,ob⟩ d (.slice T x lo hi none) (.own id ae (o+l) (u - l)) []:=(.gJ hT (TK.aB hk) x lo hi hx (yI hb hl) (by rw [hb];exact hz) gA.ok gz.ok h1 h2)
theorem Kt {fs:List FV} (hx:(⟨t,ob⟩:ah).ev x=.bd fs) (hf:fs[i]? = some f) (hh:f.hand=none):aD c ⟨t,ob⟩ d (.extract x i) f []:=(.extract x hx hf hh)
theorem DK {id:Nat} (hx:(⟨t,ob⟩:ah).ev x=.ptr id ae i o) (hb:(⟨t,ob⟩:ah).ob id=⟨ae,lf,E,sz,es⟩) (hl:lf≠.dead):aD c ⟨t,ob⟩ d (.nilCheck x) (.ptr id ae i o) []:=(.la x hx (yI hb hl))
theorem wY (hx:(⟨t,ob⟩:ah).ev x=.ax sz es i o):aD c ⟨t,ob⟩ d (.nilCheck x) (.ax sz es i o) []:=(.ji x hx)
theorem zrx {T:Nat} {kk:TK} (hx:(⟨t,ob⟩:ah).ev x=.nil) (hT:(c.ty T).k=.slice e) (he:c.ty e=⟨kk,sz,c8,z⟩) (hk:kk.known=true) (hp:0<sz) (hy:WE t ob y sz es) (aU:es.length * c8≤140737488355328) (hm:es.length≤140737488355328) (hv:(⟨t,ob⟩:ah).ob d=⟨v0,lf0,E0,gK,du⟩):aD c ⟨t,ob⟩ d (.call { callee:=.builtin .append,args:=#[x,y],argTypes:=#[T,T] }) (.own d (v0+1) 0 es.length) [(d,⟨v0+1,.own,e,sz,es⟩)]:=(by have:=aD.append (c:=c) (s:=⟨t,ob⟩) (d:=d) hT (by rw [he];exact TK.aB hk) (by rw [he];exact hp) x y hx rfl (.nil _) (fun _ h=>by cases h) (by rw [he];exact hy.ok) (by rw [he];simpa using aU) (by simpa using hm);rw [he] at this;simpa [VZ,VD hv] using this)
theorem zs8 {T id n:Nat} {kk:TK} (hx:(⟨t,ob⟩:ah).ev x=.own id ae 0 n) (hb:(⟨t,ob⟩:ah).ob id=⟨ae,.own,e,sz,es⟩) (hn:n=es.length) (hT:(c.ty T).k=.slice e) (he:c.ty e=⟨kk,sz,c8,z⟩) (hk:kk.known=true) (hp:0<sz) (hy:WE t ob y sz aG) (aU:(es.length+aG.length) * c8≤140737488355328) (hm:es.length+aG.length≤140737488355328) (hv:(⟨t,ob⟩:ah).ob d=⟨v0,lf0,E0,gK,du⟩) (hd:Nat.blt d c.N=true) (hw:ZB ops ⟨t,ob⟩ ⟨some d,.call { callee:=.builtin .append,args:=#[x,y],argTypes:=#[T,T] },ty,pos,af,g⟩ true) (k:zt c ops rest ⟨((d,(.own d (v0+1) 0 (es++aG).length))::t),((d,⟨v0+1,.own,e,sz,es++aG⟩)::(id,⟨ae,.dead,e,sz,es⟩)::ob)⟩ Q):zt c ops (⟨some d,.call { callee:=.builtin .append,args:=#[x,y],argTypes:=#[T,T] },ty,pos,af,g⟩::rest) ⟨t,ob⟩ Q:=
 zt.cons (fZ hd (zog hx hb hn hT he hk hp hy aU hm hv)) hw rfl k
theorem LX {T id n:Nat} {kk:TK} (hx:(⟨t,ob⟩:ah).ev x=.own id ae 0 n) (hb:(⟨t,ob⟩:ah).ob id=⟨ae,.own,e,sz,es⟩) (hn:n=es.length) (hT:(c.ty T).k=.slice e) (he:c.ty e=⟨kk,sz,c8,z⟩) (hk:kk.known=true) (hp:0<sz) (hy:WE t ob y sz aG) (aU:(es.length+aG.length) * c8≤140737488355328) (hm:es.length+aG.length≤140737488355328) (hv:(⟨t,ob⟩:ah).ob d=⟨v0,lf0,E0,gK,du⟩) (hd:Nat.blt d c.N=true) (hw:ZB ops ⟨t,ob⟩ ⟨some d,.call { callee:=.builtin .append,args:=#[x,y],argTypes:=#[T,T] },ty,pos,af,g⟩ true) (k:zR c ops rest ⟨((d,(.own d (v0+1) 0 (es++aG).length))::t),((d,⟨v0+1,.own,e,sz,es++aG⟩)::(id,⟨ae,.dead,e,sz,es⟩)::ob)⟩ (tr++[⟨⟨some d,.call { callee:=.builtin .append,args:=#[x,y],argTypes:=#[T,T] },ty,pos,af,g⟩,(.own d (v0+1) 0 (es++aG).length),[(id,⟨ae,.dead,e,sz,es⟩),(d,⟨v0+1,.own,e,sz,es++aG⟩)],VH ⟨t,ob⟩ d (.call { callee:=.builtin .append,args:=#[x,y],argTypes:=#[T,T] })⟩]) QD):zR c ops (⟨some d,.call { callee:=.builtin .append,args:=#[x,y],argTypes:=#[T,T] },ty,pos,af,g⟩::rest) ⟨t,ob⟩ tr QD:=
 zR.cons (fZ hd (zog hx hb hn hT he hk hp hy aU hm hv)) hw rfl rfl k
theorem zuT {T id n:Nat} {kk:TK} (hx:(⟨t,ob⟩:ah).ev x=.own id ae 0 n) (hb:(⟨t,ob⟩:ah).ob id=⟨ae,.own,e,sz,es⟩) (hn:n=es.length) (hT:(c.ty T).k=.slice e) (he:c.ty e=⟨kk,sz,c8,z⟩) (hk:kk.known=true) (hp:0<sz) (hy:WE t ob y sz aG) (aU:(es.length+aG.length) * c8≤140737488355328) (hm:es.length+aG.length≤140737488355328) (hv:(⟨t,ob⟩:ah).ob d=⟨v0,lf0,E0,gK,du⟩) (hd:Nat.blt d c.N=true) (hw:ZB ops ⟨t,ob⟩ ⟨some d,.call { callee:=.builtin .append,args:=#[x,y],argTypes:=#[T,T] },ty,pos,af,g⟩ true) (k:zR c ops rest ⟨((d,(.list sz (es++aG)))::t),((d,⟨v0+1,.dead,e,sz,es++aG⟩)::(d,⟨v0+1,.own,e,sz,es++aG⟩)::(id,⟨ae,.dead,e,sz,es⟩)::ob)⟩ (tr++[⟨⟨some d,.call { callee:=.builtin .append,args:=#[x,y],argTypes:=#[T,T] },ty,pos,af,g⟩,(.list sz (es++aG)),[(id,⟨ae,.dead,e,sz,es⟩),(d,⟨v0+1,.own,e,sz,es++aG⟩),(d,⟨v0+1,.dead,e,sz,es++aG⟩)],VH ⟨t,ob⟩ d (.call { callee:=.builtin .append,args:=#[x,y],argTypes:=#[T,T] })⟩]) QD):zR c ops (⟨some d,.call { callee:=.builtin .append,args:=#[x,y],argTypes:=#[T,T] },ty,pos,af,g⟩::rest) ⟨t,ob⟩ tr QD:=
 zR.cons (fZ hd (zrH hx hb hn hT he hk hp hy aU hm hv)) hw rfl rfl k
theorem Zz {T id:Nat} (hx:(⟨t,ob⟩:ah).ev x=.ptr id ae j 0) (hk:(c.ty T).k.bD = some false) (hz:(c.ty T).size=1) (hb:(⟨t,ob⟩:ah).ob id=⟨ae,.aj,E,1,es⟩) (hj:es[j]? = some [f]):aD c ⟨t,ob⟩ d (.load T x) f []:=(.oU hk hz x hx (by rw [hb]) (by rw [hb]) (by rw [hb]) (by rw [hb];exact hj))
theorem WR {T id o2 n2 E2:Nat} (hx:(⟨t,ob⟩:ah).ev x=.ptr id ae j 0) (hy:(⟨t,ob⟩:ah).ev y=.own fO fX o2 n2) (hk:(c.ty T).k.known=true) (hz:(c.ty T).size=1) (hb:(⟨t,ob⟩:ah).ob id=⟨ae,.aj,E,1,es⟩) (dZ:(⟨t,ob⟩:ah).ob fO=⟨fX,lf2,E2,p8,aG⟩) (bA:lf2≠.dead) (hj:j<es.length):aD c ⟨t,ob⟩ 0 (.store T x y) .undef [(id,⟨ae,.aj,E,1,es.set j [.own fO fX o2 n2]⟩)]:=(by have:=aD.fC (c:=c) (s:=⟨t,ob⟩) (d:=0) (TK.aB hk) hz x y hx (by rw [hb]) (by rw [hb]) (by rw [hb]) hy (.inr (.inl ⟨_,_,_,_,rfl,yI dZ bA⟩)) (by rw [hb];exact hj);rw [hb] at this;exact this)
theorem zim {T id:Nat} {j2 o2 E2:Nat} (hx:(⟨t,ob⟩:ah).ev x=.ptr id ae j 0) (hy:(⟨t,ob⟩:ah).ev y=.ptr fO fX j2 o2) (hk:(c.ty T).k.known=true) (hz:(c.ty T).size=1) (hb:(⟨t,ob⟩:ah).ob id=⟨ae,.aj,E,1,es⟩) (dZ:(⟨t,ob⟩:ah).ob fO=⟨fX,lf2,E2,p8,aG⟩) (bA:lf2≠.dead) (hj:j<es.length):aD c ⟨t,ob⟩ 0 (.store T x y) .undef [(id,⟨ae,.aj,E,1,es.set j [.ptr fO fX j2 o2]⟩)]:=(by have:=aD.fC (c:=c) (s:=⟨t,ob⟩) (d:=0) (TK.aB hk) hz x y hx (by rw [hb]) (by rw [hb]) (by rw [hb]) hy (.inr (.inr (.inl ⟨_,_,_,_,rfl,yI dZ bA⟩))) (by rw [hb];exact hj);rw [hb] at this;exact this)
theorem zpC {T id:Nat} {E2:Nat} (hx:(⟨t,ob⟩:ah).ev x=.ptr id ae j 0) (hy:(⟨t,ob⟩:ah).ev y=.omap fO fX) (hk:(c.ty T).k.known=true) (hz:(c.ty T).size=1) (hb:(⟨t,ob⟩:ah).ob id=⟨ae,.aj,E,1,es⟩) (dZ:(⟨t,ob⟩:ah).ob fO=⟨fX,lf2,E2,p8,aG⟩) (bA:lf2≠.dead) (hj:j<es.length):aD c ⟨t,ob⟩ 0 (.store T x y) .undef [(id,⟨ae,.aj,E,1,es.set j [.omap fO fX]⟩)]:=(by have:=aD.fC (c:=c) (s:=⟨t,ob⟩) (d:=0) (TK.aB hk) hz x y hx (by rw [hb]) (by rw [hb]) (by rw [hb]) hy (.inr (.inr (.inr (.inr ⟨_,_,rfl,yI dZ bA⟩)))) (by rw [hb];exact hj);rw [hb] at this;exact this)
theorem zpD {T id:Nat} (hx:(⟨t,ob⟩:ah).ev x=.ptr id ae j 0) (hy:lx t y=some f) (h1:f.one=true) (hk:(c.ty T).k.known=true) (hz:(c.ty T).size=1) (hb:(⟨t,ob⟩:ah).ob id=⟨ae,.aj,E,1,es⟩) (hj:j<es.length):aD c ⟨t,ob⟩ 0 (.store T x y) .undef [(id,⟨ae,.aj,E,1,es.set j [f]⟩)]:=(by have:=aD.fC (c:=c) (s:=⟨t,ob⟩) (d:=0) (TK.aB hk) hz x y hx (by rw [hb]) (by rw [hb]) (by rw [hb]) (mW hy) (.inl h1) (by rw [hb];exact hj);rw [hb] at this;exact this)
theorem zvU {T id n:Nat} {kk:TK} (hx:(⟨t,ob⟩:ah).ev x=.own id ae o n) (hb:(⟨t,ob⟩:ah).ob id=⟨ae,.roomy,e,sz,es⟩) (hn:o+n=es.length) (hT:(c.ty T).k=.slice e) (he:c.ty e=⟨kk,sz,c8,z⟩) (hk:kk.known=true) (hp:0<sz) (hy:WE t ob y sz aG) (h1:aG.length=1) (hv:(⟨t,ob⟩:ah).ob d=⟨v0,lf0,E0,gK,du⟩):aD c ⟨t,ob⟩ d (.call { callee:=.builtin .append,args:=#[x,y],argTypes:=#[T,T] }) (.own d (v0+1) o (n+1)) [(id,⟨ae,.dead,e,sz,es⟩),(d,⟨v0+1,.own,e,sz,es++aG⟩)]:=(by have:=aD.iO (c:=c) (s:=⟨t,ob⟩) (d:=d) hT (by rw [he];exact TK.aB hk) (by rw [he];exact hp) x y hx (by rw [hb]) (by rw [hb]) (by rw [hb]) (by rw [hb,he]) (by rw [hb];exact hn) rfl (by rw [he];exact hy.ok) h1;rw [he] at this;simpa [VD hv,hb] using this)
theorem zvT {T id n:Nat} {kk:TK} (hx:(⟨t,ob⟩:ah).ev x=.own id ae o n) (hb:(⟨t,ob⟩:ah).ob id=⟨ae,.full,e,sz,es⟩) (hn:o+n=es.length) (hT:(c.ty T).k=.slice e) (he:c.ty e=⟨kk,sz,c8,z⟩) (hk:kk.known=true) (hp:0<sz) (hy:WE t ob y sz aG) (h1:aG.length=1) (aU:(n+1) * c8≤140737488355328) (hm:n+1≤140737488355328) (hv:(⟨t,ob⟩:ah).ob d=⟨v0,lf0,E0,gK,du⟩):aD c ⟨t,ob⟩ d (.call { callee:=.builtin .append,args:=#[x,y],argTypes:=#[T,T] }) (.own d (v0+1) 0 (n+1)) [(id,⟨ae,.dead,e,sz,es⟩),(d,⟨v0+1,.own,e,sz,es.drop o++aG⟩)]:=(by have:=aD.iN (c:=c) (s:=⟨t,ob⟩) (d:=d) hT (by rw [he];exact TK.aB hk) (by rw [he];exact hp) x y hx (by rw [hb]) (by rw [hb]) (by rw [hb]) (by rw [hb,he]) (by rw [hb];exact hn) rfl (by rw [he];exact hy.ok) h1 (by rw [he];exact aU) hm;rw [he] at this;simpa [VD hv,hb] using this)
theorem PK {T:Nat} (hv:(⟨t,ob⟩:ah).ob d=⟨v0,lf0,E0,gK,du⟩):aD c ⟨t,ob⟩ d (.makeMap T none) (.omap d (v0+1)) [(d,⟨v0+1,.aC,T,0,[]⟩)]:=(by have:=aD.makeMap (c:=c) (s:=⟨t,ob⟩) (d:=d) T;rw [VD hv] at this;exact this)
theorem Qo {T k e:Nat} {bb found:Bool} {x y:Operand} {kf vf:FV} {id ae E sz:Nat} {lf:Zn} {es:List (List FV)} (K:Maps.Keyed c.P k) (eH:∀ row∈es,∀ kf,row.head? = some kf→XH c.P k kf) (cG:XH c.P k kf) (dp:lK es kf (c.ty e).mZ vf found) (hx:(⟨t,ob⟩:ah).ev x=.omap id ae) (hb:(⟨t,ob⟩:ah).ob id=⟨ae,lf,E,sz,es⟩) (hl:lf≠.dead∧lf≠.bh) (hy:(⟨t,ob⟩:ah).ev y=kf) (hT:(c.ty T).k=.map k e) (he:(c.ty e).k.bD = some bb) (hn:vf.hand=none) (hd:Nat.blt d c.N=true) (hw:ZB ops ⟨t,ob⟩ ⟨some d,.lookup T x y false,ty,pos,af,g⟩ true) (k:zt c ops rest ⟨((d,vf)::t),ob⟩ Q):zt c ops (⟨some d,.lookup T x y false,ty,pos,af,g⟩::rest) ⟨t,ob⟩ Q:=
 zt.cons (f:=vf) (wr:=[]) (d:=d) (fZ hd (by have:=aD.look (c:=c) (s:=⟨t,ob⟩) (d:=d) hT he K x y false (.inl ⟨id,ae,hx,⟨yI hb hl.1,by rw [hb];exact hl.2⟩,by rw [hb]⟩) hy eH cG dp hn;simpa using this)) hw rfl k
theorem KY {T k e:Nat} {bb found:Bool} {x y:Operand} {kf vf:FV} {es:List (List FV)} (K:Maps.Keyed c.P k) (eH:∀ row∈es,∀ kf,row.head? = some kf→XH c.P k kf) (cG:XH c.P k kf) (dp:lK es kf (c.ty e).mZ vf found) (hx:(⟨t,ob⟩:ah).ev x=.smap es) (hy:(⟨t,ob⟩:ah).ev y=kf) (hT:(c.ty T).k=.map k e) (he:(c.ty e).k.bD = some bb) (hn:vf.hand=none) (hd:Nat.blt d c.N=true) (hw:ZB ops ⟨t,ob⟩ ⟨some d,.lookup T x y false,ty,pos,af,g⟩ true) (k:zt c ops rest ⟨((d,vf)::t),ob⟩ Q):zt c ops (⟨some d,.lookup T x y false,ty,pos,af,g⟩::rest) ⟨t,ob⟩ Q:=
 zt.cons (f:=vf) (wr:=[]) (d:=d) (fZ hd (by have:=aD.look (c:=c) (s:=⟨t,ob⟩) (d:=d) hT he K x y false (.inr hx) hy eH cG dp hn;simpa using this)) hw rfl k
theorem QA {T k e:Nat} {bb found:Bool} {x y:Operand} {kf vf:FV} {es:List (List FV)} (K:Maps.Keyed c.P k) (eH:∀ row∈es,∀ kf,row.head? = some kf→XH c.P k kf) (cG:XH c.P k kf) (dp:lK es kf (c.ty e).mZ vf found) (hx:(⟨t,ob⟩:ah).ev x=.smap es) (hy:(⟨t,ob⟩:ah).ev y=kf) (hT:(c.ty T).k=.map k e) (he:(c.ty e).k.bD = some bb) (hn:vf.hand=none) (hd:Nat.blt d c.N=true) (hw:ZB ops ⟨t,ob⟩ ⟨some d,.lookup T x y false,ty,pos,af,g⟩ true) (k:zR c ops rest ⟨((d,vf)::t),ob⟩ (tr++[⟨⟨some d,.lookup T x y false,ty,pos,af,g⟩,vf,[],VH ⟨t,ob⟩ d (.lookup T x y false)⟩]) QD):zR c ops (⟨some d,.lookup T x y false,ty,pos,af,g⟩::rest) ⟨t,ob⟩ tr QD:=
 zR.cons (f:=vf) (wr:=[]) (d:=d) (fZ hd (by have:=aD.look (c:=c) (s:=⟨t,ob⟩) (d:=d) hT he K x y false (.inr hx) hy eH cG dp hn;simpa using this)) hw rfl rfl k
theorem Vz {T k e:Nat} {bb found:Bool} {x y:Operand} {kf vf:FV} {id ae E sz:Nat} {lf:Zn} {es:List (List FV)} (K:Maps.Keyed c.P k) (eH:∀ row∈es,∀ kf,row.head? = some kf→XH c.P k kf) (cG:XH c.P k kf) (dp:lK es kf (c.ty e).mZ vf found) (hx:(⟨t,ob⟩:ah).ev x=.omap id ae) (hb:(⟨t,ob⟩:ah).ob id=⟨ae,lf,E,sz,es⟩) (hl:lf≠.dead∧lf≠.bh) (hy:(⟨t,ob⟩:ah).ev y=kf) (hT:(c.ty T).k=.map k e) (he:(c.ty e).k.bD = some bb) (hn:vf.hand=none) (hd:Nat.blt d c.N=true) (hw:ZB ops ⟨t,ob⟩ ⟨some d,.lookup T x y true,ty,pos,af,g⟩ true) (k:zt c ops rest ⟨((d,(.bd [vf,.bool found]))::t),ob⟩ Q):zt c ops (⟨some d,.lookup T x y true,ty,pos,af,g⟩::rest) ⟨t,ob⟩ Q:=
 zt.cons (f:=(.bd [vf,.bool found])) (wr:=[]) (d:=d) (fZ hd (by have:=aD.look (c:=c) (s:=⟨t,ob⟩) (d:=d) hT he K x y true (.inl ⟨id,ae,hx,⟨yI hb hl.1,by rw [hb];exact hl.2⟩,by rw [hb]⟩) hy eH cG dp hn;simpa using this)) hw rfl k
theorem Wt {T k e:Nat} {bb found:Bool} {x y:Operand} {kf vf:FV} {es:List (List FV)} (K:Maps.Keyed c.P k) (eH:∀ row∈es,∀ kf,row.head? = some kf→XH c.P k kf) (cG:XH c.P k kf) (dp:lK es kf (c.ty e).mZ vf found) (hx:(⟨t,ob⟩:ah).ev x=.smap es) (hy:(⟨t,ob⟩:ah).ev y=kf) (hT:(c.ty T).k=.map k e) (he:(c.ty e).k.bD = some bb) (hn:vf.hand=none) (hd:Nat.blt d c.N=true) (hw:ZB ops ⟨t,ob⟩ ⟨some d,.lookup T x y true,ty,pos,af,g⟩ true) (k:zt c ops rest ⟨((d,(.bd [vf,.bool found]))::t),ob⟩ Q):zt c ops (⟨some d,.lookup T x y true,ty,pos,af,g⟩::rest) ⟨t,ob⟩ Q:=
 zt.cons (f:=(.bd [vf,.bool found])) (wr:=[]) (d:=d) (fZ hd (by have:=aD.look (c:=c) (s:=⟨t,ob⟩) (d:=d) hT he K x y true (.inr hx) hy eH cG dp hn;simpa using this)) hw rfl k
theorem zsX {T k e:Nat} {bb found:Bool} {x y:Operand} {kf vf:FV} {es:List (List FV)} (K:Maps.Keyed c.P k) (eH:∀ row∈es,∀ kf,row.head? = some kf→XH c.P k kf) (cG:XH c.P k kf) (dp:lK es kf (c.ty e).mZ vf found) (hx:(⟨t,ob⟩:ah).ev x=.smap es) (hy:(⟨t,ob⟩:ah).ev y=kf) (hT:(c.ty T).k=.map k e) (he:(c.ty e).k.bD = some bb) (hn:vf.hand=none) (hd:Nat.blt d c.N=true) (hw:ZB ops ⟨t,ob⟩ ⟨some d,.lookup T x y true,ty,pos,af,g⟩ true) (k:zR c ops rest ⟨((d,(.bd [vf,.bool found]))::t),ob⟩ (tr++[⟨⟨some d,.lookup T x y true,ty,pos,af,g⟩,(.bd [vf,.bool found]),[],VH ⟨t,ob⟩ d (.lookup T x y true)⟩]) QD):zR c ops (⟨some d,.lookup T x y true,ty,pos,af,g⟩::rest) ⟨t,ob⟩ tr QD:=
 zR.cons (f:=(.bd [vf,.bool found])) (wr:=[]) (d:=d) (fZ hd (by have:=aD.look (c:=c) (s:=⟨t,ob⟩) (d:=d) hT he K x y true (.inr hx) hy eH cG dp hn;simpa using this)) hw rfl rfl k
theorem YD {T k e id ae E sz:Nat} {x y z:Operand} {kf vf:FV} {es ba : List (List FV)} (K:Maps.Keyed c.P k) (eH:∀ row∈es,∀ kf,row.head? = some kf→XH c.P k kf) (cG:XH c.P k kf) (hs:qg es kf vf ba) (hx:(⟨t,ob⟩:ah).ev x=.omap id ae) (hb:(⟨t,ob⟩:ah).ob id=⟨ae,.aC,E,sz,es⟩) (hy:(⟨t,ob⟩:ah).ev y=kf) (hz:(⟨t,ob⟩:ah).ev z=vf) (hT:(c.ty T).k=.map k e) (hn:vf.hand=none) (hw:ZB ops ⟨t,ob⟩ ⟨none,.mapUpdate T x y z,ty,pos,af,g⟩ true) (k:zt c ops rest ⟨t,((id,⟨ae,.aC,E,sz,ba⟩)::ob)⟩ Q):zt c ops (⟨none,.mapUpdate T x y z,ty,pos,af,g⟩::rest) ⟨t,ob⟩ Q:=
 zt.cons (f:=.undef) (wr:=[(id,⟨ae,.aC,E,sz,ba⟩)]) (d:=0) (zyh (by have:=aD.update (c:=c) (s:=⟨t,ob⟩) (d:=0) hT K x y z hx (by rw [hb]) (by rw [hb]) hy hz (by rw [hb];exact eH) cG hn (ba:=ba) (by rw [hb];exact hs);rw [hb] at this;exact this)) hw rfl k
theorem zsZ {T k e id ae E sz:Nat} {x y z:Operand} {kf vf:FV} {es ba : List (List FV)} (K:Maps.Keyed c.P k) (eH:∀ row∈es,∀ kf,row.head? = some kf→XH c.P k kf) (cG:XH c.P k kf) (hs:qg es kf vf ba) (hx:(⟨t,ob⟩:ah).ev x=.omap id ae) (hb:(⟨t,ob⟩:ah).ob id=⟨ae,.aC,E,sz,es⟩) (hy:(⟨t,ob⟩:ah).ev y=kf) (hz:(⟨t,ob⟩:ah).ev z=vf) (hT:(c.ty T).k=.map k e) (hn:vf.hand=none) (hw:ZB ops ⟨t,ob⟩ ⟨none,.mapUpdate T x y z,ty,pos,af,g⟩ true) (k:zR c ops rest ⟨t,((id,⟨ae,.aC,E,sz,ba⟩)::ob)⟩ (tr++[⟨⟨none,.mapUpdate T x y z,ty,pos,af,g⟩,.undef,[(id,⟨ae,.aC,E,sz,ba⟩)],VH ⟨t,ob⟩ 0 (.mapUpdate T x y z)⟩]) QD):zR c ops (⟨none,.mapUpdate T x y z,ty,pos,af,g⟩::rest) ⟨t,ob⟩ tr QD:=
 zR.cons (f:=.undef) (wr:=[(id,⟨ae,.aC,E,sz,ba⟩)]) (d:=0) (zyh (by have:=aD.update (c:=c) (s:=⟨t,ob⟩) (d:=0) hT K x y z hx (by rw [hb]) (by rw [hb]) hy hz (by rw [hb];exact eH) cG hn (ba:=ba) (by rw [hb];exact hs);rw [hb] at this;exact this)) hw rfl rfl k
theorem yP {f:Nat} (hs:xA c.P f gs .fr res) (hx:zH t ob .fr xs gs) (hd:Nat.blt d c.N=true) (hw:ZB ops ⟨t,ob⟩ ⟨some d,.call { callee:=.value (.func f),args:=xs.toArray,argTypes:=ts },ty,pos,af,g⟩ true) (k:zt c ops rest ⟨((d,res)::t),ob⟩ Q):zt c ops (⟨some d,.call { callee:=.value (.func f),args:=xs.toArray,argTypes:=ts },ty,pos,af,g⟩::rest) ⟨t,ob⟩ Q:=
 zt.cons (fZ hd (.call hs (.inl rfl) (by simpa using hx.ok))) hw rfl k
theorem zwi {f:Nat} (hs:xA c.P f gs .fr res) (hx:zH t ob .fr xs gs) (hd:Nat.blt d c.N=true) (hw:ZB ops ⟨t,ob⟩ ⟨some d,.call { callee:=.value (.func f),args:=xs.toArray,argTypes:=ts },ty,pos,af,g⟩ true) (k:zR c ops rest ⟨((d,res)::t),ob⟩ (tr++[⟨⟨some d,.call { callee:=.value (.func f),args:=xs.toArray,argTypes:=ts },ty,pos,af,g⟩,res,[],VH ⟨t,ob⟩ d (.call { callee:=.value (.func f),args:=xs.toArray,argTypes:=ts })⟩]) QD):zR c ops (⟨some d,.call { callee:=.value (.func f),args:=xs.toArray,argTypes:=ts },ty,pos,af,g⟩::rest) ⟨t,ob⟩ tr QD:=
 zR.cons (fZ hd (.call hs (.inl rfl) (by simpa using hx.ok))) hw rfl rfl k
theorem H2 {f:Nat} (hx:(⟨t,ob⟩:ah).ev x=.fn f aH) (hs:xA c.P f (gs++aH) .fr res) (ha:zH t ob .fr xs gs) (hd:Nat.blt d c.N=true) (hw:ZB ops ⟨t,ob⟩ ⟨some d,.call { callee:=.value x,args:=xs.toArray,argTypes:=ts },ty,pos,af,g⟩ true) (k:zt c ops rest ⟨((d,res)::t),ob⟩ Q):zt c ops (⟨some d,.call { callee:=.value x,args:=xs.toArray,argTypes:=ts },ty,pos,af,g⟩::rest) ⟨t,ob⟩ Q:=
 zt.cons (fZ hd (.lZ hx hs (by simpa using ha.ok))) hw rfl k
theorem zuW {f:Nat} (hx:(⟨t,ob⟩:ah).ev x=.fn f aH) (hs:xA c.P f (gs++aH) .fr res) (ha:zH t ob .fr xs gs) (hd:Nat.blt d c.N=true) (hw:ZB ops ⟨t,ob⟩ ⟨some d,.call { callee:=.value x,args:=xs.toArray,argTypes:=ts },ty,pos,af,g⟩ true) (k:zR c ops rest ⟨((d,res)::t),ob⟩ (tr++[⟨⟨some d,.call { callee:=.value x,args:=xs.toArray,argTypes:=ts },ty,pos,af,g⟩,res,[],VH ⟨t,ob⟩ d (.call { callee:=.value x,args:=xs.toArray,argTypes:=ts })⟩]) QD):zR c ops (⟨some d,.call { callee:=.value x,args:=xs.toArray,argTypes:=ts },ty,pos,af,g⟩::rest) ⟨t,ob⟩ tr QD:=
 zR.cons (fZ hd (.lZ hx hs (by simpa using ha.ok))) hw rfl rfl k
theorem zrz {T T2 m id:Nat} {kk:TK} (hx:(⟨t,ob⟩:ah).ev x=.own id ae o m) (hb:(⟨t,ob⟩:ah).ob id=⟨ae,.own,E,1,es⟩) (hT:(c.ty T).k=.slice e) (he:c.ty e=⟨kk,1,c8,z⟩) (hk:kk.known=true) (hy:WE t ob y 1 aG):aD c ⟨t,ob⟩ d (.call { callee:=.builtin .copy,args:=#[x,y],argTypes:=#[T,T2] }) (.int .i64 ((aG.take m).length:Nat)) [(id,⟨ae,.own,E,1,av es o (aG.take m)⟩)]:=(by have:=aD.copy (c:=c) (s:=⟨t,ob⟩) (d:=d) (T2:=T2) hT (by rw [he];exact TK.aB hk) (by rw [he]) x y hx (by rw [hb]) (by rw [hb]) (by rw [hb]) rfl hy.ok;rw [hb] at this;exact this)
theorem zpB {T:Nat} (hx:lx t x=some f) (hn:f.hand=none) (hk:(c.ty T).k.known=true) (eT:WA c.P T=false):aD c ⟨t,ob⟩ d (.makeInterface T x) (.iface T f) []:=(.jh (TK.aB hk) eT x (mW hx) hn)
theorem zmZ {T id:Nat} (hx:(⟨t,ob⟩:ah).ev x=.ptr id ae j o) (hk:(c.ty T).k.known=true) (eT:WA c.P T=false):aD c ⟨t,ob⟩ d (.makeInterface T x) (.wrap (.mI T) [.ptr id ae j o]) []:=(.gG (TK.aB hk) eT x hx rfl)
theorem zin {T T2:Nat} (hx:(⟨t,ob⟩:ah).ev x=.iface T f) (hn:f.hand=none) (hk:(c.ty T).k.known=true) (eT:WA c.P T=false):aD c ⟨t,ob⟩ d (.typeAssert x T2 T false) f []:=(.jl (TK.aB hk) eT x hx hn)
theorem zpA {f:Nat} (hx:xs.map (⟨t,ob⟩:ah).ev=aH) (hn:aH.all FV.bG=true):aD c ⟨t,ob⟩ d (.makeFunc (.func f) #[] xs.toArray) (.wrap (.fn f) aH) []:=(.jg (by simpa using hx) hn)
theorem zug {f:Nat} (hx:xs.map (⟨t,ob⟩:ah).ev=aH) (hn:aH.all FV.bG=true):aD c ⟨t,ob⟩ d (.makeFunc (.func f) xs.toArray #[]) (.wrap (.bound f) aH) []:=(.bound (by simpa using hx) hn)
theorem zij {T Mz:Nat} {kk:TK} {z0 z1 f1 f2:FV} (hx:lx t x=some f1) (hy:lx t y=some f2) (h1:f1.one=true) (h2:f2.one=true) (hT:c.ty T=⟨.arr 2 e,2,c8,[z0,z1]⟩) (he:c.ty e=⟨kk,1,Mz,z⟩) (hk:kk.known=true):aD c ⟨t,ob⟩ d (.build T #[(0,x),(1,y)]) (.agg [f1,f2]) []:=(zm0 (mW hx) (mW hy) h1 h2 hT he hk)
theorem zxt {T T2:Nat} {X Y:List FV} (hx:(⟨t,ob⟩:ah).ev x=.agg X) (hX:X.all FV.aW=true) (hy:(⟨t,ob⟩:ah).ev y=.agg Y) (hY:Y.all FV.aW=true) (hl:D5 c.P T X Y b) (hd:Nat.blt d c.N=true) (hw:ZB ops ⟨t,ob⟩ ⟨some d,.binOp .eql T x y T2,ty,pos,af,g⟩ true) (k:zR c ops rest ⟨((d,(.bool (b)))::t),ob⟩ (tr++[⟨⟨some d,.binOp .eql T x y T2,ty,pos,af,g⟩,(.bool (b)),[],VH ⟨t,ob⟩ d (.binOp .eql T x y T2)⟩]) QD):zR c ops (⟨some d,.binOp .eql T x y T2,ty,pos,af,g⟩::rest) ⟨t,ob⟩ tr QD:=
 zR.cons (fZ hd (.l5 .eql x y hx hX hy hY hl zc)) hw rfl rfl k
theorem zxw {T T2:Nat} {X Y:List FV} (hx:(⟨t,ob⟩:ah).ev x=.agg X) (hX:X.all FV.aW=true) (hy:(⟨t,ob⟩:ah).ev y=.agg Y) (hY:Y.all FV.aW=true) (hl:D5 c.P T X Y b) (hd:Nat.blt d c.N=true) (hw:ZB ops ⟨t,ob⟩ ⟨some d,.binOp .neq T x y T2,ty,pos,af,g⟩ true) (k:zR c ops rest ⟨((d,(.bool (!b)))::t),ob⟩ (tr++[⟨⟨some d,.binOp .neq T x y T2,ty,pos,af,g⟩,(.bool (!b)),[],VH ⟨t,ob⟩ d (.binOp .neq T x y T2)⟩]) QD):zR c ops (⟨some d,.binOp .neq T x y T2,ty,pos,af,g⟩::rest) ⟨t,ob⟩ tr QD:=
 zR.cons (fZ hd (.l5 .neq x y hx hX hy hY hl zc)) hw rfl rfl k
theorem zrB {T T2:Nat} (hx:(⟨t,ob⟩:ah).ev x=.nil) (hy:(⟨t,ob⟩:ah).ev y=.nil) (hT:(c.ty T).k=.slice e):aD c ⟨t,ob⟩ d (.binOp .eql T x y T2) (.bool true) []:=(.ie .eql hT x y hx .nil hy zc)
theorem zrA {T T2:Nat} (hx:(⟨t,ob⟩:ah).ev x=.list sz es) (hy:(⟨t,ob⟩:ah).ev y=.nil) (hT:(c.ty T).k=.slice e) (hn:es≠[]):aD c ⟨t,ob⟩ d (.binOp .eql T x y T2) (.bool false) []:=(.ie .eql hT x y hx (.list sz es hn) hy zc)
theorem zk3 {T T2:Nat} (hx:(⟨t,ob⟩:ah).ev x=.nil) (hy:(⟨t,ob⟩:ah).ev y=.nil) (hT:(c.ty T).k=.slice e):aD c ⟨t,ob⟩ d (.binOp .neq T x y T2) (.bool false) []:=(.ie .neq hT x y hx .nil hy zc)
theorem zrE {T T2 n:Nat} {id:Nat} (hx:(⟨t,ob⟩:ah).ev x=.own id ae o n) (hy:(⟨t,ob⟩:ah).ev y=.nil) (hT:(c.ty T).k=.slice e) (hb:(⟨t,ob⟩:ah).ob id=⟨ae,lf,E,sz,es⟩) (hl:lf≠.dead) (hn:0<n):aD c ⟨t,ob⟩ d (.binOp .neq T x y T2) (.bool true) []:=(.ie .neq hT x y hx (.own id ae o n (yI hb hl) hn) hy zc)
theorem zk2 {T T2:Nat} (hx:(⟨t,ob⟩:ah).ev x=.list sz es) (hy:(⟨t,ob⟩:ah).ev y=.nil) (hT:(c.ty T).k=.slice e) (hn:es≠[]):aD c ⟨t,ob⟩ d (.binOp .neq T x y T2) (.bool true) []:=(.ie .neq hT x y hx (.list sz es hn) hy zc)
theorem zpz {f:Nat} {z:Operand} {g2 g3:FV} (hx:lx t x=some g1) (hh:g1.hand=none) (hy:lx t y=some g2) (hi:g2.hand=none) (hz:lx t z=some g3) (hj:g3.hand=none):aD c ⟨t,ob⟩ d (.makeFunc (.func f) #[] #[x,y,z]) (.fn f [g1,g2,g3]) []:=(.jz (by simp [mW hx,mW hy,mW hz]) (by simp [hh,hi,hj]))
theorem zik {f:Nat} (hx:lx t x=some g1) (hh:g1.hand=none):aD c ⟨t,ob⟩ d (.makeFunc (.func f) #[] #[x]) (.fn f [g1]) []:=(.jz (by simp [mW hx]) (by simp [hh]))
theorem Zg {f:Nat} (hs:xA c.P f gs .sh res) (hx:zH t ob .sh xs gs) (hd:Nat.blt d c.N=true) (hw:ZB ops ⟨t,ob⟩ ⟨some d,.call { callee:=.value (.func f),args:=xs.toArray,argTypes:=ts },ty,pos,af,g⟩ true) (k:zt c ops rest ⟨((d,res)::t),ob⟩ Q):zt c ops (⟨some d,.call { callee:=.value (.func f),args:=xs.toArray,argTypes:=ts },ty,pos,af,g⟩::rest) ⟨t,ob⟩ Q:=
 zt.cons (fZ hd (.call hs (.inr rfl) (by simpa using hx.ok))) hw rfl k
theorem LA {f:Nat} (hs:xA c.P f gs .sh res) (hx:zH t ob .sh xs gs) (hd:Nat.blt d c.N=true) (hw:ZB ops ⟨t,ob⟩ ⟨some d,.call { callee:=.value (.func f),args:=xs.toArray,argTypes:=ts },ty,pos,af,g⟩ true) (k:zR c ops rest ⟨((d,res)::t),ob⟩ (tr++[⟨⟨some d,.call { callee:=.value (.func f),args:=xs.toArray,argTypes:=ts },ty,pos,af,g⟩,res,[],VH ⟨t,ob⟩ d (.call { callee:=.value (.func f),args:=xs.toArray,argTypes:=ts })⟩]) QD):zR c ops (⟨some d,.call { callee:=.value (.func f),args:=xs.toArray,argTypes:=ts },ty,pos,af,g⟩::rest) ⟨t,ob⟩ tr QD:=
 zR.cons (fZ hd (.call hs (.inr rfl) (by simpa using hx.ok))) hw rfl rfl k
theorem Yr {f n:Nat} (hs:xA c.P f gs (.ow E sz) (.list sz es)) (hx:zH t ob (.ow E sz) xs gs) (hn:es.length=n) (hv:(⟨t,ob⟩:ah).ob d=⟨v0,lf0,E0,gK,du⟩) (hd:Nat.blt d c.N=true) (hw:ZB ops ⟨t,ob⟩ ⟨some d,.call { callee:=.value (.func f),args:=xs.toArray,argTypes:=ts },ty,pos,af,g⟩ true) (k:zt c ops rest ⟨((d,(.own d (v0+1) 0 n))::t),((d,⟨v0+1,.own,E,sz,es⟩)::ob)⟩ Q):zt c ops (⟨some d,.call { callee:=.value (.func f),args:=xs.toArray,argTypes:=ts },ty,pos,af,g⟩::rest) ⟨t,ob⟩ Q:=
 zt.cons (f:=(.own d (v0+1) 0 n)) (wr:=[(d,⟨v0+1,.own,E,sz,es⟩)]) (d:=d) (fZ hd (by subst hn;have:=aD.kI (c:=c) (s:=⟨t,ob⟩) (d:=d) (ts:=ts) hs (xs:=xs.toArray) (by simpa using hx.ok);rw [VD hv] at this;exact this)) hw rfl k
theorem ztf {o:Oper} (ho:o.dst=some d) (hd:Nat.blt d c.N=true) (hw:ZB ops ⟨t,ob⟩ o false) (k:zt c ops rest ⟨(d,.bd [])::t,ob⟩ Q):zt c ops (o::rest) ⟨t,ob⟩ Q:=
 zt.skip hw (fun d' e=>by rw [ho] at e;injection e with e;subst e;exact zO hd) (by rw [ho];rfl) k
theorem zsY {o:Oper} (ho:o.dst=some d) (hd:Nat.blt d c.N=true) (hw:ZB ops ⟨t,ob⟩ o false) (k:zR c ops rest ⟨(d,.bd [])::t,ob⟩ (tr++[⟨o,.bd [],[],[]⟩]) QD):zR c ops (o::rest) ⟨t,ob⟩ tr QD:=
 zR.skip hw (fun d' e=>by rw [ho] at e;injection e with e;subst e;exact zO hd) (by rw [ho];rfl) k
theorem zl6 {T:Nat} (hT:c.ty T=⟨.aQ fs,sz,c8,z⟩) (hk:fs.all (fun p=>(c.ty p.2).k.known)=true) (hd:Nat.blt d c.N=true) (hw:ZB ops ⟨t,ob⟩ (⟨some d,.build T ps.toArray,ty,pos,af,g⟩:Oper) true)
  (k:VI c ⟨t,ob⟩ fs ps z (fun cs=>zt c ops rest ⟨(d,.agg cs)::t,ob⟩ Q)):zt c ops ((⟨some d,.build T ps.toArray,ty,pos,af,g⟩:Oper)::rest) ⟨t,ob⟩ Q:=let ⟨_,h1,h2⟩:=k;zuY hT hk h1 hd hw h2
theorem Qz {T:Nat} (hT:c.ty T=⟨.aQ fs,sz,c8,z⟩) (hk:fs.all (fun p=>(c.ty p.2).k.known)=true) (hd:Nat.blt d c.N=true) (hw:ZB ops ⟨t,ob⟩ (⟨some d,.build T ps.toArray,ty,pos,af,g⟩:Oper) true)
  (k:VI c ⟨t,ob⟩ fs ps z (fun cs=>zR c ops rest ⟨(d,.agg cs)::t,ob⟩ (tr++[⟨⟨some d,.build T ps.toArray,ty,pos,af,g⟩,.agg cs,[],VH ⟨t,ob⟩ d (.build T ps.toArray)⟩]) QD)):zR c ops ((⟨some d,.build T ps.toArray,ty,pos,af,g⟩:Oper)::rest) ⟨t,ob⟩ tr QD:=let ⟨_,h1,h2⟩:=k;zuU hT hk h1 hd hw h2
theorem zl8 (h:zt c ops ((⟨dst,.load T x,ty,pos,af,g⟩:Oper)::rest) s Q):zt c ops ((⟨dst,.load T x,ty,pos,af,g⟩:Oper)::rest) s Q:=h
theorem KV (h:zR c ops ((⟨dst,.load T x,ty,pos,af,g⟩:Oper)::rest) s tr QD):zR c ops ((⟨dst,.load T x,ty,pos,af,g⟩:Oper)::rest) s tr QD:=h
theorem zqA (h:zt c ops ((⟨dst,.store T x y,ty,pos,af,g⟩:Oper)::rest) s Q):zt c ops ((⟨dst,.store T x y,ty,pos,af,g⟩:Oper)::rest) s Q:=h
theorem ziT (h:zR c ops ((⟨dst,.store T x y,ty,pos,af,g⟩:Oper)::rest) s tr QD):zR c ops ((⟨dst,.store T x y,ty,pos,af,g⟩:Oper)::rest) s tr QD:=h
theorem ziX (h:zt c ops ((⟨dst,.fieldAddr T x i,ty,pos,af,g⟩:Oper)::rest) s Q):zt c ops ((⟨dst,.fieldAddr T x i,ty,pos,af,g⟩:Oper)::rest) s Q:=h
theorem Kj (h:zR c ops ((⟨dst,.fieldAddr T x i,ty,pos,af,g⟩:Oper)::rest) s tr QD):zR c ops ((⟨dst,.fieldAddr T x i,ty,pos,af,g⟩:Oper)::rest) s tr QD:=h
theorem ziY (h:zt c ops ((⟨dst,.indexAddr T x y,ty,pos,af,g⟩:Oper)::rest) s Q):zt c ops ((⟨dst,.indexAddr T x y,ty,pos,af,g⟩:Oper)::rest) s Q:=h
theorem ziS (h:zR c ops ((⟨dst,.indexAddr T x y,ty,pos,af,g⟩:Oper)::rest) s tr QD):zR c ops ((⟨dst,.indexAddr T x y,ty,pos,af,g⟩:Oper)::rest) s tr QD:=h
theorem zl9 {z:Operand} (h:zt c ops ((⟨dst,.pick x y z,ty,pos,af,g⟩:Oper)::rest) s Q):zt c ops ((⟨dst,.pick x y z,ty,pos,af,g⟩:Oper)::rest) s Q:=h
theorem zlX {z:Operand} (h:zR c ops ((⟨dst,.pick x y z,ty,pos,af,g⟩:Oper)::rest) s tr QD):zR c ops ((⟨dst,.pick x y z,ty,pos,af,g⟩:Oper)::rest) s tr QD:=h
theorem RC {b:BinOp} (h:zt c ops ((⟨dst,.binOp b T x y T2,ty,pos,af,g⟩:Oper)::rest) s Q):zt c ops ((⟨dst,.binOp b T x y T2,ty,pos,af,g⟩:Oper)::rest) s Q:=h
theorem LB {b:BinOp} (h:zR c ops ((⟨dst,.binOp b T x y T2,ty,pos,af,g⟩:Oper)::rest) s tr QD):zR c ops ((⟨dst,.binOp b T x y T2,ty,pos,af,g⟩:Oper)::rest) s tr QD:=h
theorem Sv  (h:zt c ops ((⟨dst,op,ty,pos,af,none⟩:Oper)::rest) s Q):zt c ops ((⟨dst,op,ty,pos,af,none⟩:Oper)::rest) s Q:=h
theorem zxu  (h:zR c ops ((⟨dst,op,ty,pos,af,none⟩:Oper)::rest) s tr QD):zR c ops ((⟨dst,op,ty,pos,af,none⟩:Oper)::rest) s tr QD:=h
theorem zx1 (h:zt c ops ((⟨dst,op,ty,pos,af,some gg⟩:Oper)::rest) s Q):zt c ops ((⟨dst,op,ty,pos,af,some gg⟩:Oper)::rest) s Q:=h
theorem zxv (h:zR c ops ((⟨dst,op,ty,pos,af,some gg⟩:Oper)::rest) s tr QD):zR c ops ((⟨dst,op,ty,pos,af,some gg⟩:Oper)::rest) s tr QD:=h
theorem yR (h1:b=true→zt c ops rest ⟨(d,.bool true)::t,ob⟩ Q) (h2:b=false→zt c ops rest ⟨(d,.bool false)::t,ob⟩ Q):zt c ops rest ⟨(d,.bool b)::t,ob⟩ Q:=by
 cases b
 ·exact h2 rfl
 ·exact h1 rfl
theorem Cg {o:Oper} {ft:List Nat} (h1:b=true→zR c ops rest ⟨(d,.bool true)::t,ob⟩ (tr++[⟨o,.bool true,wr,ft⟩]) QD) (h2:b=false→zR c ops rest ⟨(d,.bool false)::t,ob⟩ (tr++[⟨o,.bool false,wr,ft⟩]) QD) :
  zR c ops rest ⟨(d,.bool b)::t,ob⟩ (tr++[⟨o,.bool b,wr,ft⟩]) QD:=by
 cases b
 ·exact h2 rfl
 ·exact h1 rfl
end
end Go.Proofs.YtphidhljdcledaaGreat
