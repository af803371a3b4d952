/-
  The operations on states that are written out: one law each, for regions in the text's order (rn_) and for those that draw (rd_). (Printed by wip/fmm.py.)
-/
import Derived.Test.YtmnmakhpjgjdaaaZFmDw
namespace Go.Proofs.Ytmnmakhpjgjdaaa
set_option linter.unusedVariables false
open Go.RowKit

theorem zO {t:List (Nat×FV)} {ob:List (Nat×zh)} {id ver E sz:Nat} {lf:ya} {es:List (List FV)} (h:(⟨t,ob⟩:FSt).ob id=⟨ver,lf,E,sz,es⟩) (hl:lf≠.dead):(⟨t,ob⟩:FSt).live id ver:=by
 unfold FSt.live
 rw [h]
 exact ⟨hl,rfl⟩
theorem Zm {t:List (Nat×FV)} {ob:List (Nat×zh)} {d v E sz:Nat} {lf:ya} {es:List (List FV)} (h:(⟨t,ob⟩:FSt).ob d=⟨v,lf,E,sz,es⟩):((⟨t,ob⟩:FSt).ob d).ver+1=v+1:=by rw [h]

theorem zkf {n:Int} (h:0≤n∧n≤18446744073709551615):IntKind.wrap .u64 n=n:=by
 have:n % (2 ^ 64:Int)=n:=Int.emod_eq_of_lt h.1 (by omega)
 show (if false && decide (n % (2 ^ 64:Int)≥2 ^ (64 - 1)) then n % (2 ^ 64:Int) - 2 ^ 64 else n % (2 ^ 64:Int))=n
 rw [this];simp
theorem XA {cs:List FV} {o:Nat} {f:FV} (h:cs[o]? = some f):o<cs.length∧(cs.drop o).headD .undef=f:=by
 obtain ⟨h1,h2⟩:=List.getElem?_eq_some_iff.1 h
 refine ⟨h1,?_⟩
 rw [List.drop_eq_getElem_cons h1,h2];rfl
theorem Yw {cs:List FV} {o:Nat} {f:FV} (h:o<cs.length):splice cs o [f]=cs.set o f:=by
 unfold splice
 rw [List.set_eq_take_append_cons_drop,if_pos h]
 simp
def zl6 (cs:List FV) (o:Nat):List FV→List FV
 | [] => cs
 | f :: fs => zl6 (cs.set o f) (o+1) fs
theorem zcH (cs:List FV) (o:Nat) (f:FV) (fs:List FV) (h:o<cs.length):splice (splice cs o [f]) (o+1) fs=splice cs o (f::fs):=by
 unfold splice
 have h1:(List.take o cs++[f]++List.drop (o+1) cs).take (o+1)=List.take o cs++[f]:=by
  rw [List.take_append_of_le_length (by simp;omega),List.take_of_length_le (by simp;omega)]
 have h2:(List.take o cs++[f]++List.drop (o+1) cs).drop (o+1+fs.length)=List.drop (o+1+fs.length) cs:=by
  rw [List.drop_append,List.drop_of_length_le (by simp;omega),List.nil_append,List.drop_drop]
  congr 1
  simp
  omega
 simp only [List.length_cons,List.length_nil,Nat.zero_add]
 rw [h1,h2]
 simp [Nat.add_comm,Nat.add_left_comm]
theorem zaI:∀ (fs:List FV) (cs:List FV) (o:Nat),o+fs.length≤cs.length→fs≠[]→splice cs o fs=zl6 cs o fs
 | [], _, _, _, h => absurd rfl h
 | [f], cs, o, h, _ => by rw [Yw (by simp at h; omega)]; rfl
 | f :: g :: fs, cs, o, h, _ => by
  rw [← zcH cs o f (g::fs) (by simp at h;omega),Yw (by simp at h;omega),zaI (g::fs) _ _ (by simp at h ⊢;omega) (by simp)]
  rfl

inductive zaU (c:Ctx) (s:FSt) (fs:List (Nat×Nat)):List FV→List (Nat×Operand)→List FV→Prop where
 | nil {cs:List FV}:zaU c s fs cs [] cs
 | one {i off ft:Nat} {x:Operand} {f:FV} {ps:List (Nat × Operand)} {cs cs' : List FV} (hx:s.ev x=f) (hi:fs[i]? = some (off, ft)) (ho:f.cells=[f]) (h1:f.one=true) (hs:(c.ty ft).size=1) (hl:Nat.blt off cs.length=true) (h:zaU c s fs (cs.set off f) ps cs'):zaU c s fs cs ((i, x) :: ps) cs'
 | agg {i off ft:Nat} {x:Operand} {gs:List FV} {ps:List (Nat × Operand)} {cs cs' : List FV} (hx:s.ev x=.agg gs) (hi:fs[i]? = some (off, ft)) (h1:gs.all FV.one=true) (hs:gs.length=(c.ty ft).size) (hp:gs ≠ []) (hl:Nat.ble (off+gs.length) cs.length=true) (h:zaU c s fs (zl6 cs off gs) ps cs'):zaU c s fs cs ((i, x) :: ps) cs'
theorem Zv {place:Nat→Option (Nat×Nat)} {cs:List FV} {i off size:Nat} {f:FV} {rest:List (Nat×FV)} (hp:place i=some (off,size)) (h1:f.cells.all FV.one=true) (h2:f.cells.length=size) (h3:off+size≤cs.length) :
  Zz place cs ((i,f)::rest)=Zz place (splice cs off f.cells) rest:=by
 rw [Zz,hp]
 exact if_pos ⟨h1,h2,h3⟩
theorem zaU.get {c:Ctx} {s:FSt} {fs:List (Nat×Nat)} {cs cs' : List FV} {ps:List (Nat×Operand)} (h:zaU c s fs cs ps cs') :
  Zz (fun i=>(fs[i]?).map fun p=>(p.1,(c.ty p.2).size)) cs (s.parts ps.toArray)=some cs':=by
 unfold FSt.parts
 simp only [List.toList_toArray]
 induction h with
 | nil => rfl
 | one hx hi ho h1 hs hl h ih =>
  have hl':=Nat.le_of_ble_eq_true hl
  rw [List.map_cons,hx,Zv (off:=_) (size:=_) (by rw [hi];rfl) (by rw [ho];simpa using h1) (by rw [ho];exact hs.symm) (by dsimp only;omega),ho,Yw hl']
  exact ih
 | @agg i off ft x gs ps cs cs' hx hi h1 hs hp hl h ih =>
  have hl':=Nat.le_of_ble_eq_true hl
  rw [List.map_cons,hx,Zv (f:=.agg gs) (off:=off) (size:=(c.ty ft).size) (by rw [hi];rfl) h1 hs (by rw [← hs];exact hl')]
  rw [show (FV.agg gs).cells=gs from rfl,zaI gs cs off hl' hp]
  exact ih

def zif {α:Type} (d:α):List (Nat×α)→Nat→Option α
 | [], _ => some d
 | (i, a) :: l, k => bif Nat.beq i k then some a else zif d l k
theorem zfC {α:Type} (d:α) (k:Nat):∀ l:List (Nat×α),zif d l k=some (look d l k)
 | [] => rfl
 | (i, a) :: l => by
  unfold zif look
  rw [zfC d k l]
  cases Nat.beq i k <;> rfl
def zjv (v:Value):Option FV:=
 match v with
 | .int k n => some (.int k n)
 | .bool b => some (.bool b)
 | v => some (cval v)
theorem zjw (v:Value):zjv v=some (cval v):=by unfold zjv;split <;> rfl
def evO (t:List (Nat×FV)):Operand→Option FV
 | .tmp i => zif .undef t i
 | .const v => zjv v
 | .func f => some (.fn f [])
 | _ => some .undef
theorem ZR {t:List (Nat×FV)} {ob:List (Nat×zh)} {x:Operand} {f:FV} (h:evO t x=some f):(⟨t,ob⟩:FSt).ev x=f:=by
 cases x with
 | tmp i => have h' : zif .undef t i=some f := h; rw [zfC] at h'; injection h'
 | const v => have h' : zjv v=some f := h; rw [zjw] at h'; injection h'
 | _ => injection h
theorem xm {f:FV} (h:f.one=true):f.cells=[f]:=by
 cases f <;> first|rfl|(simp [FV.one] at h)
inductive xQ (s:FSt) (sz:Nat):Nat→List (Nat×Operand)→List (List FV)→Prop where
 | nil {k:Nat}:xQ s sz k [] []
 | one {k:Nat} {x:Operand} {f:FV} {ps:List (Nat × Operand)} {es:List (List FV)} (hx:s.ev x=f) (hc:f.cells=[f]) (h1:f.one=true) (hs:sz=1) (h:xQ s sz (k+1) ps es):xQ s sz k ((k, x) :: ps) ([f] :: es)
 | agg {k:Nat} {x:Operand} {gs:List FV} {ps:List (Nat × Operand)} {es:List (List FV)} (hx:s.ev x=.agg gs) (h1:gs.all FV.one=true) (hs:gs.length=sz) (h:xQ s sz (k+1) ps es):xQ s sz k ((k, x) :: ps) (gs :: es)
theorem xQ.int {s:FSt} {sz k:Nat} {x:Operand} {kk:IntKind} {n:Int} {ps:List (Nat×Operand)} {es:List (List FV)} (hx:s.ev x=.int kk n) (hs:sz=1) (h:xQ s sz (k+1) ps es):xQ s sz k ((k,x)::ps) ([.int kk n]::es):=.one hx rfl rfl hs h
theorem xQ.len {s:FSt} {sz k:Nat} {ps:List (Nat×Operand)} {es:List (List FV)} (h:xQ s sz k ps es):es.length=ps.length∧(∀ e∈es,e.length=sz)∧(∀ f∈es.flatten,f.one=true):=by
 have key:∀ (e:List FV) (es:List (List FV)) (q:Nat×Operand) (ps:List (Nat×Operand)),e.length=sz→(∀ f∈e,f.one=true)→(es.length=ps.length∧(∀ e∈es,e.length=sz)∧(∀ f∈es.flatten,f.one=true))→
   ((e::es).length=(q::ps).length∧(∀ e'∈e::es,e'.length=sz)∧(∀ f∈(e::es).flatten,f.one=true)):=by
  intro e es q ps h1 h2 h3
  refine ⟨by simp [h3.1],fun e' he=>?_,fun f hf=>?_⟩
  ·rcases List.mem_cons.1 he with e1|e1
   ·rw [e1];exact h1
   ·exact h3.2.1 _ e1
  ·rw [List.flatten_cons] at hf
   rcases List.mem_append.1 hf with e1|e1
   ·exact h2 f e1
   ·exact h3.2.2 _ e1
 induction h with
 | nil => exact ⟨rfl, by simp, by simp⟩
 | one hx hc h1 hs h ih => exact key [_] _ (_, _) _ (by rw [hs]; rfl) (by simpa using h1) ih
 | agg hx h1 hs h ih => exact key _ _ (_, _) _ hs (fun f hf => List.all_eq_true.1 h1 f hf) ih
theorem zbX {α:Type} (pre mid post ds:List α) (h:mid.length=ds.length):splice (pre++(mid++post)) pre.length ds=pre++(ds++post):=by
 unfold splice
 rw [List.take_left,← h,← List.append_assoc pre mid post,← List.length_append,List.drop_left,List.append_assoc]
theorem xQ.fill {s:FSt} {sz k:Nat} {ps:List (Nat×Operand)} {es:List (List FV)} (h:xQ s sz k ps es):∀ (pre:List FV),pre.length=k * sz→
  Zz (fun i=>some (i * sz,sz)) (pre++List.replicate (ps.length * sz) .undef) (ps.map fun p=>(p.1,s.ev p.2))=some (pre++es.flatten):=by
 induction h with
 | nil => intro pre _; simp [Zz]
 | @one k x f ps es hx hc h1 hs h ih=>
  intro pre hp
  have e1:List.replicate ((((k,x)::ps:List (Nat×Operand))).length * sz) FV.undef=List.replicate sz .undef++List.replicate (ps.length * sz) .undef:=by
   rw [List.length_cons,Nat.add_mul,Nat.one_mul,Nat.add_comm,List.replicate_append_replicate]
  have e2:(pre++List.replicate ((((k,x)::ps:List (Nat×Operand))).length * sz) FV.undef).length=k * sz+(ps.length+1) * sz:=by simp [hp]
  rw [List.map_cons,hx,Zv (place:=fun i=>some (i * sz,sz)) (off:=k * sz) (size:=sz) rfl (by rw [hc];simpa using h1) (by rw [hc,hs];rfl) (by rw [e2,Nat.add_mul];omega),hc,e1,← hp,zbX _ _ _ _ (by simp [hs]),← List.append_assoc,ih (pre++[f]) (by simp [hp,Nat.add_mul,hs])]
  simp
 | @agg k x gs ps es hx h1 hs h ih=>
  intro pre hp
  have e1:List.replicate ((((k,x)::ps:List (Nat×Operand))).length * sz) FV.undef=List.replicate sz .undef++List.replicate (ps.length * sz) .undef:=by
   rw [List.length_cons,Nat.add_mul,Nat.one_mul,Nat.add_comm,List.replicate_append_replicate]
  have e2:(pre++List.replicate ((((k,x)::ps:List (Nat×Operand))).length * sz) FV.undef).length=k * sz+(ps.length+1) * sz:=by simp [hp]
  rw [List.map_cons,hx,Zv (f:=.agg gs) (place:=fun i=>some (i * sz,sz)) (off:=k * sz) (size:=sz) rfl h1 hs (by rw [e2,Nat.add_mul];omega),e1,← hp]
  rw [show (FV.agg gs).cells=gs from rfl,zbX _ _ _ _ (by simp [hs]),← List.append_assoc,ih (pre++gs) (by simp [hp,Nat.add_mul,hs])]
  simp

def zV (c:Ctx) (s:FSt) (fs:List (Nat×Nat)) (ps:List (Nat×Operand)) (cs:List FV) (K:List FV→Prop):Prop:=∃ cs',zaU c s fs cs ps cs'∧K cs'
theorem zV.nil {c:Ctx} {s:FSt} {fs:List (Nat×Nat)} {cs:List FV} {K:List FV→Prop} (h:K cs):zV c s fs [] cs K:=⟨cs,.nil,h⟩
theorem zV.one {c:Ctx} {t:List (Nat×FV)} {ob:List (Nat×zh)} {fs:List (Nat×Nat)} {i off ft:Nat} {x:Operand} {ps:List (Nat×Operand)} {cs:List FV} {K:List FV→Prop} {f:FV} (hx:evO t x=some f) (h1:f.one=true) (hi:fs[i]? = some (off,ft)) (hs:(c.ty ft).size=1) (hl:Nat.blt off cs.length=true) (h:zV c ⟨t,ob⟩ fs ps (cs.set off f) K):zV c ⟨t,ob⟩ fs ((i,x)::ps) cs K:=
 let ⟨cs',q1,q2⟩:=h;⟨cs',.one (ZR hx) hi (xm h1) h1 hs hl q1,q2⟩
theorem zV.agg {c:Ctx} {s:FSt} {fs:List (Nat×Nat)} {i off ft:Nat} {x:Operand} {gs:List FV} {ps:List (Nat×Operand)} {cs:List FV} {K:List FV→Prop} (hx:s.ev x=.agg gs) (hi:fs[i]? = some (off,ft)) (h1:gs.all FV.one=true) (hs:gs.length=(c.ty ft).size) (hp:gs≠[]) (hl:Nat.ble (off+gs.length) cs.length=true) (h:zV c s fs ps (zl6 cs off gs) K):zV c s fs ((i,x)::ps) cs K:=
 let ⟨cs',q1,q2⟩:=h;⟨cs',.agg hx hi h1 hs hp hl q1,q2⟩
def TK.known:TK→Bool
 | .other => false
 | _ => true
theorem TK.known_ne {k:TK} (h:k.known=true):k≠.other:=by rintro rfl;cases h

inductive Zq (t:List (Nat×FV)) (ob:List (Nat×zh)) (m:zcM):Operand→FV→Prop where
 | plain {x:Operand} {f:FV} (h:(⟨t, ob⟩:FSt).ev x=f) (hn:f.hand=none):Zq t ob m x f
 | nil {x:Operand} {sz:Nat} (h:(⟨t, ob⟩:FSt).ev x=.nil):Zq t ob m x (.list sz [])
 | sub {x:Operand} {f g:FV} (h:(⟨t, ob⟩:FSt).ev x=f) (hn:f.hand=none) (hle:FV.le f g):Zq t ob m x g
 | own {x:Operand} {id ver n E sz:Nat} {es:List (List FV)} {lf:ya} (h:(⟨t, ob⟩:FSt).ev x=(.own id ver 0 n)) (hb:(⟨t, ob⟩:FSt).ob id=⟨ver, lf, E, sz, es⟩) (hl:lf.row=true) (hm:m=.sh → lf=.shut) (hn:n=es.length):Zq t ob m x (.list sz es)
 | part {x:Operand} {id ver o n E sz:Nat} {es:List (List FV)} {lf:ya} (h:(⟨t, ob⟩:FSt).ev x=(.own id ver o n)) (hb:(⟨t, ob⟩:FSt).ob id=⟨ver, lf, E, sz, es⟩) (hl:lf.row=true) (hm:m=.sh → lf=.shut):Zq t ob m x (.list sz ((es.drop o).take n))
theorem Zq.ok {t:List (Nat×FV)} {ob:List (Nat×zh)} {m:zcM}:∀ {x:Operand} {g:FV},Zq t ob m x g→VX ⟨t,ob⟩ m ((⟨t,ob⟩:FSt).ev x) g
 | _, _, .plain h hn => by rw [h]; exact .plain _ hn
 | _, _, .sub h hn hle => by rw [h]; exact .sub _ _ hn hle
 | _, _, .nil h => by rw [h]; exact .nil _
 | _, _, .own (id := id) (ver := ver) (n := n) (es := es) h hb hl hm hn => by
  rw [h]
  have:=VX.own (s:=⟨t,ob⟩) (m:=m) id ver 0 n (zO hb (ya.row_ne hl)) (by rw [hb];exact hl) (by rw [hb];exact hm)
  rw [hb] at this
  simpa [hn] using this
 | _, _, .part (id := id) (ver := ver) (o := o) (n := n) h hb hl hm => by
  rw [h]
  have:=VX.own (s:=⟨t,ob⟩) (m:=m) id ver o n (zO hb (ya.row_ne hl)) (by rw [hb];exact hl) (by rw [hb];exact hm)
  rw [hb] at this
  exact this
inductive zG (t:List (Nat×FV)) (ob:List (Nat×zh)) (m:zcM):List Operand→List FV→Prop where
 | nil:zG t ob m [] []
 | cons {x:Operand} {xs:List Operand} {g:FV} {gs:List FV} (h:Zq t ob m x g) (hs:zG t ob m xs gs):zG t ob m (x :: xs) (g :: gs)
theorem zG.ok {t:List (Nat×FV)} {ob:List (Nat×zh)} {m:zcM}:∀ {xs:List Operand} {gs:List FV},zG t ob m xs gs→Yf ⟨t,ob⟩ m xs gs
 | _, _, .nil => .nil
 | _, _, .cons h hs => .cons h.ok hs.ok

inductive Yg (t:List (Nat×FV)) (ob:List (Nat×zh)):Operand→Nat→List (List FV)→Prop where
 | nil {x:Operand} {sz:Nat} (h:(⟨t, ob⟩:FSt).ev x=.nil):Yg t ob x sz []
 | list {x:Operand} {sz:Nat} {es:List (List FV)} (h:(⟨t, ob⟩:FSt).ev x=(.list sz es)):Yg t ob x sz es
 | own {x:Operand} {id ver n E sz:Nat} {es:List (List FV)} {lf:ya} (h:(⟨t, ob⟩:FSt).ev x=(.own id ver 0 n)) (hb:(⟨t, ob⟩:FSt).ob id=⟨ver, lf, E, sz, es⟩) (hl:lf.row=true) (hn:n=es.length):Yg t ob x sz es
 | part {x:Operand} {id ver o n E sz:Nat} {es:List (List FV)} {lf:ya} (h:(⟨t, ob⟩:FSt).ev x=(.own id ver o n)) (hb:(⟨t, ob⟩:FSt).ob id=⟨ver, lf, E, sz, es⟩) (hl:lf.row=true):Yg t ob x sz ((es.drop o).take n)
theorem Yg.ok {t:List (Nat×FV)} {ob:List (Nat×zh)}:∀ {x:Operand} {sz:Nat} {es:List (List FV)},Yg t ob x sz es→Src ⟨t,ob⟩ ((⟨t,ob⟩:FSt).ev x) sz es
 | _, _, _, .nil h => by rw [h]; exact .nil _
 | _, _, _, .list h => by rw [h]; exact .list _ _
 | _, _, _, .own (id := id) (ver := ver) (n := n) h hb hl hn => by
  rw [h]
  have:=Src.own (s:=⟨t,ob⟩) id ver 0 n (zO hb (ya.row_ne hl)) (by rw [hb];exact hl)
  rw [hb] at this
  simpa [hn] using this
 | _, _, _, .part (id := id) (ver := ver) (o := o) (n := n) h hb hl => by
  rw [h]
  have:=Src.own (s:=⟨t,ob⟩) id ver o n (zO hb (ya.row_ne hl)) (by rw [hb];exact hl)
  rw [hb] at this
  exact this

inductive LoR (s:FSt):Option Operand→Nat→Prop where
 | none:LoR s none 0
 | some {y:Operand} {k:IntKind} {l:Nat} (h:s.ev y=.int k (l:Nat)):LoR s (some y) l
 | lit {y:Operand} {k:IntKind} {n:Int} {l:Nat} (h:s.ev y=.int k n) (e:n=(l:Nat)):LoR s (some y) l
inductive HiR (s:FSt):Option Operand→Nat→Nat→Prop where
 | none {m:Nat}:HiR s none m m
 | some {y:Operand} {k:IntKind} {m l:Nat} (h:s.ev y=.int k (l:Nat)):HiR s (some y) m l
 | lit {y:Operand} {k:IntKind} {n:Int} {m l:Nat} (h:s.ev y=.int k n) (e:n=(l:Nat)):HiR s (some y) m l
theorem LoR.ok {s:FSt} {x:Option Operand} {l:Nat} (h:LoR s x l):s.lo x l:=by
 cases h with
 | none => exact rfl
 | some h => exact ⟨_, h⟩
 | lit h e => subst e; exact ⟨_, h⟩
theorem HiR.ok {s:FSt} {x:Option Operand} {m l:Nat} (h:HiR s x m l):s.hi x m l:=by
 cases h with
 | none => exact rfl
 | some h => exact ⟨_, h⟩
 | lit h e => subst e; exact ⟨_, h⟩

theorem zf {α:Type} [Inhabited α] {fv:α→List FV} {l:List α} {j:Nat} (h:j<l.length):(l.map fv).getD j []=fv (nth l j):=by
 rw [List.getD_eq_getElem?_getD,List.getElem?_map,List.getElem?_eq_getElem h,nth_eq h];rfl

theorem zhd {cs fs:List FV} (h:cs.length=fs.length):splice cs 0 fs=fs:=by
 unfold splice
 rw [List.take_zero,List.nil_append,Nat.zero_add,List.drop_of_length_le (by omega),List.append_nil]

section
variable {c:Ctx} {t:List (Nat×FV)} {ob:List (Nat×zh)} {d:Nat}
theorem zbl {T:Nat} {x:Operand} {sz j:Nat} {es:List (List FV)} {cs:List FV} {by_:Nat} {kk:TK} {ze:List FV} (hx:(⟨t,ob⟩:FSt).ev x=(.eptr sz es j 0)) (hT:c.ty T=⟨kk,sz,by_,ze⟩) (hk:kk.agg? = some true) (hp:0<sz) (hj:j<es.length) (hcs:es.getD j []=cs) (hl:cs.length=sz):Eff c ⟨t,ob⟩ d (.load T x) (.agg cs) []:=by
 have hk' : (c.ty T).k.agg? = some true:=by rw [hT];exact hk
 have:=Eff.loadEptr (c:=c) (s:=⟨t,ob⟩) (d:=d) hk' x hx hj (by rw [hT];simp) hp
 rw [hcs] at this
 unfold ZS at this
 rw [hk'] at this
 dsimp only at this
 rwa [hT,List.drop_zero,List.take_of_length_le (by rw [hl];exact Nat.le_refl _)] at this
theorem zbm {T:Nat} {x:Operand} {id ver E sz j:Nat} {lf:ya} {es:List (List FV)} {cs:List FV} {by_:Nat} {kk:TK} {ze:List FV} (hx:(⟨t,ob⟩:FSt).ev x=(.ptr id ver j 0)) (hT:c.ty T=⟨kk,sz,by_,ze⟩) (hk:kk.agg? = some true) (hp:0<sz) (hb:(⟨t,ob⟩:FSt).ob id=⟨ver,lf,E,sz,es⟩) (hlf:lf.row=true) (hj:j<es.length) (hcs:es.getD j []=cs) (hl:cs.length=sz) :
  Eff c ⟨t,ob⟩ d (.load T x) (.agg cs) []:=by
 have hk' : (c.ty T).k.agg? = some true:=by rw [hT];exact hk
 have:=Eff.loadPtr (c:=c) (s:=⟨t,ob⟩) (d:=d) hk' x hx (zO hb (ya.row_ne hlf)) (by rw [hb];exact hlf) (by rw [hb];exact hj) (by rw [hb,hT];simp) (by rw [hb];exact hp)
 rw [hb] at this
 dsimp only at this
 rw [hcs] at this
 unfold ZS at this
 rw [hk'] at this
 dsimp only at this
 rwa [hT,List.drop_zero,List.take_of_length_le (by rw [hl];exact Nat.le_refl _)] at this
theorem zgc {T o:Nat} {x y:Operand} {id ver E sz:Nat} {cs:List FV} {f:FV} (hx:(⟨t,ob⟩:FSt).ev x=(.ptr id ver 0 o)) (hy:(⟨t,ob⟩:FSt).ev y=f) (h1:f.one=true) (hk:(c.ty T).k.known=true) (hz:(c.ty T).size=1) (hb:(⟨t,ob⟩:FSt).ob id=⟨ver,.own,E,sz,[cs]⟩) (hcl:cs.length=sz) (ho:Nat.blt o sz=true) :
  Eff c ⟨t,ob⟩ 0 (.store T x y) .undef [(id,⟨ver,.own,E,sz,[cs.set o f]⟩)]:=by
 have ho':=Nat.le_of_ble_eq_true ho
 have hc:=xm h1
 have:=Eff.store (c:=c) (s:=⟨t,ob⟩) (d:=0) (TK.known_ne hk) x y hx (by rw [hb]) (by rw [hb]) hy (by rw [hc];simp [h1]) (by rw [hz,hc];rfl) (by rw [hb];exact Nat.zero_lt_one) (by rw [hb];dsimp only;omega)
 rw [hb] at this
 have e:=Yw (f:=f) (show o<cs.length by omega)
 simpa [hc,e] using this
theorem zbn {T j o:Nat} {x y:Operand} {id ver E sz:Nat} {es:List (List FV)} {cs:List FV} {f:FV} (hx:(⟨t,ob⟩:FSt).ev x=(.ptr id ver j o)) (hy:(⟨t,ob⟩:FSt).ev y=f) (h1:f.one=true) (hk:(c.ty T).k.known=true) (hz:(c.ty T).size=1) (hb:(⟨t,ob⟩:FSt).ob id=⟨ver,.own,E,sz,es⟩) (hj:j<es.length) (hcs:es.getD j []=cs) (hcl:cs.length=sz) (ho:Nat.blt o sz=true) :
  Eff c ⟨t,ob⟩ 0 (.store T x y) .undef [(id,⟨ver,.own,E,sz,es.set j (cs.set o f)⟩)]:=by
 have ho':=Nat.le_of_ble_eq_true ho
 have hc:=xm h1
 have:=Eff.store (c:=c) (s:=⟨t,ob⟩) (d:=0) (TK.known_ne hk) x y hx (by rw [hb]) (by rw [hb]) hy (by rw [hc];simp [h1]) (by rw [hz,hc];rfl) (by rw [hb];exact hj) (by rw [hb];dsimp only;omega)
 rw [hb] at this
 have e:=Yw (f:=f) (show o<cs.length by omega)
 rw [hc] at this
 dsimp only at this
 rw [hcs,e] at this
 exact this
theorem UF {T:Nat} {x y:Operand} {id ver E sz:Nat} {cs fs:List FV} (hx:(⟨t,ob⟩:FSt).ev x=(.ptr id ver 0 0)) (hy:(⟨t,ob⟩:FSt).ev y=(.agg fs)) (h1:fs.all FV.one=true) (hk:(c.ty T).k.known=true) (hz:(c.ty T).size=sz) (hb:(⟨t,ob⟩:FSt).ob id=⟨ver,.own,E,sz,[cs]⟩) (hl:cs.length=sz) (hfl:fs.length=sz) :
  Eff c ⟨t,ob⟩ 0 (.store T x y) .undef [(id,⟨ver,.own,E,sz,[fs]⟩)]:=by
 have:=Eff.store (c:=c) (s:=⟨t,ob⟩) (d:=0) (TK.known_ne hk) x y hx (by rw [hb]) (by rw [hb]) hy h1 (by rw [hz];exact hfl) (by rw [hb];exact Nat.zero_lt_one) (by rw [hb,hz];simp)
 rw [hb] at this
 simpa [FV.cells,zhd (hl.trans hfl.symm)] using this
theorem zfp {T e sz by_ id ver n:Nat} {kk:TK} {z:List FV} {es es2:List (List FV)} {x y:Operand} (hx:(⟨t,ob⟩:FSt).ev x=(.own id ver 0 n)) (hb:(⟨t,ob⟩:FSt).ob id=⟨ver,.own,e,sz,es⟩) (hn:n=es.length) (hT:(c.ty T).k=.slice e) (he:c.ty e=⟨kk,sz,by_,z⟩) (hk:kk.known=true) (hp:0<sz) (hy:Yg t ob y sz es2)
  (hbb:(es.length+es2.length) * by_≤140737488355328) (hm:es.length+es2.length≤140737488355328) {v0 E0 sz0:Nat} {lf0:ya} {es0:List (List FV)} (hv:(⟨t,ob⟩:FSt).ob d=⟨v0,lf0,E0,sz0,es0⟩) :
  Eff c ⟨t,ob⟩ d (.call { callee:=.builtin .append,args:=#[x,y],argTypes:=#[T,T] }) (.own d (v0+1) 0 (es++es2).length) [(id,⟨ver,.dead,e,sz,es⟩),(d,⟨v0+1,.own,e,sz,es++es2⟩)]:=by
 have hbas:Bas ⟨t,ob⟩ (.own id ver 0 n) sz es (some id):=by
  have:=Bas.own (s:=⟨t,ob⟩) id ver (by rw [hb]) (by rw [hb]) n (by rw [hb];exact hn)
  rw [hb] at this;exact this
 have:=Eff.append (c:=c) (s:=⟨t,ob⟩) (d:=d) (i:=some id) hT (by rw [he];exact TK.known_ne hk) (by rw [he];exact hp) x y hx rfl (by rw [he];exact hbas) (fun k h=>by injection h with h;subst h;rw [hb]) (by rw [he];exact hy.ok) (by rw [he];exact hbb) hm
 rw [he] at this
 simpa [ZQ,Zm hv,hb] using this
theorem zhJ {T e sz by_ id ver n:Nat} {kk:TK} {z:List FV} {es es2:List (List FV)} {x y:Operand} (hx:(⟨t,ob⟩:FSt).ev x=(.own id ver 0 n)) (hb:(⟨t,ob⟩:FSt).ob id=⟨ver,.own,e,sz,es⟩) (hn:n=es.length) (hT:(c.ty T).k=.slice e) (he:c.ty e=⟨kk,sz,by_,z⟩) (hk:kk.known=true) (hp:0<sz) (hy:Yg t ob y sz es2)
  (hbb:(es.length+es2.length) * by_≤140737488355328) (hm:es.length+es2.length≤140737488355328) {v0 E0 sz0:Nat} {lf0:ya} {es0:List (List FV)} (hv:(⟨t,ob⟩:FSt).ob d=⟨v0,lf0,E0,sz0,es0⟩) :
  Eff c ⟨t,ob⟩ d (.call { callee:=.builtin .append,args:=#[x,y],argTypes:=#[T,T] }) (.list sz (es++es2)) [(id,⟨ver,.dead,e,sz,es⟩),(d,⟨v0+1,.own,e,sz,es++es2⟩),(d,⟨v0+1,.dead,e,sz,es++es2⟩)]:=by
 have hbas:Bas ⟨t,ob⟩ (.own id ver 0 n) sz es (some id):=by
  have:=Bas.own (s:=⟨t,ob⟩) id ver (by rw [hb]) (by rw [hb]) n (by rw [hb];exact hn)
  rw [hb] at this;exact this
 have:=Eff.appendS (c:=c) (s:=⟨t,ob⟩) (d:=d) (i:=some id) hT (by rw [he];exact TK.known_ne hk) (by rw [he];exact hp) x y hx rfl (by rw [he];exact hbas) (fun k h=>by injection h with h;subst h;rw [hb]) (by rw [he];exact hy.ok) (by rw [he];exact hbb) hm
 rw [he] at this
 simpa [ZQ,Zm hv,hb] using this
theorem zeD {T e by_ by2:Nat} {kk:TK} {z:List FV} {z0 z1 f g:FV} {x y:Operand} (hx:(⟨t,ob⟩:FSt).ev x=f) (hy:(⟨t,ob⟩:FSt).ev y=g) (h1:f.one=true) (h2:g.one=true) (hT:c.ty T=⟨.arr 2 e,2,by_,[z0,z1]⟩) (he:c.ty e=⟨kk,1,by2,z⟩) (hk:kk.known=true) :
  Eff c ⟨t,ob⟩ d (.build T #[(0,x),(1,y)]) (.agg [f,g]) []:=by
 refine .buildA (n:=2) (e:=e) (by rw [hT]) (by rw [he];exact TK.known_ne hk) _ ?_
 rw [hT,he]
 show Zz (fun i=>some (i * 1,1)) [z0,z1] [(0,(⟨t,ob⟩:FSt).ev x),(1,(⟨t,ob⟩:FSt).ev y)]=some [f,g]
 rw [hx,hy,Zv (off:=0) (size:=1) rfl (by rw [xm h1];simpa using h1) (by rw [xm h1];rfl) (by simp),xm h1]
 rw [Zv (off:=1) (size:=1) rfl (by rw [xm h2];simpa using h2) (by rw [xm h2];rfl) (by simp [splice]),xm h2]
 rfl
end

section
variable {c:Ctx} {ops:Array Oper} {rest:List Oper} {t:List (Nat×FV)} {ob:List (Nat×zh)} {d:Nat} {ty:TypeId} {pos:String} {af:Array Edge} {g:Option (Nat×Bool)} {Q:FSt→Prop} {QD:FSt→List Rec→Prop} {tr:List Rec}
theorem yh {s:FSt} {op:Op} {f:FV} {wr:List (Nat×zh)} (hd:Nat.blt d c.N=true) (h:Eff c s d op f wr):Stp c s ⟨some d,op,ty,pos,af,g⟩ f wr d:=
 ⟨.inl rfl,(fun _ e=>by injection e with e;subst e;exact Nat.le_of_ble_eq_true hd),h⟩
theorem zjk {s:FSt} {T:TypeId} {x y:Operand} {f:FV} {wr:List (Nat×zh)} (h:Eff c s d (.store T x y) f wr):Stp c s ⟨none,.store T x y,ty,pos,af,g⟩ f wr d:=
 ⟨.inr ⟨rfl,.inl ⟨_,_,_,rfl⟩⟩,(fun _ e=>by cases e),h⟩
theorem zmt {s:FSt} {T:TypeId} {x y z:Operand} {f:FV} {wr:List (Nat×zh)} (h:Eff c s d (.mapUpdate T x y z) f wr):Stp c s ⟨none,.mapUpdate T x y z,ty,pos,af,g⟩ f wr d:=
 ⟨.inr ⟨rfl,.inr ⟨_,_,_,_,rfl⟩⟩,(fun _ e=>by cases e),h⟩
theorem za {x:Operand} {f:FV} (hx:evO t x=some f) (hd:Nat.blt d c.N=true) (hw:zL ops ⟨t,ob⟩ ⟨some d,.move x,ty,pos,af,g⟩ true) (k:zc c ops rest ⟨((d,f)::t),ob⟩ Q):zc c ops (⟨some d,.move x,ty,pos,af,g⟩::rest) ⟨t,ob⟩ Q:=
 zc.cons (f:=f) (wr:=[]) (d:=d) (yh hd (by have:=Eff.move (c:=c) (s:=⟨t,ob⟩) (d:=d) x;rwa [ZR hx] at this)) hw rfl k
theorem zS {x:Operand} {f:FV} (hx:evO t x=some f) (hd:Nat.blt d c.N=true) (hw:zL ops ⟨t,ob⟩ ⟨some d,.move x,ty,pos,af,g⟩ true) (k:zF c ops rest ⟨((d,f)::t),ob⟩ (tr++[⟨⟨some d,.move x,ty,pos,af,g⟩,f,[],xp ⟨t,ob⟩ d (.move x)⟩]) QD):zF c ops (⟨some d,.move x,ty,pos,af,g⟩::rest) ⟨t,ob⟩ tr QD:=
 zF.cons (f:=f) (wr:=[]) (d:=d) (yh hd (by have:=Eff.move (c:=c) (s:=⟨t,ob⟩) (d:=d) x;rwa [ZR hx] at this)) hw rfl rfl k
theorem zb {x:Operand} {f:FV} (hx:evO t x=some f) (hd:Nat.blt d c.N=true) (hw:zL ops ⟨t,ob⟩ ⟨some d,.assign x,ty,pos,af,g⟩ true) (k:zc c ops rest ⟨((d,f)::t),ob⟩ Q):zc c ops (⟨some d,.assign x,ty,pos,af,g⟩::rest) ⟨t,ob⟩ Q:=
 zc.cons (f:=f) (wr:=[]) (d:=d) (yh hd (by have:=Eff.assign (c:=c) (s:=⟨t,ob⟩) (d:=d) x;rwa [ZR hx] at this)) hw rfl k
theorem yW {x:Operand} {f:FV} (hx:evO t x=some f) (hd:Nat.blt d c.N=true) (hw:zL ops ⟨t,ob⟩ ⟨some d,.assign x,ty,pos,af,g⟩ true) (k:zF c ops rest ⟨((d,f)::t),ob⟩ (tr++[⟨⟨some d,.assign x,ty,pos,af,g⟩,f,[],xp ⟨t,ob⟩ d (.assign x)⟩]) QD):zF c ops (⟨some d,.assign x,ty,pos,af,g⟩::rest) ⟨t,ob⟩ tr QD:=
 zF.cons (f:=f) (wr:=[]) (d:=d) (yh hd (by have:=Eff.assign (c:=c) (s:=⟨t,ob⟩) (d:=d) x;rwa [ZR hx] at this)) hw rfl rfl k
theorem zJ {q x y:Operand} {f:FV} (hq:(⟨t,ob⟩:FSt).ev q=(.bool true)) (hx:evO t x=some f) (hd:Nat.blt d c.N=true) (hw:zL ops ⟨t,ob⟩ ⟨some d,.pick q x y,ty,pos,af,g⟩ true) (k:zc c ops rest ⟨((d,f)::t),ob⟩ Q):zc c ops (⟨some d,.pick q x y,ty,pos,af,g⟩::rest) ⟨t,ob⟩ Q:=
 zc.cons (f:=f) (wr:=[]) (d:=d) (yh hd (by have:=Eff.pick (c:=c) (s:=⟨t,ob⟩) (d:=d) q x y hq;rw [if_pos rfl,ZR hx] at this;exact this)) hw rfl k
theorem Yb {q x y:Operand} {f:FV} (hq:(⟨t,ob⟩:FSt).ev q=(.bool true)) (hx:evO t x=some f) (hd:Nat.blt d c.N=true) (hw:zL ops ⟨t,ob⟩ ⟨some d,.pick q x y,ty,pos,af,g⟩ true) (k:zF c ops rest ⟨((d,f)::t),ob⟩ (tr++[⟨⟨some d,.pick q x y,ty,pos,af,g⟩,f,[],xp ⟨t,ob⟩ d (.pick q x y)⟩]) QD):zF c ops (⟨some d,.pick q x y,ty,pos,af,g⟩::rest) ⟨t,ob⟩ tr QD:=
 zF.cons (f:=f) (wr:=[]) (d:=d) (yh hd (by have:=Eff.pick (c:=c) (s:=⟨t,ob⟩) (d:=d) q x y hq;rw [if_pos rfl,ZR hx] at this;exact this)) hw rfl rfl k
theorem zK {q x y:Operand} {f:FV} (hq:(⟨t,ob⟩:FSt).ev q=(.bool false)) (hx:evO t y=some f) (hd:Nat.blt d c.N=true) (hw:zL ops ⟨t,ob⟩ ⟨some d,.pick q x y,ty,pos,af,g⟩ true) (k:zc c ops rest ⟨((d,f)::t),ob⟩ Q):zc c ops (⟨some d,.pick q x y,ty,pos,af,g⟩::rest) ⟨t,ob⟩ Q:=
 zc.cons (f:=f) (wr:=[]) (d:=d) (yh hd (by have:=Eff.pick (c:=c) (s:=⟨t,ob⟩) (d:=d) q x y hq;rw [if_neg (by decide),ZR hx] at this;exact this)) hw rfl k
theorem Ya {q x y:Operand} {f:FV} (hq:(⟨t,ob⟩:FSt).ev q=(.bool false)) (hx:evO t y=some f) (hd:Nat.blt d c.N=true) (hw:zL ops ⟨t,ob⟩ ⟨some d,.pick q x y,ty,pos,af,g⟩ true) (k:zF c ops rest ⟨((d,f)::t),ob⟩ (tr++[⟨⟨some d,.pick q x y,ty,pos,af,g⟩,f,[],xp ⟨t,ob⟩ d (.pick q x y)⟩]) QD):zF c ops (⟨some d,.pick q x y,ty,pos,af,g⟩::rest) ⟨t,ob⟩ tr QD:=
 zF.cons (f:=f) (wr:=[]) (d:=d) (yh hd (by have:=Eff.pick (c:=c) (s:=⟨t,ob⟩) (d:=d) q x y hq;rw [if_neg (by decide),ZR hx] at this;exact this)) hw rfl rfl k
theorem zu {T T2:TypeId} {x y:Operand} {m n:Int} (hx:(⟨t,ob⟩:FSt).ev x=.int .i64 m) (hy:(⟨t,ob⟩:FSt).ev y=.int .i64 n) (hr:-9223372036854775808≤m+n∧m+n≤9223372036854775807) (hd:Nat.blt d c.N=true) (hw:zL ops ⟨t,ob⟩ ⟨some d,.binOp .add T x y T2,ty,pos,af,g⟩ true) (k:zc c ops rest ⟨((d,(.int .i64 (m+n)))::t),ob⟩ Q):zc c ops (⟨some d,.binOp .add T x y T2,ty,pos,af,g⟩::rest) ⟨t,ob⟩ Q:=
 zc.cons (yh hd (.ibin .add T T2 x y hx hy (by simp only [ibin];rw [Wu _ hr]))) hw rfl k
theorem zlN {T T2:TypeId} {x y:Operand} {m n:Int} (hx:(⟨t,ob⟩:FSt).ev x=.int .i64 m) (hy:(⟨t,ob⟩:FSt).ev y=.int .i64 n) (hr:-9223372036854775808≤m+n∧m+n≤9223372036854775807) (hd:Nat.blt d c.N=true) (hw:zL ops ⟨t,ob⟩ ⟨some d,.binOp .add T x y T2,ty,pos,af,g⟩ true) (k:zF c ops rest ⟨((d,(.int .i64 (m+n)))::t),ob⟩ (tr++[⟨⟨some d,.binOp .add T x y T2,ty,pos,af,g⟩,(.int .i64 (m+n)),[],xp ⟨t,ob⟩ d (.binOp .add T x y T2)⟩]) QD):zF c ops (⟨some d,.binOp .add T x y T2,ty,pos,af,g⟩::rest) ⟨t,ob⟩ tr QD:=
 zF.cons (yh hd (.ibin .add T T2 x y hx hy (by simp only [ibin];rw [Wu _ hr]))) hw rfl rfl k
theorem zcA {T T2:TypeId} {x y:Operand} {kk:IntKind} {m n:Int} (hx:(⟨t,ob⟩:FSt).ev x=.int kk m) (hy:(⟨t,ob⟩:FSt).ev y=.int kk n) (hd:Nat.blt d c.N=true) (hw:zL ops ⟨t,ob⟩ ⟨some d,.binOp .add T x y T2,ty,pos,af,g⟩ true) (k:zc c ops rest ⟨((d,(.int kk (kk.wrap (m+n))))::t),ob⟩ Q):zc c ops (⟨some d,.binOp .add T x y T2,ty,pos,af,g⟩::rest) ⟨t,ob⟩ Q:=
 zc.cons (yh hd (.ibin .add T T2 x y hx hy rfl)) hw rfl k
theorem zaA {T T2:TypeId} {x y:Operand} {m n:Int} (hx:(⟨t,ob⟩:FSt).ev x=.int .i64 m) (hy:(⟨t,ob⟩:FSt).ev y=.int .i64 n) (hr:-9223372036854775808≤m - n∧m - n≤9223372036854775807) (hd:Nat.blt d c.N=true) (hw:zL ops ⟨t,ob⟩ ⟨some d,.binOp .sub T x y T2,ty,pos,af,g⟩ true) (k:zc c ops rest ⟨((d,(.int .i64 (m - n)))::t),ob⟩ Q):zc c ops (⟨some d,.binOp .sub T x y T2,ty,pos,af,g⟩::rest) ⟨t,ob⟩ Q:=
 zc.cons (yh hd (.ibin .sub T T2 x y hx hy (by simp only [ibin];rw [Wu _ hr]))) hw rfl k
theorem zku {T T2:TypeId} {x y:Operand} {m n:Int} (hx:(⟨t,ob⟩:FSt).ev x=.int .i64 m) (hy:(⟨t,ob⟩:FSt).ev y=.int .i64 n) (hr:-9223372036854775808≤m - n∧m - n≤9223372036854775807) (hd:Nat.blt d c.N=true) (hw:zL ops ⟨t,ob⟩ ⟨some d,.binOp .sub T x y T2,ty,pos,af,g⟩ true) (k:zF c ops rest ⟨((d,(.int .i64 (m - n)))::t),ob⟩ (tr++[⟨⟨some d,.binOp .sub T x y T2,ty,pos,af,g⟩,(.int .i64 (m - n)),[],xp ⟨t,ob⟩ d (.binOp .sub T x y T2)⟩]) QD):zF c ops (⟨some d,.binOp .sub T x y T2,ty,pos,af,g⟩::rest) ⟨t,ob⟩ tr QD:=
 zF.cons (yh hd (.ibin .sub T T2 x y hx hy (by simp only [ibin];rw [Wu _ hr]))) hw rfl rfl k
theorem zlS {T T2:TypeId} {x y:Operand} {m n:Int} (hx:(⟨t,ob⟩:FSt).ev x=.int .i64 m) (hy:(⟨t,ob⟩:FSt).ev y=.int .i64 n) (hr:-9223372036854775808≤m * n∧m * n≤9223372036854775807) (hd:Nat.blt d c.N=true) (hw:zL ops ⟨t,ob⟩ ⟨some d,.binOp .mul T x y T2,ty,pos,af,g⟩ true) (k:zc c ops rest ⟨((d,(.int .i64 (m * n)))::t),ob⟩ Q):zc c ops (⟨some d,.binOp .mul T x y T2,ty,pos,af,g⟩::rest) ⟨t,ob⟩ Q:=
 zc.cons (yh hd (.ibin .mul T T2 x y hx hy (by simp only [ibin];rw [Wu _ hr]))) hw rfl k
theorem zay {T T2:TypeId} {x y:Operand} {kk:IntKind} {m n:Int} (hx:(⟨t,ob⟩:FSt).ev x=.int kk m) (hy:(⟨t,ob⟩:FSt).ev y=.int kk n) (hd:Nat.blt d c.N=true) (hw:zL ops ⟨t,ob⟩ ⟨some d,.binOp .mul T x y T2,ty,pos,af,g⟩ true) (k:zc c ops rest ⟨((d,(.int kk (kk.wrap (m * n))))::t),ob⟩ Q):zc c ops (⟨some d,.binOp .mul T x y T2,ty,pos,af,g⟩::rest) ⟨t,ob⟩ Q:=
 zc.cons (yh hd (.ibin .mul T T2 x y hx hy rfl)) hw rfl k
theorem yG {T T2:TypeId} {x y:Operand} {kk:IntKind} {m n:Int} (hx:(⟨t,ob⟩:FSt).ev x=.int kk m) (hy:(⟨t,ob⟩:FSt).ev y=.int kk n) (hd:Nat.blt d c.N=true) (hw:zL ops ⟨t,ob⟩ ⟨some d,.binOp .eql T x y T2,ty,pos,af,g⟩ true) (k:zc c ops rest ⟨((d,(.bool (decide (m=n))))::t),ob⟩ Q):zc c ops (⟨some d,.binOp .eql T x y T2,ty,pos,af,g⟩::rest) ⟨t,ob⟩ Q:=
 zc.cons (yh hd (.ibin .eql T T2 x y hx hy rfl)) hw rfl k
theorem ziB {T T2:TypeId} {x y:Operand} {kk:IntKind} {m n:Int} (hx:(⟨t,ob⟩:FSt).ev x=.int kk m) (hy:(⟨t,ob⟩:FSt).ev y=.int kk n) (hd:Nat.blt d c.N=true) (hw:zL ops ⟨t,ob⟩ ⟨some d,.binOp .eql T x y T2,ty,pos,af,g⟩ true) (k:zF c ops rest ⟨((d,(.bool (decide (m=n))))::t),ob⟩ (tr++[⟨⟨some d,.binOp .eql T x y T2,ty,pos,af,g⟩,(.bool (decide (m=n))),[],xp ⟨t,ob⟩ d (.binOp .eql T x y T2)⟩]) QD):zF c ops (⟨some d,.binOp .eql T x y T2,ty,pos,af,g⟩::rest) ⟨t,ob⟩ tr QD:=
 zF.cons (yh hd (.ibin .eql T T2 x y hx hy rfl)) hw rfl rfl k
theorem xt {T T2:TypeId} {x y:Operand} {kk:IntKind} {m n:Int} (hx:(⟨t,ob⟩:FSt).ev x=.int kk m) (hy:(⟨t,ob⟩:FSt).ev y=.int kk n) (hd:Nat.blt d c.N=true) (hw:zL ops ⟨t,ob⟩ ⟨some d,.binOp .neq T x y T2,ty,pos,af,g⟩ true) (k:zc c ops rest ⟨((d,(.bool (decide (m≠n))))::t),ob⟩ Q):zc c ops (⟨some d,.binOp .neq T x y T2,ty,pos,af,g⟩::rest) ⟨t,ob⟩ Q:=
 zc.cons (yh hd (.ibin .neq T T2 x y hx hy (by simp only [ibin];congr 2;by_cases h:m=n <;> simp [h,bne]))) hw rfl k
theorem zdQ {T T2:TypeId} {x y:Operand} {kk:IntKind} {m n:Int} (hx:(⟨t,ob⟩:FSt).ev x=.int kk m) (hy:(⟨t,ob⟩:FSt).ev y=.int kk n) (hd:Nat.blt d c.N=true) (hw:zL ops ⟨t,ob⟩ ⟨some d,.binOp .neq T x y T2,ty,pos,af,g⟩ true) (k:zF c ops rest ⟨((d,(.bool (decide (m≠n))))::t),ob⟩ (tr++[⟨⟨some d,.binOp .neq T x y T2,ty,pos,af,g⟩,(.bool (decide (m≠n))),[],xp ⟨t,ob⟩ d (.binOp .neq T x y T2)⟩]) QD):zF c ops (⟨some d,.binOp .neq T x y T2,ty,pos,af,g⟩::rest) ⟨t,ob⟩ tr QD:=
 zF.cons (yh hd (.ibin .neq T T2 x y hx hy (by simp only [ibin];congr 2;by_cases h:m=n <;> simp [h,bne]))) hw rfl rfl k
theorem zX {T T2:TypeId} {x y:Operand} {kk:IntKind} {m n:Int} (hx:(⟨t,ob⟩:FSt).ev x=.int kk m) (hy:(⟨t,ob⟩:FSt).ev y=.int kk n) (hd:Nat.blt d c.N=true) (hw:zL ops ⟨t,ob⟩ ⟨some d,.binOp .lss T x y T2,ty,pos,af,g⟩ true) (k:zc c ops rest ⟨((d,(.bool (decide (m<n))))::t),ob⟩ Q):zc c ops (⟨some d,.binOp .lss T x y T2,ty,pos,af,g⟩::rest) ⟨t,ob⟩ Q:=
 zc.cons (yh hd (.ibin .lss T T2 x y hx hy rfl)) hw rfl k
theorem zks {T T2:TypeId} {x y:Operand} {kk:IntKind} {m n:Int} (hx:(⟨t,ob⟩:FSt).ev x=.int kk m) (hy:(⟨t,ob⟩:FSt).ev y=.int kk n) (hd:Nat.blt d c.N=true) (hw:zL ops ⟨t,ob⟩ ⟨some d,.binOp .lss T x y T2,ty,pos,af,g⟩ true) (k:zF c ops rest ⟨((d,(.bool (decide (m<n))))::t),ob⟩ (tr++[⟨⟨some d,.binOp .lss T x y T2,ty,pos,af,g⟩,(.bool (decide (m<n))),[],xp ⟨t,ob⟩ d (.binOp .lss T x y T2)⟩]) QD):zF c ops (⟨some d,.binOp .lss T x y T2,ty,pos,af,g⟩::rest) ⟨t,ob⟩ tr QD:=
 zF.cons (yh hd (.ibin .lss T T2 x y hx hy rfl)) hw rfl rfl k
theorem zlR {T T2:TypeId} {x y:Operand} {kk:IntKind} {m n:Int} (hx:(⟨t,ob⟩:FSt).ev x=.int kk m) (hy:(⟨t,ob⟩:FSt).ev y=.int kk n) (hd:Nat.blt d c.N=true) (hw:zL ops ⟨t,ob⟩ ⟨some d,.binOp .leq T x y T2,ty,pos,af,g⟩ true) (k:zc c ops rest ⟨((d,(.bool (decide (m≤n))))::t),ob⟩ Q):zc c ops (⟨some d,.binOp .leq T x y T2,ty,pos,af,g⟩::rest) ⟨t,ob⟩ Q:=
 zc.cons (yh hd (.ibin .leq T T2 x y hx hy rfl)) hw rfl k
theorem Ys {T T2:TypeId} {x y:Operand} {kk:IntKind} {m n:Int} (hx:(⟨t,ob⟩:FSt).ev x=.int kk m) (hy:(⟨t,ob⟩:FSt).ev y=.int kk n) (hd:Nat.blt d c.N=true) (hw:zL ops ⟨t,ob⟩ ⟨some d,.binOp .gtr T x y T2,ty,pos,af,g⟩ true) (k:zc c ops rest ⟨((d,(.bool (decide (m > n))))::t),ob⟩ Q):zc c ops (⟨some d,.binOp .gtr T x y T2,ty,pos,af,g⟩::rest) ⟨t,ob⟩ Q:=
 zc.cons (yh hd (.ibin .gtr T T2 x y hx hy rfl)) hw rfl k
theorem zlO {T T2:TypeId} {x y:Operand} {kk:IntKind} {m n:Int} (hx:(⟨t,ob⟩:FSt).ev x=.int kk m) (hy:(⟨t,ob⟩:FSt).ev y=.int kk n) (hd:Nat.blt d c.N=true) (hw:zL ops ⟨t,ob⟩ ⟨some d,.binOp .gtr T x y T2,ty,pos,af,g⟩ true) (k:zF c ops rest ⟨((d,(.bool (decide (m > n))))::t),ob⟩ (tr++[⟨⟨some d,.binOp .gtr T x y T2,ty,pos,af,g⟩,(.bool (decide (m > n))),[],xp ⟨t,ob⟩ d (.binOp .gtr T x y T2)⟩]) QD):zF c ops (⟨some d,.binOp .gtr T x y T2,ty,pos,af,g⟩::rest) ⟨t,ob⟩ tr QD:=
 zF.cons (yh hd (.ibin .gtr T T2 x y hx hy rfl)) hw rfl rfl k
theorem zd2 {T T2:TypeId} {x y:Operand} {kk:IntKind} {m n:Int} (hx:(⟨t,ob⟩:FSt).ev x=.int kk m) (hy:(⟨t,ob⟩:FSt).ev y=.int kk n) (hd:Nat.blt d c.N=true) (hw:zL ops ⟨t,ob⟩ ⟨some d,.binOp .geq T x y T2,ty,pos,af,g⟩ true) (k:zc c ops rest ⟨((d,(.bool (decide (m≥n))))::t),ob⟩ Q):zc c ops (⟨some d,.binOp .geq T x y T2,ty,pos,af,g⟩::rest) ⟨t,ob⟩ Q:=
 zc.cons (yh hd (.ibin .geq T T2 x y hx hy rfl)) hw rfl k
theorem zk7 {T T2:TypeId} {x y:Operand} {m n:Bool} (hx:(⟨t,ob⟩:FSt).ev x=.bool m) (hy:(⟨t,ob⟩:FSt).ev y=.bool n) (hT:(c.ty T).k=.bool) (hd:Nat.blt d c.N=true) (hw:zL ops ⟨t,ob⟩ ⟨some d,.binOp .neq T x y T2,ty,pos,af,g⟩ true) (k:zc c ops rest ⟨((d,(.bool (decide (m≠n))))::t),ob⟩ Q):zc c ops (⟨some d,.binOp .neq T x y T2,ty,pos,af,g⟩::rest) ⟨t,ob⟩ Q:=
 zc.cons (f:=(.bool (decide (m≠n)))) (wr:=[]) (d:=d) (yh hd (by have:=Eff.bbin (c:=c) (s:=⟨t,ob⟩) (d:=d) .neq (T2:=T2) x y hT hx hy (by simp);cases m <;> cases n <;> exact this)) hw rfl k
theorem zlT {T T2:TypeId} {x y:Operand} {m n:Int} (hx:(⟨t,ob⟩:FSt).ev x=.int .i64 m) (hy:(⟨t,ob⟩:FSt).ev y=.int .i64 n) (hr:0≤m∧0<n) (hd:Nat.blt d c.N=true) (hw:zL ops ⟨t,ob⟩ ⟨some d,.binOp .rem T x y T2,ty,pos,af,g⟩ true) (k:zc c ops rest ⟨((d,(.int .i64 (m % n)))::t),ob⟩ Q):zc c ops (⟨some d,.binOp .rem T x y T2,ty,pos,af,g⟩::rest) ⟨t,ob⟩ Q:=
 zc.cons (f:=(.int .i64 (m % n))) (wr:=[]) (d:=d) (yh hd (by have:=Eff.idiv (c:=c) (s:=⟨t,ob⟩) (d:=d) .rem T T2 x y hx hy (by omega) (.inr rfl);rw [if_neg (by decide),Int.tmod_eq_emod_of_nonneg hr.1] at this;exact this)) hw rfl k
theorem zk8 {T T2:TypeId} {x y:Operand} {kk:IntKind} {m n:Int} (hx:(⟨t,ob⟩:FSt).ev x=.int kk m) (hy:(⟨t,ob⟩:FSt).ev y=.int kk n) (hr:n≠0) (hd:Nat.blt d c.N=true) (hw:zL ops ⟨t,ob⟩ ⟨some d,.binOp .quo T x y T2,ty,pos,af,g⟩ true) (k:zc c ops rest ⟨((d,(.int kk (kk.wrap (m.tdiv n))))::t),ob⟩ Q):zc c ops (⟨some d,.binOp .quo T x y T2,ty,pos,af,g⟩::rest) ⟨t,ob⟩ Q:=
 zc.cons (f:=(.int kk (kk.wrap (m.tdiv n)))) (wr:=[]) (d:=d) (yh hd (by have:=Eff.idiv (c:=c) (s:=⟨t,ob⟩) (d:=d) .quo T T2 x y hx hy hr (.inl rfl);rwa [if_pos rfl] at this)) hw rfl k
theorem Xn {T:TypeId} {x:Operand} {b:Bool} (hx:(⟨t,ob⟩:FSt).ev x=.bool b) (hd:Nat.blt d c.N=true) (hw:zL ops ⟨t,ob⟩ ⟨some d,.unOp .not T x,ty,pos,af,g⟩ true) (k:zc c ops rest ⟨((d,(.bool (!b)))::t),ob⟩ Q):zc c ops (⟨some d,.unOp .not T x,ty,pos,af,g⟩::rest) ⟨t,ob⟩ Q:=
 zc.cons (yh hd (.not T x hx)) hw rfl k
theorem zkt {T:TypeId} {x:Operand} {b:Bool} (hx:(⟨t,ob⟩:FSt).ev x=.bool b) (hd:Nat.blt d c.N=true) (hw:zL ops ⟨t,ob⟩ ⟨some d,.unOp .not T x,ty,pos,af,g⟩ true) (k:zF c ops rest ⟨((d,(.bool (!b)))::t),ob⟩ (tr++[⟨⟨some d,.unOp .not T x,ty,pos,af,g⟩,(.bool (!b)),[],xp ⟨t,ob⟩ d (.unOp .not T x)⟩]) QD):zF c ops (⟨some d,.unOp .not T x,ty,pos,af,g⟩::rest) ⟨t,ob⟩ tr QD:=
 zF.cons (yh hd (.not T x hx)) hw rfl rfl k
theorem zfP {T T2:TypeId} {x:Operand} {kk:IntKind} {n:Int} (hx:(⟨t,ob⟩:FSt).ev x=.int kk n) (hT:(c.ty T).k.known=true) (hT2:(c.ty T2).k=.int .u64) (hr:0≤n∧n≤18446744073709551615) (hd:Nat.blt d c.N=true) (hw:zL ops ⟨t,ob⟩ ⟨some d,.convert T T2 x,ty,pos,af,g⟩ true) (k:zc c ops rest ⟨((d,(.int .u64 n))::t),ob⟩ Q):zc c ops (⟨some d,.convert T T2 x,ty,pos,af,g⟩::rest) ⟨t,ob⟩ Q:=
 zc.cons (f:=(.int .u64 n)) (wr:=[]) (d:=d) (yh hd (by have:=Eff.conv (c:=c) (s:=⟨t,ob⟩) (d:=d) (TK.known_ne hT) hT2 x hx;rwa [zkf hr] at this)) hw rfl k
theorem zj2 {T T2:TypeId} {x:Operand} {kk:IntKind} {n:Int} (hx:(⟨t,ob⟩:FSt).ev x=.int kk n) (hT:(c.ty T).k.known=true) (hT2:(c.ty T2).k=.int .i64) (hr:-9223372036854775808≤n∧n≤9223372036854775807) (hd:Nat.blt d c.N=true) (hw:zL ops ⟨t,ob⟩ ⟨some d,.convert T T2 x,ty,pos,af,g⟩ true) (k:zc c ops rest ⟨((d,(.int .i64 n))::t),ob⟩ Q):zc c ops (⟨some d,.convert T T2 x,ty,pos,af,g⟩::rest) ⟨t,ob⟩ Q:=
 zc.cons (f:=(.int .i64 n)) (wr:=[]) (d:=d) (yh hd (by have:=Eff.conv (c:=c) (s:=⟨t,ob⟩) (d:=d) (TK.known_ne hT) hT2 x hx;rwa [Wu _ hr] at this)) hw rfl k
theorem zd4 {T T2:TypeId} {x y:Operand} {kk yk:IntKind} {m n:Int} (hx:(⟨t,ob⟩:FSt).ev x=.int kk m) (hy:(⟨t,ob⟩:FSt).ev y=.int yk n) (hn:0≤n) (hd:Nat.blt d c.N=true) (hw:zL ops ⟨t,ob⟩ ⟨some d,.binOp .shr T x y T2,ty,pos,af,g⟩ true) (k:zc c ops rest ⟨((d,(.int kk (m.fdiv (2 ^ (min n.toNat kk.bits)))))::t),ob⟩ Q):zc c ops (⟨some d,.binOp .shr T x y T2,ty,pos,af,g⟩::rest) ⟨t,ob⟩ Q:=
 zc.cons (f:=(.int kk (m.fdiv (2 ^ (min n.toNat kk.bits))))) (wr:=[]) (d:=d) (yh hd (by have:=Eff.shift (c:=c) (s:=⟨t,ob⟩) (d:=d) .shr T T2 x y hx hy hn (.inr rfl);simpa using this)) hw rfl k
theorem zau {T T2:TypeId} {x y:Operand} {kk:IntKind} {m n:Int} (hx:(⟨t,ob⟩:FSt).ev x=.int kk m) (hy:(⟨t,ob⟩:FSt).ev y=.int kk n) (hd:Nat.blt d c.N=true) (hw:zL ops ⟨t,ob⟩ ⟨some d,.binOp .and T x y T2,ty,pos,af,g⟩ true) (k:zc c ops rest ⟨((d,(.int kk (kk.wrap (BitVec.ofInt kk.bits m &&& BitVec.ofInt kk.bits n).toNat)))::t),ob⟩ Q):zc c ops (⟨some d,.binOp .and T x y T2,ty,pos,af,g⟩::rest) ⟨t,ob⟩ Q:=
 zc.cons (yh hd (.ibin .and T T2 x y hx hy rfl)) hw rfl k
theorem yN {T e o n:Nat} {x:Operand} {id ver E sz:Nat} {lf:ya} {es:List (List FV)} (hx:(⟨t,ob⟩:FSt).ev x=.own id ver o n) (hT:(c.ty T).k=.slice e) (hb:(⟨t,ob⟩:FSt).ob id=⟨ver,lf,E,sz,es⟩) (hl:lf≠.dead) (hd:Nat.blt d c.N=true) (hw:zL ops ⟨t,ob⟩ ⟨some d,.call { callee:=.builtin .len,args:=#[x],argTypes:=#[T] },ty,pos,af,g⟩ true) (k:zc c ops rest ⟨((d,(.int .i64 n))::t),ob⟩ Q):zc c ops (⟨some d,.call { callee:=.builtin .len,args:=#[x],argTypes:=#[T] },ty,pos,af,g⟩::rest) ⟨t,ob⟩ Q:=
 zc.cons (yh hd (.lenOwn hT x hx (zO hb hl))) hw rfl k
theorem zdO {T e o n:Nat} {x:Operand} {id ver E sz:Nat} {lf:ya} {es:List (List FV)} (hx:(⟨t,ob⟩:FSt).ev x=.own id ver o n) (hT:(c.ty T).k=.slice e) (hb:(⟨t,ob⟩:FSt).ob id=⟨ver,lf,E,sz,es⟩) (hl:lf≠.dead) (hd:Nat.blt d c.N=true) (hw:zL ops ⟨t,ob⟩ ⟨some d,.call { callee:=.builtin .len,args:=#[x],argTypes:=#[T] },ty,pos,af,g⟩ true) (k:zF c ops rest ⟨((d,(.int .i64 n))::t),ob⟩ (tr++[⟨⟨some d,.call { callee:=.builtin .len,args:=#[x],argTypes:=#[T] },ty,pos,af,g⟩,(.int .i64 n),[],xp ⟨t,ob⟩ d (.call { callee:=.builtin .len,args:=#[x],argTypes:=#[T] })⟩]) QD):zF c ops (⟨some d,.call { callee:=.builtin .len,args:=#[x],argTypes:=#[T] },ty,pos,af,g⟩::rest) ⟨t,ob⟩ tr QD:=
 zF.cons (yh hd (.lenOwn hT x hx (zO hb hl))) hw rfl rfl k
theorem zp {T e:TypeId} {x:Operand} {sz:Nat} {es:List (List FV)} {n:Nat} (hx:(⟨t,ob⟩:FSt).ev x=.list sz es) (hT:(c.ty T).k=.slice e) (hn:es.length=n) (hd:Nat.blt d c.N=true) (hw:zL ops ⟨t,ob⟩ ⟨some d,.call { callee:=.builtin .len,args:=#[x],argTypes:=#[T] },ty,pos,af,g⟩ true) (k:zc c ops rest ⟨((d,(.int .i64 n))::t),ob⟩ Q):zc c ops (⟨some d,.call { callee:=.builtin .len,args:=#[x],argTypes:=#[T] },ty,pos,af,g⟩::rest) ⟨t,ob⟩ Q:=
 zc.cons (f:=(.int .i64 n)) (wr:=[]) (d:=d) (yh hd (hn▸.lenList hT x hx)) hw rfl k
theorem zgP {T e:TypeId} {x:Operand} {sz:Nat} {es:List (List FV)} {n:Nat} (hx:(⟨t,ob⟩:FSt).ev x=.list sz es) (hT:(c.ty T).k=.slice e) (hn:es.length=n) (hd:Nat.blt d c.N=true) (hw:zL ops ⟨t,ob⟩ ⟨some d,.call { callee:=.builtin .len,args:=#[x],argTypes:=#[T] },ty,pos,af,g⟩ true) (k:zF c ops rest ⟨((d,(.int .i64 n))::t),ob⟩ (tr++[⟨⟨some d,.call { callee:=.builtin .len,args:=#[x],argTypes:=#[T] },ty,pos,af,g⟩,(.int .i64 n),[],xp ⟨t,ob⟩ d (.call { callee:=.builtin .len,args:=#[x],argTypes:=#[T] })⟩]) QD):zF c ops (⟨some d,.call { callee:=.builtin .len,args:=#[x],argTypes:=#[T] },ty,pos,af,g⟩::rest) ⟨t,ob⟩ tr QD:=
 zF.cons (f:=(.int .i64 n)) (wr:=[]) (d:=d) (yh hd (hn▸.lenList hT x hx)) hw rfl rfl k
theorem ziW {T e:TypeId} {x:Operand} (hx:(⟨t,ob⟩:FSt).ev x=.nil) (hT:(c.ty T).k=.slice e) (hd:Nat.blt d c.N=true) (hw:zL ops ⟨t,ob⟩ ⟨some d,.call { callee:=.builtin .len,args:=#[x],argTypes:=#[T] },ty,pos,af,g⟩ true) (k:zc c ops rest ⟨((d,(.int .i64 0))::t),ob⟩ Q):zc c ops (⟨some d,.call { callee:=.builtin .len,args:=#[x],argTypes:=#[T] },ty,pos,af,g⟩::rest) ⟨t,ob⟩ Q:=
 zc.cons (yh hd (.lenNil hT x hx)) hw rfl k
theorem zi {T i off ft z j o:Nat} {fs:List (Nat×Nat)} {x:Operand} {id ver E sz:Nat} {lf:ya} {es:List (List FV)} (hx:(⟨t,ob⟩:FSt).ev x=.ptr id ver j o) (hT:(c.ty T).k=.strct fs) (hf:fs[i]? = some (off,ft)) (hk:(c.ty ft).k.known=true) (hz:(c.ty ft).size=z+1) (hb:(⟨t,ob⟩:FSt).ob id=⟨ver,lf,E,sz,es⟩) (hl:lf≠.dead) (hd:Nat.blt d c.N=true) (hw:zL ops ⟨t,ob⟩ ⟨some d,.fieldAddr T x i,ty,pos,af,g⟩ true) (k:zc c ops rest ⟨((d,(.ptr id ver j (o+off)))::t),ob⟩ Q):zc c ops (⟨some d,.fieldAddr T x i,ty,pos,af,g⟩::rest) ⟨t,ob⟩ Q:=
 zc.cons (yh hd (.fieldPtr hT hf (TK.known_ne hk) (by omega) x hx (zO hb hl))) hw rfl k
theorem xA {T i off ft z j o:Nat} {fs:List (Nat×Nat)} {x:Operand} {id ver E sz:Nat} {lf:ya} {es:List (List FV)} (hx:(⟨t,ob⟩:FSt).ev x=.ptr id ver j o) (hT:(c.ty T).k=.strct fs) (hf:fs[i]? = some (off,ft)) (hk:(c.ty ft).k.known=true) (hz:(c.ty ft).size=z+1) (hb:(⟨t,ob⟩:FSt).ob id=⟨ver,lf,E,sz,es⟩) (hl:lf≠.dead) (hd:Nat.blt d c.N=true) (hw:zL ops ⟨t,ob⟩ ⟨some d,.fieldAddr T x i,ty,pos,af,g⟩ true) (k:zF c ops rest ⟨((d,(.ptr id ver j (o+off)))::t),ob⟩ (tr++[⟨⟨some d,.fieldAddr T x i,ty,pos,af,g⟩,(.ptr id ver j (o+off)),[],xp ⟨t,ob⟩ d (.fieldAddr T x i)⟩]) QD):zF c ops (⟨some d,.fieldAddr T x i,ty,pos,af,g⟩::rest) ⟨t,ob⟩ tr QD:=
 zF.cons (yh hd (.fieldPtr hT hf (TK.known_ne hk) (by omega) x hx (zO hb hl))) hw rfl rfl k
theorem zQ {T i off ft z:Nat} {fs:List (Nat×Nat)} {x:Operand} {sz j o:Nat} {es:List (List FV)} (hx:(⟨t,ob⟩:FSt).ev x=.eptr sz es j o) (hT:(c.ty T).k=.strct fs) (hf:fs[i]? = some (off,ft)) (hk:(c.ty ft).k.known=true) (hz:(c.ty ft).size=z+1) (hd:Nat.blt d c.N=true) (hw:zL ops ⟨t,ob⟩ ⟨some d,.fieldAddr T x i,ty,pos,af,g⟩ true) (k:zc c ops rest ⟨((d,(.eptr sz es j (o+off)))::t),ob⟩ Q):zc c ops (⟨some d,.fieldAddr T x i,ty,pos,af,g⟩::rest) ⟨t,ob⟩ Q:=
 zc.cons (yh hd (.fieldEptr hT hf (TK.known_ne hk) (by omega) x hx)) hw rfl k
theorem Yq {T i off ft z:Nat} {fs:List (Nat×Nat)} {x:Operand} {sz j o:Nat} {es:List (List FV)} (hx:(⟨t,ob⟩:FSt).ev x=.eptr sz es j o) (hT:(c.ty T).k=.strct fs) (hf:fs[i]? = some (off,ft)) (hk:(c.ty ft).k.known=true) (hz:(c.ty ft).size=z+1) (hd:Nat.blt d c.N=true) (hw:zL ops ⟨t,ob⟩ ⟨some d,.fieldAddr T x i,ty,pos,af,g⟩ true) (k:zF c ops rest ⟨((d,(.eptr sz es j (o+off)))::t),ob⟩ (tr++[⟨⟨some d,.fieldAddr T x i,ty,pos,af,g⟩,(.eptr sz es j (o+off)),[],xp ⟨t,ob⟩ d (.fieldAddr T x i)⟩]) QD):zF c ops (⟨some d,.fieldAddr T x i,ty,pos,af,g⟩::rest) ⟨t,ob⟩ tr QD:=
 zF.cons (yh hd (.fieldEptr hT hf (TK.known_ne hk) (by omega) x hx)) hw rfl rfl k
theorem zn {T e:Nat} {x y:Operand} {sz:Nat} {es:List (List FV)} {kk:IntKind} {m:Int} {n:Nat} (hx:(⟨t,ob⟩:FSt).ev x=.list sz es) (hy:(⟨t,ob⟩:FSt).ev y=.int kk m) (hm:m=(n:Int)) (hT:(c.ty T).k=.slice e) (hk:(c.ty e).k.known=true) (hz:(c.ty e).size=sz) (hn:n<es.length) (hd:Nat.blt d c.N=true) (hw:zL ops ⟨t,ob⟩ ⟨some d,.indexAddr T x y,ty,pos,af,g⟩ true) (k:zc c ops rest ⟨((d,(.eptr sz es n 0))::t),ob⟩ Q):zc c ops (⟨some d,.indexAddr T x y,ty,pos,af,g⟩::rest) ⟨t,ob⟩ Q:=
 zc.cons (f:=(.eptr sz es n 0)) (wr:=[]) (d:=d) (yh hd (by subst hm;exact .indexList hT (TK.known_ne hk) x y hx hz hy hn)) hw rfl k
theorem ZI {T e:Nat} {x y:Operand} {sz:Nat} {es:List (List FV)} {kk:IntKind} {m:Int} {n:Nat} (hx:(⟨t,ob⟩:FSt).ev x=.list sz es) (hy:(⟨t,ob⟩:FSt).ev y=.int kk m) (hm:m=(n:Int)) (hT:(c.ty T).k=.slice e) (hk:(c.ty e).k.known=true) (hz:(c.ty e).size=sz) (hn:n<es.length) (hd:Nat.blt d c.N=true) (hw:zL ops ⟨t,ob⟩ ⟨some d,.indexAddr T x y,ty,pos,af,g⟩ true) (k:zF c ops rest ⟨((d,(.eptr sz es n 0))::t),ob⟩ (tr++[⟨⟨some d,.indexAddr T x y,ty,pos,af,g⟩,(.eptr sz es n 0),[],xp ⟨t,ob⟩ d (.indexAddr T x y)⟩]) QD):zF c ops (⟨some d,.indexAddr T x y,ty,pos,af,g⟩::rest) ⟨t,ob⟩ tr QD:=
 zF.cons (f:=(.eptr sz es n 0)) (wr:=[]) (d:=d) (yh hd (by subst hm;exact .indexList hT (TK.known_ne hk) x y hx hz hy hn)) hw rfl rfl k
theorem zW {T e p:Nat} {x y:Operand} {kk:IntKind} {m:Int} {n:Nat} {id ver E sz:Nat} {lf:ya} {es:List (List FV)} (hx:(⟨t,ob⟩:FSt).ev x=.own id ver 0 p) (hy:(⟨t,ob⟩:FSt).ev y=.int kk m) (hm:m=(n:Int)) (hT:(c.ty T).k=.slice e) (hk:(c.ty e).k.known=true) (hb:(⟨t,ob⟩:FSt).ob id=⟨ver,lf,E,sz,es⟩) (hl:lf≠.dead) (hz:(c.ty e).size=sz) (hn:n<p) (hd:Nat.blt d c.N=true) (hw:zL ops ⟨t,ob⟩ ⟨some d,.indexAddr T x y,ty,pos,af,g⟩ true) (k:zc c ops rest ⟨((d,(.ptr id ver n 0))::t),ob⟩ Q):zc c ops (⟨some d,.indexAddr T x y,ty,pos,af,g⟩::rest) ⟨t,ob⟩ Q:=
 zc.cons (f:=(.ptr id ver n 0)) (wr:=[]) (d:=d) (yh hd (by subst hm;have:=Eff.indexOwn (c:=c) (s:=⟨t,ob⟩) (d:=d) hT (TK.known_ne hk) x y hx (zO hb hl) (by rw [hb];exact hz) hy hn;rwa [Nat.zero_add] at this)) hw rfl k
theorem Xi {T e p:Nat} {x y:Operand} {kk:IntKind} {m:Int} {n:Nat} {id ver E sz:Nat} {lf:ya} {es:List (List FV)} (hx:(⟨t,ob⟩:FSt).ev x=.own id ver 0 p) (hy:(⟨t,ob⟩:FSt).ev y=.int kk m) (hm:m=(n:Int)) (hT:(c.ty T).k=.slice e) (hk:(c.ty e).k.known=true) (hb:(⟨t,ob⟩:FSt).ob id=⟨ver,lf,E,sz,es⟩) (hl:lf≠.dead) (hz:(c.ty e).size=sz) (hn:n<p) (hd:Nat.blt d c.N=true) (hw:zL ops ⟨t,ob⟩ ⟨some d,.indexAddr T x y,ty,pos,af,g⟩ true) (k:zF c ops rest ⟨((d,(.ptr id ver n 0))::t),ob⟩ (tr++[⟨⟨some d,.indexAddr T x y,ty,pos,af,g⟩,(.ptr id ver n 0),[],xp ⟨t,ob⟩ d (.indexAddr T x y)⟩]) QD):zF c ops (⟨some d,.indexAddr T x y,ty,pos,af,g⟩::rest) ⟨t,ob⟩ tr QD:=
 zF.cons (f:=(.ptr id ver n 0)) (wr:=[]) (d:=d) (yh hd (by subst hm;have:=Eff.indexOwn (c:=c) (s:=⟨t,ob⟩) (d:=d) hT (TK.known_ne hk) x y hx (zO hb hl) (by rw [hb];exact hz) hy hn;rwa [Nat.zero_add] at this)) hw rfl rfl k
theorem VC {T e o p:Nat} {x y:Operand} {kk:IntKind} {m:Int} {n:Nat} {id ver E sz:Nat} {lf:ya} {es:List (List FV)} (hx:(⟨t,ob⟩:FSt).ev x=.own id ver o p) (hy:(⟨t,ob⟩:FSt).ev y=.int kk m) (hm:m=(n:Int)) (hT:(c.ty T).k=.slice e) (hk:(c.ty e).k.known=true) (hb:(⟨t,ob⟩:FSt).ob id=⟨ver,lf,E,sz,es⟩) (hl:lf≠.dead) (hz:(c.ty e).size=sz) (hn:n<p) (hd:Nat.blt d c.N=true) (hw:zL ops ⟨t,ob⟩ ⟨some d,.indexAddr T x y,ty,pos,af,g⟩ true) (k:zc c ops rest ⟨((d,(.ptr id ver (o+n) 0))::t),ob⟩ Q):zc c ops (⟨some d,.indexAddr T x y,ty,pos,af,g⟩::rest) ⟨t,ob⟩ Q:=
 zc.cons (f:=(.ptr id ver (o+n) 0)) (wr:=[]) (d:=d) (yh hd (by subst hm;exact Eff.indexOwn (c:=c) (s:=⟨t,ob⟩) (d:=d) hT (TK.known_ne hk) x y hx (zO hb hl) (by rw [hb];exact hz) hy hn)) hw rfl k
theorem zgZ {tk:TK} {by_:Nat} {ze:List FV} {T q e z j o:Nat} {x y:Operand} {kk:IntKind} {m:Int} {n:Nat} {id ver E sz:Nat} {lf:ya} {es:List (List FV)} (hx:(⟨t,ob⟩:FSt).ev x=.ptr id ver j o) (hy:(⟨t,ob⟩:FSt).ev y=.int kk m) (hm:m=(n:Int)) (hT:(c.ty T).k=.arr q e) (he:c.ty e=⟨tk,z,by_,ze⟩) (hk:tk.known=true) (hb:(⟨t,ob⟩:FSt).ob id=⟨ver,lf,E,sz,es⟩) (hl:lf≠.dead) (hn:n<q) (hd:Nat.blt d c.N=true) (hw:zL ops ⟨t,ob⟩ ⟨some d,.indexAddr T x y,ty,pos,af,g⟩ true) (k:zc c ops rest ⟨((d,(.ptr id ver j (o+n * z)))::t),ob⟩ Q):zc c ops (⟨some d,.indexAddr T x y,ty,pos,af,g⟩::rest) ⟨t,ob⟩ Q:=
 zc.cons (f:=(.ptr id ver j (o+n * z))) (wr:=[]) (d:=d) (yh hd (by subst hm;have:=Eff.indexAPtr (c:=c) (s:=⟨t,ob⟩) (d:=d) hT (by rw [he];exact TK.known_ne hk) x y hx (zO hb hl) hy hn;rw [he] at this;exact this)) hw rfl k
theorem xV {tk:TK} {by_:Nat} {ze:List FV} {T q e z j o:Nat} {x y:Operand} {kk:IntKind} {m:Int} {n:Nat} {id ver E sz:Nat} {lf:ya} {es:List (List FV)} (hx:(⟨t,ob⟩:FSt).ev x=.ptr id ver j o) (hy:(⟨t,ob⟩:FSt).ev y=.int kk m) (hm:m=(n:Int)) (hT:(c.ty T).k=.arr q e) (he:c.ty e=⟨tk,z,by_,ze⟩) (hk:tk.known=true) (hb:(⟨t,ob⟩:FSt).ob id=⟨ver,lf,E,sz,es⟩) (hl:lf≠.dead) (hn:n<q) (hd:Nat.blt d c.N=true) (hw:zL ops ⟨t,ob⟩ ⟨some d,.indexAddr T x y,ty,pos,af,g⟩ true) (k:zF c ops rest ⟨((d,(.ptr id ver j (o+n * z)))::t),ob⟩ (tr++[⟨⟨some d,.indexAddr T x y,ty,pos,af,g⟩,(.ptr id ver j (o+n * z)),[],xp ⟨t,ob⟩ d (.indexAddr T x y)⟩]) QD):zF c ops (⟨some d,.indexAddr T x y,ty,pos,af,g⟩::rest) ⟨t,ob⟩ tr QD:=
 zF.cons (f:=(.ptr id ver j (o+n * z))) (wr:=[]) (d:=d) (yh hd (by subst hm;have:=Eff.indexAPtr (c:=c) (s:=⟨t,ob⟩) (d:=d) hT (by rw [he];exact TK.known_ne hk) x y hx (zO hb hl) hy hn;rw [he] at this;exact this)) hw rfl rfl k
theorem zj {T:Nat} {x:Operand} {sz j o:Nat} {es:List (List FV)} {cs:List FV} {f:FV} (hx:(⟨t,ob⟩:FSt).ev x=.eptr sz es j o) (hk:(c.ty T).k.agg? = some false) (hz:(c.ty T).size=1) (hj:j<es.length) (hcs:es.getD j []=cs) (hcl:cs.length=sz) (hf:cs[o]? = some f) (hd:Nat.blt d c.N=true) (hw:zL ops ⟨t,ob⟩ ⟨some d,.load T x,ty,pos,af,g⟩ true) (k:zc c ops rest ⟨((d,f)::t),ob⟩ Q):zc c ops (⟨some d,.load T x,ty,pos,af,g⟩::rest) ⟨t,ob⟩ Q:=
 zc.cons (f:=f) (wr:=[]) (d:=d) (yh hd (by have h1:=XA hf;have:=Eff.loadEptr (c:=c) (s:=⟨t,ob⟩) (d:=d) hk x hx hj (by omega) (by omega);rw [hcs] at this;unfold ZS at this;rw [hk] at this;dsimp only at this;rw [h1.2] at this;exact this)) hw rfl k
theorem Za {T:Nat} {x:Operand} {sz j o:Nat} {es:List (List FV)} {cs:List FV} {f:FV} (hx:(⟨t,ob⟩:FSt).ev x=.eptr sz es j o) (hk:(c.ty T).k.agg? = some false) (hz:(c.ty T).size=1) (hj:j<es.length) (hcs:es.getD j []=cs) (hcl:cs.length=sz) (hf:cs[o]? = some f) (hd:Nat.blt d c.N=true) (hw:zL ops ⟨t,ob⟩ ⟨some d,.load T x,ty,pos,af,g⟩ true) (k:zF c ops rest ⟨((d,f)::t),ob⟩ (tr++[⟨⟨some d,.load T x,ty,pos,af,g⟩,f,[],xp ⟨t,ob⟩ d (.load T x)⟩]) QD):zF c ops (⟨some d,.load T x,ty,pos,af,g⟩::rest) ⟨t,ob⟩ tr QD:=
 zF.cons (f:=f) (wr:=[]) (d:=d) (yh hd (by have h1:=XA hf;have:=Eff.loadEptr (c:=c) (s:=⟨t,ob⟩) (d:=d) hk x hx hj (by omega) (by omega);rw [hcs] at this;unfold ZS at this;rw [hk] at this;dsimp only at this;rw [h1.2] at this;exact this)) hw rfl rfl k
theorem zq {T j o:Nat} {x:Operand} {cs:List FV} {id ver E sz:Nat} {lf:ya} {es:List (List FV)} {f:FV} (hx:(⟨t,ob⟩:FSt).ev x=.ptr id ver j o) (hk:(c.ty T).k.agg? = some false) (hz:(c.ty T).size=1) (hb:(⟨t,ob⟩:FSt).ob id=⟨ver,lf,E,sz,es⟩) (hl:lf.row=true) (hj:j<es.length) (hcs:es.getD j []=cs) (hcl:cs.length=sz) (hf:cs[o]? = some f) (hd:Nat.blt d c.N=true) (hw:zL ops ⟨t,ob⟩ ⟨some d,.load T x,ty,pos,af,g⟩ true) (k:zc c ops rest ⟨((d,f)::t),ob⟩ Q):zc c ops (⟨some d,.load T x,ty,pos,af,g⟩::rest) ⟨t,ob⟩ Q:=
 zc.cons (f:=f) (wr:=[]) (d:=d) (yh hd (by have h1:=XA hf;have:=Eff.loadPtr (c:=c) (s:=⟨t,ob⟩) (d:=d) hk x hx (zO hb (ya.row_ne hl)) (by rw [hb];exact hl) (by rw [hb];exact hj) (by rw [hb];dsimp only;omega) (by rw [hb];dsimp only;omega);rw [hb] at this;dsimp only at this;rw [hcs] at this;unfold ZS at this;rw [hk] at this;dsimp only at this;rw [h1.2] at this;exact this)) hw rfl k
theorem yJ {T j o:Nat} {x:Operand} {cs:List FV} {id ver E sz:Nat} {lf:ya} {es:List (List FV)} {f:FV} (hx:(⟨t,ob⟩:FSt).ev x=.ptr id ver j o) (hk:(c.ty T).k.agg? = some false) (hz:(c.ty T).size=1) (hb:(⟨t,ob⟩:FSt).ob id=⟨ver,lf,E,sz,es⟩) (hl:lf.row=true) (hj:j<es.length) (hcs:es.getD j []=cs) (hcl:cs.length=sz) (hf:cs[o]? = some f) (hd:Nat.blt d c.N=true) (hw:zL ops ⟨t,ob⟩ ⟨some d,.load T x,ty,pos,af,g⟩ true) (k:zF c ops rest ⟨((d,f)::t),ob⟩ (tr++[⟨⟨some d,.load T x,ty,pos,af,g⟩,f,[],xp ⟨t,ob⟩ d (.load T x)⟩]) QD):zF c ops (⟨some d,.load T x,ty,pos,af,g⟩::rest) ⟨t,ob⟩ tr QD:=
 zF.cons (f:=f) (wr:=[]) (d:=d) (yh hd (by have h1:=XA hf;have:=Eff.loadPtr (c:=c) (s:=⟨t,ob⟩) (d:=d) hk x hx (zO hb (ya.row_ne hl)) (by rw [hb];exact hl) (by rw [hb];exact hj) (by rw [hb];dsimp only;omega) (by rw [hb];dsimp only;omega);rw [hb] at this;dsimp only at this;rw [hcs] at this;unfold ZS at this;rw [hk] at this;dsimp only at this;rw [h1.2] at this;exact this)) hw rfl rfl k
theorem yO {T by_:Nat} {x:Operand} {sz j:Nat} {es:List (List FV)} {cs ze:List FV} {kk:TK} (hx:(⟨t,ob⟩:FSt).ev x=.eptr sz es j 0) (hT:c.ty T=⟨kk,sz,by_,ze⟩) (hk:kk.agg? = some true) (hp:0<sz) (hj:j<es.length) (hcs:es.getD j []=cs) (hcl:cs.length=sz) (hd:Nat.blt d c.N=true) (hw:zL ops ⟨t,ob⟩ ⟨some d,.load T x,ty,pos,af,g⟩ true) (k:zc c ops rest ⟨((d,(.agg cs))::t),ob⟩ Q):zc c ops (⟨some d,.load T x,ty,pos,af,g⟩::rest) ⟨t,ob⟩ Q:=
 zc.cons (yh hd (zbl hx hT hk hp hj hcs hcl)) hw rfl k
theorem ziD {T by_:Nat} {x:Operand} {sz j:Nat} {es:List (List FV)} {cs ze:List FV} {kk:TK} (hx:(⟨t,ob⟩:FSt).ev x=.eptr sz es j 0) (hT:c.ty T=⟨kk,sz,by_,ze⟩) (hk:kk.agg? = some true) (hp:0<sz) (hj:j<es.length) (hcs:es.getD j []=cs) (hcl:cs.length=sz) (hd:Nat.blt d c.N=true) (hw:zL ops ⟨t,ob⟩ ⟨some d,.load T x,ty,pos,af,g⟩ true) (k:zF c ops rest ⟨((d,(.agg cs))::t),ob⟩ (tr++[⟨⟨some d,.load T x,ty,pos,af,g⟩,(.agg cs),[],xp ⟨t,ob⟩ d (.load T x)⟩]) QD):zF c ops (⟨some d,.load T x,ty,pos,af,g⟩::rest) ⟨t,ob⟩ tr QD:=
 zF.cons (yh hd (zbl hx hT hk hp hj hcs hcl)) hw rfl rfl k
theorem yX {T by_ j:Nat} {x:Operand} {cs ze:List FV} {kk:TK} {id ver E sz:Nat} {lf:ya} {es:List (List FV)} (hx:(⟨t,ob⟩:FSt).ev x=.ptr id ver j 0) (hT:c.ty T=⟨kk,sz,by_,ze⟩) (hk:kk.agg? = some true) (hp:0<sz) (hb:(⟨t,ob⟩:FSt).ob id=⟨ver,lf,E,sz,es⟩) (hl:lf.row=true) (hj:j<es.length) (hcs:es.getD j []=cs) (hcl:cs.length=sz) (hd:Nat.blt d c.N=true) (hw:zL ops ⟨t,ob⟩ ⟨some d,.load T x,ty,pos,af,g⟩ true) (k:zc c ops rest ⟨((d,(.agg cs))::t),ob⟩ Q):zc c ops (⟨some d,.load T x,ty,pos,af,g⟩::rest) ⟨t,ob⟩ Q:=
 zc.cons (yh hd (zbm hx hT hk hp hb hl hj hcs hcl)) hw rfl k
theorem ziE {T by_ j:Nat} {x:Operand} {cs ze:List FV} {kk:TK} {id ver E sz:Nat} {lf:ya} {es:List (List FV)} (hx:(⟨t,ob⟩:FSt).ev x=.ptr id ver j 0) (hT:c.ty T=⟨kk,sz,by_,ze⟩) (hk:kk.agg? = some true) (hp:0<sz) (hb:(⟨t,ob⟩:FSt).ob id=⟨ver,lf,E,sz,es⟩) (hl:lf.row=true) (hj:j<es.length) (hcs:es.getD j []=cs) (hcl:cs.length=sz) (hd:Nat.blt d c.N=true) (hw:zL ops ⟨t,ob⟩ ⟨some d,.load T x,ty,pos,af,g⟩ true) (k:zF c ops rest ⟨((d,(.agg cs))::t),ob⟩ (tr++[⟨⟨some d,.load T x,ty,pos,af,g⟩,(.agg cs),[],xp ⟨t,ob⟩ d (.load T x)⟩]) QD):zF c ops (⟨some d,.load T x,ty,pos,af,g⟩::rest) ⟨t,ob⟩ tr QD:=
 zF.cons (yh hd (zbm hx hT hk hp hb hl hj hcs hcl)) hw rfl rfl k
theorem xK {T o id ver E sz:Nat} {x y:Operand} {cs:List FV} {f:FV} (hx:(⟨t,ob⟩:FSt).ev x=.ptr id ver 0 o) (hy:evO t y=some f) (h1:f.one=true) (hk:(c.ty T).k.known=true) (hz:(c.ty T).size=1) (hb:(⟨t,ob⟩:FSt).ob id=⟨ver,.own,E,sz,[cs]⟩) (hcl:cs.length=sz) (ho:Nat.blt o sz=true) (hw:zL ops ⟨t,ob⟩ ⟨none,.store T x y,ty,pos,af,g⟩ true) (k:zc c ops rest ⟨t,((id,⟨ver,.own,E,sz,[cs.set o f]⟩)::ob)⟩ Q):zc c ops (⟨none,.store T x y,ty,pos,af,g⟩::rest) ⟨t,ob⟩ Q:=
 zc.cons (f:=.undef) (wr:=[(id,⟨ver,.own,E,sz,[cs.set o f]⟩)]) (d:=0) (zjk (zgc hx (ZR hy) h1 hk hz hb hcl ho)) hw rfl k
theorem Yt {T j o id ver E sz:Nat} {x y:Operand} {es:List (List FV)} {cs:List FV} {f:FV} (hx:(⟨t,ob⟩:FSt).ev x=.ptr id ver j o) (hy:evO t y=some f) (h1:f.one=true) (hk:(c.ty T).k.known=true) (hz:(c.ty T).size=1) (hb:(⟨t,ob⟩:FSt).ob id=⟨ver,.own,E,sz,es⟩) (hj:j<es.length) (hcs:es.getD j []=cs) (hcl:cs.length=sz) (ho:Nat.blt o sz=true) (hw:zL ops ⟨t,ob⟩ ⟨none,.store T x y,ty,pos,af,g⟩ true) (k:zc c ops rest ⟨t,((id,⟨ver,.own,E,sz,es.set j (cs.set o f)⟩)::ob)⟩ Q):zc c ops (⟨none,.store T x y,ty,pos,af,g⟩::rest) ⟨t,ob⟩ Q:=
 zc.cons (f:=.undef) (wr:=[(id,⟨ver,.own,E,sz,es.set j (cs.set o f)⟩)]) (d:=0) (zjk (zbn hx (ZR hy) h1 hk hz hb hj hcs hcl ho)) hw rfl k
theorem zdT {T j o id ver E sz:Nat} {x y:Operand} {es:List (List FV)} {cs:List FV} {f:FV} (hx:(⟨t,ob⟩:FSt).ev x=.ptr id ver j o) (hy:evO t y=some f) (h1:f.one=true) (hk:(c.ty T).k.known=true) (hz:(c.ty T).size=1) (hb:(⟨t,ob⟩:FSt).ob id=⟨ver,.own,E,sz,es⟩) (hj:j<es.length) (hcs:es.getD j []=cs) (hcl:cs.length=sz) (ho:Nat.blt o sz=true) (hw:zL ops ⟨t,ob⟩ ⟨none,.store T x y,ty,pos,af,g⟩ true) (k:zF c ops rest ⟨t,((id,⟨ver,.own,E,sz,es.set j (cs.set o f)⟩)::ob)⟩ (tr++[⟨⟨none,.store T x y,ty,pos,af,g⟩,.undef,[(id,⟨ver,.own,E,sz,es.set j (cs.set o f)⟩)],xp ⟨t,ob⟩ 0 (.store T x y)⟩]) QD):zF c ops (⟨none,.store T x y,ty,pos,af,g⟩::rest) ⟨t,ob⟩ tr QD:=
 zF.cons (f:=.undef) (wr:=[(id,⟨ver,.own,E,sz,es.set j (cs.set o f)⟩)]) (d:=0) (zjk (zbn hx (ZR hy) h1 hk hz hb hj hcs hcl ho)) hw rfl rfl k
theorem zm {T id ver E sz:Nat} {x y:Operand} {cs fs:List FV} (hx:(⟨t,ob⟩:FSt).ev x=.ptr id ver 0 0) (hy:(⟨t,ob⟩:FSt).ev y=.agg fs) (h1:fs.all FV.one=true) (hk:(c.ty T).k.known=true) (hz:(c.ty T).size=sz) (hb:(⟨t,ob⟩:FSt).ob id=⟨ver,.own,E,sz,[cs]⟩) (hcl:cs.length=sz) (hfl:fs.length=sz) (hw:zL ops ⟨t,ob⟩ ⟨none,.store T x y,ty,pos,af,g⟩ true) (k:zc c ops rest ⟨t,((id,⟨ver,.own,E,sz,[fs]⟩)::ob)⟩ Q):zc c ops (⟨none,.store T x y,ty,pos,af,g⟩::rest) ⟨t,ob⟩ Q:=
 zc.cons (f:=.undef) (wr:=[(id,⟨ver,.own,E,sz,[fs]⟩)]) (d:=0) (zjk (UF hx hy h1 hk hz hb hcl hfl)) hw rfl k
theorem zgR {T id ver E sz:Nat} {x y:Operand} {cs fs:List FV} (hx:(⟨t,ob⟩:FSt).ev x=.ptr id ver 0 0) (hy:(⟨t,ob⟩:FSt).ev y=.agg fs) (h1:fs.all FV.one=true) (hk:(c.ty T).k.known=true) (hz:(c.ty T).size=sz) (hb:(⟨t,ob⟩:FSt).ob id=⟨ver,.own,E,sz,[cs]⟩) (hcl:cs.length=sz) (hfl:fs.length=sz) (hw:zL ops ⟨t,ob⟩ ⟨none,.store T x y,ty,pos,af,g⟩ true) (k:zF c ops rest ⟨t,((id,⟨ver,.own,E,sz,[fs]⟩)::ob)⟩ (tr++[⟨⟨none,.store T x y,ty,pos,af,g⟩,.undef,[(id,⟨ver,.own,E,sz,[fs]⟩)],xp ⟨t,ob⟩ 0 (.store T x y)⟩]) QD):zF c ops (⟨none,.store T x y,ty,pos,af,g⟩::rest) ⟨t,ob⟩ tr QD:=
 zF.cons (f:=.undef) (wr:=[(id,⟨ver,.own,E,sz,[fs]⟩)]) (d:=0) (zjk (UF hx hy h1 hk hz hb hcl hfl)) hw rfl rfl k
theorem zD {T sz by_:Nat} {kk:TK} {z:List FV} {v0 E0 sz0:Nat} {lf0:ya} {es0:List (List FV)} (hT:c.ty T=⟨kk,sz,by_,z⟩) (hk:kk.known=true) (hz:z.all FV.one=true) (hl:z.length=sz) (hv:(⟨t,ob⟩:FSt).ob d=⟨v0,lf0,E0,sz0,es0⟩) (hd:Nat.blt d c.N=true) (hw:zL ops ⟨t,ob⟩ ⟨some d,.alloc T,ty,pos,af,g⟩ true) (k:zc c ops rest ⟨((d,(.ptr d (v0+1) 0 0))::t),((d,⟨v0+1,.own,T,sz,[z]⟩)::ob)⟩ Q):zc c ops (⟨some d,.alloc T,ty,pos,af,g⟩::rest) ⟨t,ob⟩ Q:=
 zc.cons (f:=(.ptr d (v0+1) 0 0)) (wr:=[(d,⟨v0+1,.own,T,sz,[z]⟩)]) (d:=d) (yh hd (by have:=Eff.alloc (c:=c) (s:=⟨t,ob⟩) (d:=d) (T:=T) (by rw [hT];exact TK.known_ne hk) (by rw [hT];exact hz);rw [hT,Zm hv] at this;dsimp only at this;rw [hl] at this;exact this)) hw rfl k
theorem zk3 {T sz by_:Nat} {kk:TK} {z fs:List FV} {x:Operand} {v0 E0 sz0:Nat} {lf0:ya} {es0:List (List FV)} (hx:(⟨t,ob⟩:FSt).ev x=.agg fs) (hT:c.ty T=⟨kk,sz,by_,z⟩) (h1:fs.all FV.one=true) (hl:fs.length=sz) (hv:(⟨t,ob⟩:FSt).ob d=⟨v0,lf0,E0,sz0,es0⟩) (hd:Nat.blt d c.N=true) (hw:zL ops ⟨t,ob⟩ ⟨some d,.box T x,ty,pos,af,g⟩ true) (k:zc c ops rest ⟨((d,(.ptr d (v0+1) 0 0))::t),((d,⟨v0+1,.own,T,sz,[fs]⟩)::ob)⟩ Q):zc c ops (⟨some d,.box T x,ty,pos,af,g⟩::rest) ⟨t,ob⟩ Q:=
 zc.cons (f:=(.ptr d (v0+1) 0 0)) (wr:=[(d,⟨v0+1,.own,T,sz,[fs]⟩)]) (d:=d) (yh hd (by have:=Eff.box (c:=c) (s:=⟨t,ob⟩) (d:=d) (T:=T) x hx h1;rw [Zm hv] at this;dsimp only [FV.cells] at this;rw [hl] at this;exact this)) hw rfl k
theorem zj0 {T sz by_:Nat} {fs:List (Nat×Nat)} {z cs:List FV} {ps:List (Nat×Operand)} (hT:c.ty T=⟨.strct fs,sz,by_,z⟩) (hk:fs.all (fun p=>(c.ty p.2).k.known)=true) (hf:zaU c ⟨t,ob⟩ fs z ps cs) (hd:Nat.blt d c.N=true) (hw:zL ops ⟨t,ob⟩ ⟨some d,.build T ps.toArray,ty,pos,af,g⟩ true) (k:zc c ops rest ⟨((d,(.agg cs))::t),ob⟩ Q):zc c ops (⟨some d,.build T ps.toArray,ty,pos,af,g⟩::rest) ⟨t,ob⟩ Q:=
 zc.cons (yh hd (.build (by rw [hT]) (fun p hp=>TK.known_ne (List.all_eq_true.1 hk p hp)) ps.toArray (by rw [hT];exact hf.get))) hw rfl k
theorem zjW {T sz by_:Nat} {fs:List (Nat×Nat)} {z cs:List FV} {ps:List (Nat×Operand)} (hT:c.ty T=⟨.strct fs,sz,by_,z⟩) (hk:fs.all (fun p=>(c.ty p.2).k.known)=true) (hf:zaU c ⟨t,ob⟩ fs z ps cs) (hd:Nat.blt d c.N=true) (hw:zL ops ⟨t,ob⟩ ⟨some d,.build T ps.toArray,ty,pos,af,g⟩ true) (k:zF c ops rest ⟨((d,(.agg cs))::t),ob⟩ (tr++[⟨⟨some d,.build T ps.toArray,ty,pos,af,g⟩,(.agg cs),[],xp ⟨t,ob⟩ d (.build T ps.toArray)⟩]) QD):zF c ops (⟨some d,.build T ps.toArray,ty,pos,af,g⟩::rest) ⟨t,ob⟩ tr QD:=
 zF.cons (yh hd (.build (by rw [hT]) (fun p hp=>TK.known_ne (List.all_eq_true.1 hk p hp)) ps.toArray (by rw [hT];exact hf.get))) hw rfl rfl k
theorem Vc {T e n sz by_:Nat} {kk:TK} {z:List FV} {es:List (List FV)} {ps:List (Nat×Operand)} {v0 E0 sz0:Nat} {lf0:ya} {es0:List (List FV)} (hT:(c.ty T).k=.slice e) (he:c.ty e=⟨kk,sz,by_,z⟩) (hk:kk.known=true) (hf:xQ ⟨t,ob⟩ sz 0 ps es) (hn:ps.length=n) (hm:Nat.ble (n * sz) 16777216=true) (hm2:Nat.ble n 16777216=true) (hv:(⟨t,ob⟩:FSt).ob d=⟨v0,lf0,E0,sz0,es0⟩) (hd:Nat.blt d c.N=true) (hw:zL ops ⟨t,ob⟩ ⟨some d,.buildSlice T n ps.toArray,ty,pos,af,g⟩ true) (k:zc c ops rest ⟨((d,(.own d (v0+1) 0 n))::t),((d,⟨v0+1,.own,e,sz,es⟩)::ob)⟩ Q):zc c ops (⟨some d,.buildSlice T n ps.toArray,ty,pos,af,g⟩::rest) ⟨t,ob⟩ Q:=
 zc.cons (f:=(.own d (v0+1) 0 n)) (wr:=[(d,⟨v0+1,.own,e,sz,es⟩)]) (d:=d) (yh hd (by subst hn;obtain ⟨l1,l2,l3⟩:=hf.len;have hfill:=hf.fill [] (by simp);have:=Eff.buildSlice (c:=c) (s:=⟨t,ob⟩) (d:=d) (n:=ps.length) hT (by rw [he];exact TK.known_ne hk) ps.toArray es l1 (by rw [he];exact l2) l3 (by rw [he];exact Nat.le_of_ble_eq_true hm) (Nat.le_of_ble_eq_true hm2) (by rw [he];simpa [FSt.parts] using hfill);rw [Zm hv,he] at this;exact this)) hw rfl k
theorem Yr {T e n sz by_:Nat} {kk:TK} {z:List FV} {es:List (List FV)} {ps:List (Nat×Operand)} (hT:(c.ty T).k=.slice e) (he:c.ty e=⟨kk,sz,by_,z⟩) (hk:kk.known=true) (hf:xQ ⟨t,ob⟩ sz 0 ps es) (hn:ps.length=n) (hm:Nat.ble (n * sz) 16777216=true) (hm2:Nat.ble n 16777216=true) (hd:Nat.blt d c.N=true) (hw:zL ops ⟨t,ob⟩ ⟨some d,.buildSlice T n ps.toArray,ty,pos,af,g⟩ true) (k:zc c ops rest ⟨((d,(.list sz es))::t),ob⟩ Q):zc c ops (⟨some d,.buildSlice T n ps.toArray,ty,pos,af,g⟩::rest) ⟨t,ob⟩ Q:=
 zc.cons (f:=(.list sz es)) (wr:=[]) (d:=d) (yh hd (by subst hn;obtain ⟨l1,l2,l3⟩:=hf.len;have hfill:=hf.fill [] (by simp);have:=Eff.buildSliceS (c:=c) (s:=⟨t,ob⟩) (d:=d) (n:=ps.length) hT (by rw [he];exact TK.known_ne hk) ps.toArray es l1 (by rw [he];exact l2) l3 (by rw [he];exact Nat.le_of_ble_eq_true hm) (Nat.le_of_ble_eq_true hm2) (by rw [he];simpa [FSt.parts] using hfill);rw [he] at this;exact this)) hw rfl k
theorem zgN {T e n sz by_:Nat} {kk:TK} {z:List FV} {es:List (List FV)} {ps:List (Nat×Operand)} (hT:(c.ty T).k=.slice e) (he:c.ty e=⟨kk,sz,by_,z⟩) (hk:kk.known=true) (hf:xQ ⟨t,ob⟩ sz 0 ps es) (hn:ps.length=n) (hm:Nat.ble (n * sz) 16777216=true) (hm2:Nat.ble n 16777216=true) (hd:Nat.blt d c.N=true) (hw:zL ops ⟨t,ob⟩ ⟨some d,.buildSlice T n ps.toArray,ty,pos,af,g⟩ true) (k:zF c ops rest ⟨((d,(.list sz es))::t),ob⟩ (tr++[⟨⟨some d,.buildSlice T n ps.toArray,ty,pos,af,g⟩,(.list sz es),[],xp ⟨t,ob⟩ d (.buildSlice T n ps.toArray)⟩]) QD):zF c ops (⟨some d,.buildSlice T n ps.toArray,ty,pos,af,g⟩::rest) ⟨t,ob⟩ tr QD:=
 zF.cons (f:=(.list sz es)) (wr:=[]) (d:=d) (yh hd (by subst hn;obtain ⟨l1,l2,l3⟩:=hf.len;have hfill:=hf.fill [] (by simp);have:=Eff.buildSliceS (c:=c) (s:=⟨t,ob⟩) (d:=d) (n:=ps.length) hT (by rw [he];exact TK.known_ne hk) ps.toArray es l1 (by rw [he];exact l2) l3 (by rw [he];exact Nat.le_of_ble_eq_true hm) (Nat.le_of_ble_eq_true hm2) (by rw [he];simpa [FSt.parts] using hfill);rw [he] at this;exact this)) hw rfl rfl k
theorem zgY {T e sz by_:Nat} {kk:TK} {z:List FV} {v0 E0 sz0:Nat} {lf0:ya} {es0:List (List FV)} (hT:(c.ty T).k=.slice e) (he:c.ty e=⟨kk,sz,by_,z⟩) (hk:kk.known=true) (hv:(⟨t,ob⟩:FSt).ob d=⟨v0,lf0,E0,sz0,es0⟩) (hd:Nat.blt d c.N=true) (hw:zL ops ⟨t,ob⟩ ⟨some d,.buildSlice T 0 #[],ty,pos,af,g⟩ true) (k:zc c ops rest ⟨((d,(.own d (v0+1) 0 0))::t),((d,⟨v0+1,.own,e,sz,[]⟩)::ob)⟩ Q):zc c ops (⟨some d,.buildSlice T 0 #[],ty,pos,af,g⟩::rest) ⟨t,ob⟩ Q:=
 zc.cons (f:=(.own d (v0+1) 0 0)) (wr:=[(d,⟨v0+1,.own,e,sz,[]⟩)]) (d:=d) (yh hd (by have:=Eff.buildSlice (c:=c) (s:=⟨t,ob⟩) (d:=d) (n:=0) hT (by rw [he];exact TK.known_ne hk) #[] [] rfl (by simp) (by simp) (by simp) (by simp) (by simp [FSt.parts,Zz]);rw [Zm hv,he] at this;exact this)) hw rfl k
theorem xq {T e by_:Nat} {x:Operand} {kk:TK} {z:List FV} {f:FV} {v0 E0 sz0:Nat} {lf0:ya} {es0:List (List FV)} (hx:evO t x=some f) (h1:f.one=true) (hT:(c.ty T).k=.slice e) (he:c.ty e=⟨kk,1,by_,z⟩) (hk:kk.known=true) (hv:(⟨t,ob⟩:FSt).ob d=⟨v0,lf0,E0,sz0,es0⟩) (hd:Nat.blt d c.N=true) (hw:zL ops ⟨t,ob⟩ ⟨some d,.buildSlice T 1 #[(0,x)],ty,pos,af,g⟩ true) (k:zc c ops rest ⟨((d,(.own d (v0+1) 0 1))::t),((d,⟨v0+1,.own,e,1,[[f]]⟩)::ob)⟩ Q):zc c ops (⟨some d,.buildSlice T 1 #[(0,x)],ty,pos,af,g⟩::rest) ⟨t,ob⟩ Q:=
 zc.cons (f:=(.own d (v0+1) 0 1)) (wr:=[(d,⟨v0+1,.own,e,1,[[f]]⟩)]) (d:=d) (yh hd (by have hf:xQ ⟨t,ob⟩ 1 0 [(0,x)] [[f]]:=xQ.one (ZR hx) (xm h1) h1 rfl .nil;obtain ⟨l1,l2,l3⟩:=hf.len;have hfill:=hf.fill [] (by simp);have:=Eff.buildSlice (c:=c) (s:=⟨t,ob⟩) (d:=d) (n:=1) hT (by rw [he];exact TK.known_ne hk) #[(0,x)] [[f]] l1 (by rw [he];exact l2) l3 (by rw [he];exact by simp) (by decide) (by rw [he];simpa [FSt.parts] using hfill);rw [Zm hv,he] at this;exact this)) hw rfl k
theorem XI {T e by_:Nat} {x:Operand} {kk:TK} {z:List FV} {f:FV} {v0 E0 sz0:Nat} {lf0:ya} {es0:List (List FV)} (hx:evO t x=some f) (h1:f.one=true) (hT:(c.ty T).k=.slice e) (he:c.ty e=⟨kk,1,by_,z⟩) (hk:kk.known=true) (hv:(⟨t,ob⟩:FSt).ob d=⟨v0,lf0,E0,sz0,es0⟩) (hd:Nat.blt d c.N=true) (hw:zL ops ⟨t,ob⟩ ⟨some d,.buildSlice T 1 #[(0,x)],ty,pos,af,g⟩ true) (k:zF c ops rest ⟨((d,(.own d (v0+1) 0 1))::t),((d,⟨v0+1,.own,e,1,[[f]]⟩)::ob)⟩ (tr++[⟨⟨some d,.buildSlice T 1 #[(0,x)],ty,pos,af,g⟩,(.own d (v0+1) 0 1),[(d,⟨v0+1,.own,e,1,[[f]]⟩)],xp ⟨t,ob⟩ d (.buildSlice T 1 #[(0,x)])⟩]) QD):zF c ops (⟨some d,.buildSlice T 1 #[(0,x)],ty,pos,af,g⟩::rest) ⟨t,ob⟩ tr QD:=
 zF.cons (f:=(.own d (v0+1) 0 1)) (wr:=[(d,⟨v0+1,.own,e,1,[[f]]⟩)]) (d:=d) (yh hd (by have hf:xQ ⟨t,ob⟩ 1 0 [(0,x)] [[f]]:=xQ.one (ZR hx) (xm h1) h1 rfl .nil;obtain ⟨l1,l2,l3⟩:=hf.len;have hfill:=hf.fill [] (by simp);have:=Eff.buildSlice (c:=c) (s:=⟨t,ob⟩) (d:=d) (n:=1) hT (by rw [he];exact TK.known_ne hk) #[(0,x)] [[f]] l1 (by rw [he];exact l2) l3 (by rw [he];exact by simp) (by decide) (by rw [he];simpa [FSt.parts] using hfill);rw [Zm hv,he] at this;exact this)) hw rfl rfl k
theorem Wo {T e by_:Nat} {x:Operand} {kk:TK} {z:List FV} {sz:Nat} {cs:List FV} {v0 E0 sz0:Nat} {lf0:ya} {es0:List (List FV)} (hx:(⟨t,ob⟩:FSt).ev x=(.agg cs)) (hT:(c.ty T).k=.slice e) (he:c.ty e=⟨kk,sz,by_,z⟩) (hk:kk.known=true) (h1:cs.all FV.one=true) (hl:cs.length=sz) (hm:Nat.ble (1 * sz) 16777216=true) (hv:(⟨t,ob⟩:FSt).ob d=⟨v0,lf0,E0,sz0,es0⟩) (hd:Nat.blt d c.N=true) (hw:zL ops ⟨t,ob⟩ ⟨some d,.buildSlice T 1 #[(0,x)],ty,pos,af,g⟩ true) (k:zc c ops rest ⟨((d,(.own d (v0+1) 0 1))::t),((d,⟨v0+1,.own,e,sz,[cs]⟩)::ob)⟩ Q):zc c ops (⟨some d,.buildSlice T 1 #[(0,x)],ty,pos,af,g⟩::rest) ⟨t,ob⟩ Q:=
 zc.cons (f:=(.own d (v0+1) 0 1)) (wr:=[(d,⟨v0+1,.own,e,sz,[cs]⟩)]) (d:=d) (yh hd (by have hf:xQ ⟨t,ob⟩ sz 0 [(0,x)] [cs]:=xQ.agg hx h1 hl .nil;obtain ⟨l1,l2,l3⟩:=hf.len;have hfill:=hf.fill [] (by simp);have:=Eff.buildSlice (c:=c) (s:=⟨t,ob⟩) (d:=d) (n:=1) hT (by rw [he];exact TK.known_ne hk) #[(0,x)] [cs] l1 (by rw [he];exact l2) l3 (by rw [he];exact Nat.le_of_ble_eq_true hm) (by decide) (by rw [he];simpa [FSt.parts] using hfill);rw [Zm hv,he] at this;exact this)) hw rfl k
theorem ze0 {T e by_:Nat} {x:Operand} {kk:TK} {z:List FV} {sz:Nat} {cs:List FV} {v0 E0 sz0:Nat} {lf0:ya} {es0:List (List FV)} (hx:(⟨t,ob⟩:FSt).ev x=(.agg cs)) (hT:(c.ty T).k=.slice e) (he:c.ty e=⟨kk,sz,by_,z⟩) (hk:kk.known=true) (h1:cs.all FV.one=true) (hl:cs.length=sz) (hm:Nat.ble (1 * sz) 16777216=true) (hv:(⟨t,ob⟩:FSt).ob d=⟨v0,lf0,E0,sz0,es0⟩) (hd:Nat.blt d c.N=true) (hw:zL ops ⟨t,ob⟩ ⟨some d,.buildSlice T 1 #[(0,x)],ty,pos,af,g⟩ true) (k:zF c ops rest ⟨((d,(.own d (v0+1) 0 1))::t),((d,⟨v0+1,.own,e,sz,[cs]⟩)::ob)⟩ (tr++[⟨⟨some d,.buildSlice T 1 #[(0,x)],ty,pos,af,g⟩,(.own d (v0+1) 0 1),[(d,⟨v0+1,.own,e,sz,[cs]⟩)],xp ⟨t,ob⟩ d (.buildSlice T 1 #[(0,x)])⟩]) QD):zF c ops (⟨some d,.buildSlice T 1 #[(0,x)],ty,pos,af,g⟩::rest) ⟨t,ob⟩ tr QD:=
 zF.cons (f:=(.own d (v0+1) 0 1)) (wr:=[(d,⟨v0+1,.own,e,sz,[cs]⟩)]) (d:=d) (yh hd (by have hf:xQ ⟨t,ob⟩ sz 0 [(0,x)] [cs]:=xQ.agg hx h1 hl .nil;obtain ⟨l1,l2,l3⟩:=hf.len;have hfill:=hf.fill [] (by simp);have:=Eff.buildSlice (c:=c) (s:=⟨t,ob⟩) (d:=d) (n:=1) hT (by rw [he];exact TK.known_ne hk) #[(0,x)] [cs] l1 (by rw [he];exact l2) l3 (by rw [he];exact Nat.le_of_ble_eq_true hm) (by decide) (by rw [he];simpa [FSt.parts] using hfill);rw [Zm hv,he] at this;exact this)) hw rfl rfl k
theorem zcD {T e n sz by_:Nat} {m1 m2:Int} {k1 k2:IntKind} {kk:TK} {z:List FV} {x y:Operand} {v0 E0 sz0:Nat} {lf0:ya} {es0:List (List FV)} (hx:(⟨t,ob⟩:FSt).ev x=.int k1 m1) (hm1:m1=(n:Int)) (hy:(⟨t,ob⟩:FSt).ev y=.int k2 m2) (hm2:m2=(n:Int)) (hT:(c.ty T).k=.slice e) (he:c.ty e=⟨kk,sz,by_,z⟩) (hk:kk.known=true) (hz:z.all FV.one=true) (hb:by_ * n≤281474976710656) (hn:n≤281474976710656) (hv:(⟨t,ob⟩:FSt).ob d=⟨v0,lf0,E0,sz0,es0⟩) (hd:Nat.blt d c.N=true) (hw:zL ops ⟨t,ob⟩ ⟨some d,.makeSlice T x y,ty,pos,af,g⟩ true) (k:zc c ops rest ⟨((d,(.own d (v0+1) 0 n))::t),((d,⟨v0+1,.own,e,sz,List.replicate n z⟩)::ob)⟩ Q):zc c ops (⟨some d,.makeSlice T x y,ty,pos,af,g⟩::rest) ⟨t,ob⟩ Q:=
 zc.cons (f:=(.own d (v0+1) 0 n)) (wr:=[(d,⟨v0+1,.own,e,sz,List.replicate n z⟩)]) (d:=d) (yh hd (by subst hm1;subst hm2;have:=Eff.makeSlice (c:=c) (s:=⟨t,ob⟩) (d:=d) (n:=n) hT (by rw [he];exact TK.known_ne hk) x y hx hy (by rw [he];exact hz) (by rw [he];exact hb) hn;rw [he,Zm hv] at this;exact this)) hw rfl k
theorem zaz {T e l u m o:Nat} {x:Operand} {lo hi:Option Operand} {id ver E sz:Nat} {lf:ya} {es:List (List FV)} (hx:(⟨t,ob⟩:FSt).ev x=.own id ver o m) (hT:(c.ty T).k=.slice e) (hk:(c.ty e).k.known=true) (hb:(⟨t,ob⟩:FSt).ob id=⟨ver,lf,E,sz,es⟩) (hl:lf≠.dead) (hz:(c.ty e).size=sz) (hlo:LoR ⟨t,ob⟩ lo l) (hhi:HiR ⟨t,ob⟩ hi m u) (h1:l≤u) (h2:u≤m) (hd:Nat.blt d c.N=true) (hw:zL ops ⟨t,ob⟩ ⟨some d,.slice T x lo hi none,ty,pos,af,g⟩ true) (k:zc c ops rest ⟨((d,(.own id ver (o+l) (u - l)))::t),ob⟩ Q):zc c ops (⟨some d,.slice T x lo hi none,ty,pos,af,g⟩::rest) ⟨t,ob⟩ Q:=
 zc.cons (yh hd (.sliceOwn hT (TK.known_ne hk) x lo hi hx (zO hb hl) (by rw [hb];exact hz) hlo.ok hhi.ok h1 h2)) hw rfl k
theorem zdS {T e l u m o:Nat} {x:Operand} {lo hi:Option Operand} {id ver E sz:Nat} {lf:ya} {es:List (List FV)} (hx:(⟨t,ob⟩:FSt).ev x=.own id ver o m) (hT:(c.ty T).k=.slice e) (hk:(c.ty e).k.known=true) (hb:(⟨t,ob⟩:FSt).ob id=⟨ver,lf,E,sz,es⟩) (hl:lf≠.dead) (hz:(c.ty e).size=sz) (hlo:LoR ⟨t,ob⟩ lo l) (hhi:HiR ⟨t,ob⟩ hi m u) (h1:l≤u) (h2:u≤m) (hd:Nat.blt d c.N=true) (hw:zL ops ⟨t,ob⟩ ⟨some d,.slice T x lo hi none,ty,pos,af,g⟩ true) (k:zF c ops rest ⟨((d,(.own id ver (o+l) (u - l)))::t),ob⟩ (tr++[⟨⟨some d,.slice T x lo hi none,ty,pos,af,g⟩,(.own id ver (o+l) (u - l)),[],xp ⟨t,ob⟩ d (.slice T x lo hi none)⟩]) QD):zF c ops (⟨some d,.slice T x lo hi none,ty,pos,af,g⟩::rest) ⟨t,ob⟩ tr QD:=
 zF.cons (yh hd (.sliceOwn hT (TK.known_ne hk) x lo hi hx (zO hb hl) (by rw [hb];exact hz) hlo.ok hhi.ok h1 h2)) hw rfl rfl k
theorem ziZ {T e l u sz:Nat} {es:List (List FV)} {x:Operand} {lo hi:Option Operand} (hx:(⟨t,ob⟩:FSt).ev x=.list sz es) (hT:(c.ty T).k=.slice e) (hk:(c.ty e).k.known=true) (hz:(c.ty e).size=sz) (hlo:LoR ⟨t,ob⟩ lo l) (hhi:HiR ⟨t,ob⟩ hi es.length u) (h1:l≤u) (h2:u≤es.length) (hd:Nat.blt d c.N=true) (hw:zL ops ⟨t,ob⟩ ⟨some d,.slice T x lo hi none,ty,pos,af,g⟩ true) (k:zc c ops rest ⟨((d,(.list sz ((es.drop l).take (u - l))))::t),ob⟩ Q):zc c ops (⟨some d,.slice T x lo hi none,ty,pos,af,g⟩::rest) ⟨t,ob⟩ Q:=
 zc.cons (yh hd (.sliceList hT (TK.known_ne hk) x lo hi hx hz hlo.ok hhi.ok h1 h2)) hw rfl k
theorem zw {x:Operand} {i:Nat} {fs:List FV} {f:FV} (hx:(⟨t,ob⟩:FSt).ev x=.tup fs) (hf:fs[i]? = some f) (hh:f.hand=none) (hd:Nat.blt d c.N=true) (hw:zL ops ⟨t,ob⟩ ⟨some d,.extract x i,ty,pos,af,g⟩ true) (k:zc c ops rest ⟨((d,f)::t),ob⟩ Q):zc c ops (⟨some d,.extract x i,ty,pos,af,g⟩::rest) ⟨t,ob⟩ Q:=
 zc.cons (yh hd (.extract x hx hf hh)) hw rfl k
theorem zgO {x:Operand} {i:Nat} {fs:List FV} {f:FV} (hx:(⟨t,ob⟩:FSt).ev x=.tup fs) (hf:fs[i]? = some f) (hh:f.hand=none) (hd:Nat.blt d c.N=true) (hw:zL ops ⟨t,ob⟩ ⟨some d,.extract x i,ty,pos,af,g⟩ true) (k:zF c ops rest ⟨((d,f)::t),ob⟩ (tr++[⟨⟨some d,.extract x i,ty,pos,af,g⟩,f,[],xp ⟨t,ob⟩ d (.extract x i)⟩]) QD):zF c ops (⟨some d,.extract x i,ty,pos,af,g⟩::rest) ⟨t,ob⟩ tr QD:=
 zF.cons (yh hd (.extract x hx hf hh)) hw rfl rfl k
theorem YO {x:Operand} {i o:Nat} {id ver E sz:Nat} {lf:ya} {es:List (List FV)} (hx:(⟨t,ob⟩:FSt).ev x=.ptr id ver i o) (hb:(⟨t,ob⟩:FSt).ob id=⟨ver,lf,E,sz,es⟩) (hl:lf≠.dead) (hd:Nat.blt d c.N=true) (hw:zL ops ⟨t,ob⟩ ⟨some d,.nilCheck x,ty,pos,af,g⟩ true) (k:zc c ops rest ⟨((d,(.ptr id ver i o))::t),ob⟩ Q):zc c ops (⟨some d,.nilCheck x,ty,pos,af,g⟩::rest) ⟨t,ob⟩ Q:=
 zc.cons (yh hd (.nilPtr x hx (zO hb hl))) hw rfl k
theorem zcx {x:Operand} {i o:Nat} {id ver E sz:Nat} {lf:ya} {es:List (List FV)} (hx:(⟨t,ob⟩:FSt).ev x=.ptr id ver i o) (hb:(⟨t,ob⟩:FSt).ob id=⟨ver,lf,E,sz,es⟩) (hl:lf≠.dead) (hd:Nat.blt d c.N=true) (hw:zL ops ⟨t,ob⟩ ⟨some d,.nilCheck x,ty,pos,af,g⟩ true) (k:zF c ops rest ⟨((d,(.ptr id ver i o))::t),ob⟩ (tr++[⟨⟨some d,.nilCheck x,ty,pos,af,g⟩,(.ptr id ver i o),[],xp ⟨t,ob⟩ d (.nilCheck x)⟩]) QD):zF c ops (⟨some d,.nilCheck x,ty,pos,af,g⟩::rest) ⟨t,ob⟩ tr QD:=
 zF.cons (yh hd (.nilPtr x hx (zO hb hl))) hw rfl rfl k
theorem yP {x:Operand} {sz i o:Nat} {es:List (List FV)} (hx:(⟨t,ob⟩:FSt).ev x=.eptr sz es i o) (hd:Nat.blt d c.N=true) (hw:zL ops ⟨t,ob⟩ ⟨some d,.nilCheck x,ty,pos,af,g⟩ true) (k:zc c ops rest ⟨((d,(.eptr sz es i o))::t),ob⟩ Q):zc c ops (⟨some d,.nilCheck x,ty,pos,af,g⟩::rest) ⟨t,ob⟩ Q:=
 zc.cons (yh hd (.nilEptr x hx)) hw rfl k
theorem VA {x:Operand} {sz i o:Nat} {es:List (List FV)} (hx:(⟨t,ob⟩:FSt).ev x=.eptr sz es i o) (hd:Nat.blt d c.N=true) (hw:zL ops ⟨t,ob⟩ ⟨some d,.nilCheck x,ty,pos,af,g⟩ true) (k:zF c ops rest ⟨((d,(.eptr sz es i o))::t),ob⟩ (tr++[⟨⟨some d,.nilCheck x,ty,pos,af,g⟩,(.eptr sz es i o),[],xp ⟨t,ob⟩ d (.nilCheck x)⟩]) QD):zF c ops (⟨some d,.nilCheck x,ty,pos,af,g⟩::rest) ⟨t,ob⟩ tr QD:=
 zF.cons (yh hd (.nilEptr x hx)) hw rfl rfl k
theorem zk1 {T e sz by_:Nat} {kk:TK} {z:List FV} {es:List (List FV)} {x y:Operand} {v0 E0 sz0:Nat} {lf0:ya} {es0:List (List FV)} (hx:(⟨t,ob⟩:FSt).ev x=.nil) (hT:(c.ty T).k=.slice e) (he:c.ty e=⟨kk,sz,by_,z⟩) (hk:kk.known=true) (hp:0<sz) (hy:Yg t ob y sz es) (hbb:es.length * by_≤140737488355328) (hm:es.length≤140737488355328) (hv:(⟨t,ob⟩:FSt).ob d=⟨v0,lf0,E0,sz0,es0⟩) (hd:Nat.blt d c.N=true) (hw:zL ops ⟨t,ob⟩ ⟨some d,.call { callee:=.builtin .append,args:=#[x,y],argTypes:=#[T,T] },ty,pos,af,g⟩ true) (k:zc c ops rest ⟨((d,(.own d (v0+1) 0 es.length))::t),((d,⟨v0+1,.own,e,sz,es⟩)::ob)⟩ Q):zc c ops (⟨some d,.call { callee:=.builtin .append,args:=#[x,y],argTypes:=#[T,T] },ty,pos,af,g⟩::rest) ⟨t,ob⟩ Q:=
 zc.cons (f:=(.own d (v0+1) 0 es.length)) (wr:=[(d,⟨v0+1,.own,e,sz,es⟩)]) (d:=d) (yh hd (by have:=Eff.append (c:=c) (s:=⟨t,ob⟩) (d:=d) hT (by rw [he];exact TK.known_ne hk) (by rw [he];exact hp) x y hx rfl (.nil _) (fun _ h=>by cases h) (by rw [he];exact hy.ok) (by rw [he];simpa using hbb) (by simpa using hm);rw [he] at this;simpa [ZQ,Zm hv] using this)) hw rfl k
theorem zkX {T e sz by_:Nat} {kk:TK} {z:List FV} {es:List (List FV)} {x y:Operand} {v0 E0 sz0:Nat} {lf0:ya} {es0:List (List FV)} (hx:(⟨t,ob⟩:FSt).ev x=.nil) (hT:(c.ty T).k=.slice e) (he:c.ty e=⟨kk,sz,by_,z⟩) (hk:kk.known=true) (hp:0<sz) (hy:Yg t ob y sz es) (hbb:es.length * by_≤140737488355328) (hm:es.length≤140737488355328) (hv:(⟨t,ob⟩:FSt).ob d=⟨v0,lf0,E0,sz0,es0⟩) (hd:Nat.blt d c.N=true) (hw:zL ops ⟨t,ob⟩ ⟨some d,.call { callee:=.builtin .append,args:=#[x,y],argTypes:=#[T,T] },ty,pos,af,g⟩ true) (k:zF c ops rest ⟨((d,(.own d (v0+1) 0 es.length))::t),((d,⟨v0+1,.own,e,sz,es⟩)::ob)⟩ (tr++[⟨⟨some d,.call { callee:=.builtin .append,args:=#[x,y],argTypes:=#[T,T] },ty,pos,af,g⟩,(.own d (v0+1) 0 es.length),[(d,⟨v0+1,.own,e,sz,es⟩)],xp ⟨t,ob⟩ d (.call { callee:=.builtin .append,args:=#[x,y],argTypes:=#[T,T] })⟩]) QD):zF c ops (⟨some d,.call { callee:=.builtin .append,args:=#[x,y],argTypes:=#[T,T] },ty,pos,af,g⟩::rest) ⟨t,ob⟩ tr QD:=
 zF.cons (f:=(.own d (v0+1) 0 es.length)) (wr:=[(d,⟨v0+1,.own,e,sz,es⟩)]) (d:=d) (yh hd (by have:=Eff.append (c:=c) (s:=⟨t,ob⟩) (d:=d) hT (by rw [he];exact TK.known_ne hk) (by rw [he];exact hp) x y hx rfl (.nil _) (fun _ h=>by cases h) (by rw [he];exact hy.ok) (by rw [he];simpa using hbb) (by simpa using hm);rw [he] at this;simpa [ZQ,Zm hv] using this)) hw rfl rfl k
theorem Wn {T e sz by_ id ver n:Nat} {kk:TK} {z:List FV} {es es2:List (List FV)} {x y:Operand} {v0 E0 sz0:Nat} {lf0:ya} {es0:List (List FV)} (hx:(⟨t,ob⟩:FSt).ev x=.own id ver 0 n) (hb:(⟨t,ob⟩:FSt).ob id=⟨ver,.own,e,sz,es⟩) (hn:n=es.length) (hT:(c.ty T).k=.slice e) (he:c.ty e=⟨kk,sz,by_,z⟩) (hk:kk.known=true) (hp:0<sz) (hy:Yg t ob y sz es2) (hbb:(es.length+es2.length) * by_≤140737488355328) (hm:es.length+es2.length≤140737488355328) (hv:(⟨t,ob⟩:FSt).ob d=⟨v0,lf0,E0,sz0,es0⟩) (hd:Nat.blt d c.N=true) (hw:zL ops ⟨t,ob⟩ ⟨some d,.call { callee:=.builtin .append,args:=#[x,y],argTypes:=#[T,T] },ty,pos,af,g⟩ true) (k:zc c ops rest ⟨((d,(.own d (v0+1) 0 (es++es2).length))::t),((d,⟨v0+1,.own,e,sz,es++es2⟩)::(id,⟨ver,.dead,e,sz,es⟩)::ob)⟩ Q):zc c ops (⟨some d,.call { callee:=.builtin .append,args:=#[x,y],argTypes:=#[T,T] },ty,pos,af,g⟩::rest) ⟨t,ob⟩ Q:=
 zc.cons (yh hd (zfp hx hb hn hT he hk hp hy hbb hm hv)) hw rfl k
theorem zcv {T e sz by_ id ver n:Nat} {kk:TK} {z:List FV} {es es2:List (List FV)} {x y:Operand} {v0 E0 sz0:Nat} {lf0:ya} {es0:List (List FV)} (hx:(⟨t,ob⟩:FSt).ev x=.own id ver 0 n) (hb:(⟨t,ob⟩:FSt).ob id=⟨ver,.own,e,sz,es⟩) (hn:n=es.length) (hT:(c.ty T).k=.slice e) (he:c.ty e=⟨kk,sz,by_,z⟩) (hk:kk.known=true) (hp:0<sz) (hy:Yg t ob y sz es2) (hbb:(es.length+es2.length) * by_≤140737488355328) (hm:es.length+es2.length≤140737488355328) (hv:(⟨t,ob⟩:FSt).ob d=⟨v0,lf0,E0,sz0,es0⟩) (hd:Nat.blt d c.N=true) (hw:zL ops ⟨t,ob⟩ ⟨some d,.call { callee:=.builtin .append,args:=#[x,y],argTypes:=#[T,T] },ty,pos,af,g⟩ true) (k:zF c ops rest ⟨((d,(.own d (v0+1) 0 (es++es2).length))::t),((d,⟨v0+1,.own,e,sz,es++es2⟩)::(id,⟨ver,.dead,e,sz,es⟩)::ob)⟩ (tr++[⟨⟨some d,.call { callee:=.builtin .append,args:=#[x,y],argTypes:=#[T,T] },ty,pos,af,g⟩,(.own d (v0+1) 0 (es++es2).length),[(id,⟨ver,.dead,e,sz,es⟩),(d,⟨v0+1,.own,e,sz,es++es2⟩)],xp ⟨t,ob⟩ d (.call { callee:=.builtin .append,args:=#[x,y],argTypes:=#[T,T] })⟩]) QD):zF c ops (⟨some d,.call { callee:=.builtin .append,args:=#[x,y],argTypes:=#[T,T] },ty,pos,af,g⟩::rest) ⟨t,ob⟩ tr QD:=
 zF.cons (yh hd (zfp hx hb hn hT he hk hp hy hbb hm hv)) hw rfl rfl k
theorem zjV {T e sz by_ id ver n:Nat} {kk:TK} {z:List FV} {es es2:List (List FV)} {x y:Operand} {v0 E0 sz0:Nat} {lf0:ya} {es0:List (List FV)} (hx:(⟨t,ob⟩:FSt).ev x=.own id ver 0 n) (hb:(⟨t,ob⟩:FSt).ob id=⟨ver,.own,e,sz,es⟩) (hn:n=es.length) (hT:(c.ty T).k=.slice e) (he:c.ty e=⟨kk,sz,by_,z⟩) (hk:kk.known=true) (hp:0<sz) (hy:Yg t ob y sz es2) (hbb:(es.length+es2.length) * by_≤140737488355328) (hm:es.length+es2.length≤140737488355328) (hv:(⟨t,ob⟩:FSt).ob d=⟨v0,lf0,E0,sz0,es0⟩) (hd:Nat.blt d c.N=true) (hw:zL ops ⟨t,ob⟩ ⟨some d,.call { callee:=.builtin .append,args:=#[x,y],argTypes:=#[T,T] },ty,pos,af,g⟩ true) (k:zF c ops rest ⟨((d,(.list sz (es++es2)))::t),((d,⟨v0+1,.dead,e,sz,es++es2⟩)::(d,⟨v0+1,.own,e,sz,es++es2⟩)::(id,⟨ver,.dead,e,sz,es⟩)::ob)⟩ (tr++[⟨⟨some d,.call { callee:=.builtin .append,args:=#[x,y],argTypes:=#[T,T] },ty,pos,af,g⟩,(.list sz (es++es2)),[(id,⟨ver,.dead,e,sz,es⟩),(d,⟨v0+1,.own,e,sz,es++es2⟩),(d,⟨v0+1,.dead,e,sz,es++es2⟩)],xp ⟨t,ob⟩ d (.call { callee:=.builtin .append,args:=#[x,y],argTypes:=#[T,T] })⟩]) QD):zF c ops (⟨some d,.call { callee:=.builtin .append,args:=#[x,y],argTypes:=#[T,T] },ty,pos,af,g⟩::rest) ⟨t,ob⟩ tr QD:=
 zF.cons (yh hd (zhJ hx hb hn hT he hk hp hy hbb hm hv)) hw rfl rfl k
theorem Zu {T j id ver E:Nat} {x:Operand} {es:List (List FV)} {f:FV} (hx:(⟨t,ob⟩:FSt).ev x=.ptr id ver j 0) (hk:(c.ty T).k.agg? = some false) (hz:(c.ty T).size=1) (hb:(⟨t,ob⟩:FSt).ob id=⟨ver,.hrow,E,1,es⟩) (hj:es[j]? = some [f]) (hd:Nat.blt d c.N=true) (hw:zL ops ⟨t,ob⟩ ⟨some d,.load T x,ty,pos,af,g⟩ true) (k:zc c ops rest ⟨((d,f)::t),ob⟩ Q):zc c ops (⟨some d,.load T x,ty,pos,af,g⟩::rest) ⟨t,ob⟩ Q:=
 zc.cons (yh hd (.loadH hk hz x hx (by rw [hb]) (by rw [hb]) (by rw [hb]) (by rw [hb];exact hj))) hw rfl k
theorem Uo {T j id ver E:Nat} {x:Operand} {es:List (List FV)} {f:FV} (hx:(⟨t,ob⟩:FSt).ev x=.ptr id ver j 0) (hk:(c.ty T).k.agg? = some false) (hz:(c.ty T).size=1) (hb:(⟨t,ob⟩:FSt).ob id=⟨ver,.hrow,E,1,es⟩) (hj:es[j]? = some [f]) (hd:Nat.blt d c.N=true) (hw:zL ops ⟨t,ob⟩ ⟨some d,.load T x,ty,pos,af,g⟩ true) (k:zF c ops rest ⟨((d,f)::t),ob⟩ (tr++[⟨⟨some d,.load T x,ty,pos,af,g⟩,f,[],xp ⟨t,ob⟩ d (.load T x)⟩]) QD):zF c ops (⟨some d,.load T x,ty,pos,af,g⟩::rest) ⟨t,ob⟩ tr QD:=
 zF.cons (yh hd (.loadH hk hz x hx (by rw [hb]) (by rw [hb]) (by rw [hb]) (by rw [hb];exact hj))) hw rfl rfl k
theorem zg4 {T j id ver E id2 ver2 o2 n2 E2 sz2:Nat} {lf2:ya} {x y:Operand} {es es2:List (List FV)} (hx:(⟨t,ob⟩:FSt).ev x=.ptr id ver j 0) (hy:(⟨t,ob⟩:FSt).ev y=.own id2 ver2 o2 n2) (hk:(c.ty T).k.known=true) (hz:(c.ty T).size=1) (hb:(⟨t,ob⟩:FSt).ob id=⟨ver,.hrow,E,1,es⟩) (hb2:(⟨t,ob⟩:FSt).ob id2=⟨ver2,lf2,E2,sz2,es2⟩) (hl2:lf2≠.dead) (hj:j<es.length) (hw:zL ops ⟨t,ob⟩ ⟨none,.store T x y,ty,pos,af,g⟩ true) (k:zc c ops rest ⟨t,((id,⟨ver,.hrow,E,1,es.set j [.own id2 ver2 o2 n2]⟩)::ob)⟩ Q):zc c ops (⟨none,.store T x y,ty,pos,af,g⟩::rest) ⟨t,ob⟩ Q:=
 zc.cons (f:=.undef) (wr:=[(id,⟨ver,.hrow,E,1,es.set j [.own id2 ver2 o2 n2]⟩)]) (d:=0) (zjk (by have:=Eff.storeH (c:=c) (s:=⟨t,ob⟩) (d:=0) (TK.known_ne hk) hz x y hx (by rw [hb]) (by rw [hb]) (by rw [hb]) hy (.inr (.inl ⟨_,_,_,_,rfl,zO hb2 hl2⟩)) (by rw [hb];exact hj);rw [hb] at this;exact this)) hw rfl k
theorem VB {T j id ver E id2 ver2 o2 n2 E2 sz2:Nat} {lf2:ya} {x y:Operand} {es es2:List (List FV)} (hx:(⟨t,ob⟩:FSt).ev x=.ptr id ver j 0) (hy:(⟨t,ob⟩:FSt).ev y=.own id2 ver2 o2 n2) (hk:(c.ty T).k.known=true) (hz:(c.ty T).size=1) (hb:(⟨t,ob⟩:FSt).ob id=⟨ver,.hrow,E,1,es⟩) (hb2:(⟨t,ob⟩:FSt).ob id2=⟨ver2,lf2,E2,sz2,es2⟩) (hl2:lf2≠.dead) (hj:j<es.length) (hw:zL ops ⟨t,ob⟩ ⟨none,.store T x y,ty,pos,af,g⟩ true) (k:zF c ops rest ⟨t,((id,⟨ver,.hrow,E,1,es.set j [.own id2 ver2 o2 n2]⟩)::ob)⟩ (tr++[⟨⟨none,.store T x y,ty,pos,af,g⟩,.undef,[(id,⟨ver,.hrow,E,1,es.set j [.own id2 ver2 o2 n2]⟩)],xp ⟨t,ob⟩ 0 (.store T x y)⟩]) QD):zF c ops (⟨none,.store T x y,ty,pos,af,g⟩::rest) ⟨t,ob⟩ tr QD:=
 zF.cons (f:=.undef) (wr:=[(id,⟨ver,.hrow,E,1,es.set j [.own id2 ver2 o2 n2]⟩)]) (d:=0) (zjk (by have:=Eff.storeH (c:=c) (s:=⟨t,ob⟩) (d:=0) (TK.known_ne hk) hz x y hx (by rw [hb]) (by rw [hb]) (by rw [hb]) hy (.inr (.inl ⟨_,_,_,_,rfl,zO hb2 hl2⟩)) (by rw [hb];exact hj);rw [hb] at this;exact this)) hw rfl rfl k
theorem zg5 {T j id ver E:Nat} {x y:Operand} {es:List (List FV)} {id2 ver2 j2 o2 E2 sz2:Nat} {lf2:ya} {es2:List (List FV)} (hx:(⟨t,ob⟩:FSt).ev x=.ptr id ver j 0) (hy:(⟨t,ob⟩:FSt).ev y=.ptr id2 ver2 j2 o2) (hk:(c.ty T).k.known=true) (hz:(c.ty T).size=1) (hb:(⟨t,ob⟩:FSt).ob id=⟨ver,.hrow,E,1,es⟩) (hb2:(⟨t,ob⟩:FSt).ob id2=⟨ver2,lf2,E2,sz2,es2⟩) (hl2:lf2≠.dead) (hj:j<es.length) (hw:zL ops ⟨t,ob⟩ ⟨none,.store T x y,ty,pos,af,g⟩ true) (k:zc c ops rest ⟨t,((id,⟨ver,.hrow,E,1,es.set j [.ptr id2 ver2 j2 o2]⟩)::ob)⟩ Q):zc c ops (⟨none,.store T x y,ty,pos,af,g⟩::rest) ⟨t,ob⟩ Q:=
 zc.cons (f:=.undef) (wr:=[(id,⟨ver,.hrow,E,1,es.set j [.ptr id2 ver2 j2 o2]⟩)]) (d:=0) (zjk (by have:=Eff.storeH (c:=c) (s:=⟨t,ob⟩) (d:=0) (TK.known_ne hk) hz x y hx (by rw [hb]) (by rw [hb]) (by rw [hb]) hy (.inr (.inr (.inl ⟨_,_,_,_,rfl,zO hb2 hl2⟩))) (by rw [hb];exact hj);rw [hb] at this;exact this)) hw rfl k
theorem zg3 {T j id ver E:Nat} {x y:Operand} {es:List (List FV)} {id2 ver2 E2 sz2:Nat} {lf2:ya} {es2:List (List FV)} (hx:(⟨t,ob⟩:FSt).ev x=.ptr id ver j 0) (hy:(⟨t,ob⟩:FSt).ev y=.omap id2 ver2) (hk:(c.ty T).k.known=true) (hz:(c.ty T).size=1) (hb:(⟨t,ob⟩:FSt).ob id=⟨ver,.hrow,E,1,es⟩) (hb2:(⟨t,ob⟩:FSt).ob id2=⟨ver2,lf2,E2,sz2,es2⟩) (hl2:lf2≠.dead) (hj:j<es.length) (hw:zL ops ⟨t,ob⟩ ⟨none,.store T x y,ty,pos,af,g⟩ true) (k:zc c ops rest ⟨t,((id,⟨ver,.hrow,E,1,es.set j [.omap id2 ver2]⟩)::ob)⟩ Q):zc c ops (⟨none,.store T x y,ty,pos,af,g⟩::rest) ⟨t,ob⟩ Q:=
 zc.cons (f:=.undef) (wr:=[(id,⟨ver,.hrow,E,1,es.set j [.omap id2 ver2]⟩)]) (d:=0) (zjk (by have:=Eff.storeH (c:=c) (s:=⟨t,ob⟩) (d:=0) (TK.known_ne hk) hz x y hx (by rw [hb]) (by rw [hb]) (by rw [hb]) hy (.inr (.inr (.inr (.inr ⟨_,_,rfl,zO hb2 hl2⟩)))) (by rw [hb];exact hj);rw [hb] at this;exact this)) hw rfl k
theorem zg6 {T j id ver E:Nat} {x y:Operand} {es:List (List FV)} {f:FV} (hx:(⟨t,ob⟩:FSt).ev x=.ptr id ver j 0) (hy:evO t y=some f) (h1:f.one=true) (hk:(c.ty T).k.known=true) (hz:(c.ty T).size=1) (hb:(⟨t,ob⟩:FSt).ob id=⟨ver,.hrow,E,1,es⟩) (hj:j<es.length) (hw:zL ops ⟨t,ob⟩ ⟨none,.store T x y,ty,pos,af,g⟩ true) (k:zc c ops rest ⟨t,((id,⟨ver,.hrow,E,1,es.set j [f]⟩)::ob)⟩ Q):zc c ops (⟨none,.store T x y,ty,pos,af,g⟩::rest) ⟨t,ob⟩ Q:=
 zc.cons (f:=.undef) (wr:=[(id,⟨ver,.hrow,E,1,es.set j [f]⟩)]) (d:=0) (zjk (by have:=Eff.storeH (c:=c) (s:=⟨t,ob⟩) (d:=0) (TK.known_ne hk) hz x y hx (by rw [hb]) (by rw [hb]) (by rw [hb]) (ZR hy) (.inl h1) (by rw [hb];exact hj);rw [hb] at this;exact this)) hw rfl k
theorem zk2 {T e sz by_ id ver o n:Nat} {kk:TK} {z:List FV} {es es2:List (List FV)} {x y:Operand} {v0 E0 sz0:Nat} {lf0:ya} {es0:List (List FV)} (hx:(⟨t,ob⟩:FSt).ev x=.own id ver o n) (hb:(⟨t,ob⟩:FSt).ob id=⟨ver,.roomy,e,sz,es⟩) (hn:o+n=es.length) (hT:(c.ty T).k=.slice e) (he:c.ty e=⟨kk,sz,by_,z⟩) (hk:kk.known=true) (hp:0<sz) (hy:Yg t ob y sz es2) (h1:es2.length=1) (hv:(⟨t,ob⟩:FSt).ob d=⟨v0,lf0,E0,sz0,es0⟩) (hd:Nat.blt d c.N=true) (hw:zL ops ⟨t,ob⟩ ⟨some d,.call { callee:=.builtin .append,args:=#[x,y],argTypes:=#[T,T] },ty,pos,af,g⟩ true) (k:zc c ops rest ⟨((d,(.own d (v0+1) o (n+1)))::t),((d,⟨v0+1,.own,e,sz,es++es2⟩)::(id,⟨ver,.dead,e,sz,es⟩)::ob)⟩ Q):zc c ops (⟨some d,.call { callee:=.builtin .append,args:=#[x,y],argTypes:=#[T,T] },ty,pos,af,g⟩::rest) ⟨t,ob⟩ Q:=
 zc.cons (f:=(.own d (v0+1) o (n+1))) (wr:=[(id,⟨ver,.dead,e,sz,es⟩),(d,⟨v0+1,.own,e,sz,es++es2⟩)]) (d:=d) (yh hd (by have:=Eff.appRoom (c:=c) (s:=⟨t,ob⟩) (d:=d) hT (by rw [he];exact TK.known_ne hk) (by rw [he];exact hp) x y hx (by rw [hb]) (by rw [hb]) (by rw [hb]) (by rw [hb,he]) (by rw [hb];exact hn) rfl (by rw [he];exact hy.ok) h1;rw [he] at this;simpa [Zm hv,hb] using this)) hw rfl k
theorem zk0 {T e sz by_ id ver o n:Nat} {kk:TK} {z:List FV} {es es2:List (List FV)} {x y:Operand} {v0 E0 sz0:Nat} {lf0:ya} {es0:List (List FV)} (hx:(⟨t,ob⟩:FSt).ev x=.own id ver o n) (hb:(⟨t,ob⟩:FSt).ob id=⟨ver,.full,e,sz,es⟩) (hn:o+n=es.length) (hT:(c.ty T).k=.slice e) (he:c.ty e=⟨kk,sz,by_,z⟩) (hk:kk.known=true) (hp:0<sz) (hy:Yg t ob y sz es2) (h1:es2.length=1) (hbb:(n+1) * by_≤140737488355328) (hm:n+1≤140737488355328) (hv:(⟨t,ob⟩:FSt).ob d=⟨v0,lf0,E0,sz0,es0⟩) (hd:Nat.blt d c.N=true) (hw:zL ops ⟨t,ob⟩ ⟨some d,.call { callee:=.builtin .append,args:=#[x,y],argTypes:=#[T,T] },ty,pos,af,g⟩ true) (k:zc c ops rest ⟨((d,(.own d (v0+1) 0 (n+1)))::t),((d,⟨v0+1,.own,e,sz,es.drop o++es2⟩)::(id,⟨ver,.dead,e,sz,es⟩)::ob)⟩ Q):zc c ops (⟨some d,.call { callee:=.builtin .append,args:=#[x,y],argTypes:=#[T,T] },ty,pos,af,g⟩::rest) ⟨t,ob⟩ Q:=
 zc.cons (f:=(.own d (v0+1) 0 (n+1))) (wr:=[(id,⟨ver,.dead,e,sz,es⟩),(d,⟨v0+1,.own,e,sz,es.drop o++es2⟩)]) (d:=d) (yh hd (by have:=Eff.appFull (c:=c) (s:=⟨t,ob⟩) (d:=d) hT (by rw [he];exact TK.known_ne hk) (by rw [he];exact hp) x y hx (by rw [hb]) (by rw [hb]) (by rw [hb]) (by rw [hb,he]) (by rw [hb];exact hn) rfl (by rw [he];exact hy.ok) h1 (by rw [he];exact hbb) hm;rw [he] at this;simpa [Zm hv,hb] using this)) hw rfl k
theorem xY {T:Nat} {v0 E0 sz0:Nat} {lf0:ya} {es0:List (List FV)} (hv:(⟨t,ob⟩:FSt).ob d=⟨v0,lf0,E0,sz0,es0⟩) (hd:Nat.blt d c.N=true) (hw:zL ops ⟨t,ob⟩ ⟨some d,.makeMap T none,ty,pos,af,g⟩ true) (k:zc c ops rest ⟨((d,(.omap d (v0+1)))::t),((d,⟨v0+1,.mapo,T,0,[]⟩)::ob)⟩ Q):zc c ops (⟨some d,.makeMap T none,ty,pos,af,g⟩::rest) ⟨t,ob⟩ Q:=
 zc.cons (f:=(.omap d (v0+1))) (wr:=[(d,⟨v0+1,.mapo,T,0,[]⟩)]) (d:=d) (yh hd (by have:=Eff.makeMap (c:=c) (s:=⟨t,ob⟩) (d:=d) T;rw [Zm hv] at this;exact this)) hw rfl k
theorem zd3 {T k e:Nat} {bb found:Bool} {x y:Operand} {kf vf:FV} {id ver E sz:Nat} {lf:ya} {es:List (List FV)} (K:Maps.Keyed c.P k) (hkk:∀ row∈es,∀ kf,row.head? = some kf→Zr c.P k kf) (hkf:Zr c.P k kf) (hlk:YZ es kf (c.ty e).zfv vf found) (hx:(⟨t,ob⟩:FSt).ev x=.omap id ver) (hb:(⟨t,ob⟩:FSt).ob id=⟨ver,lf,E,sz,es⟩) (hl:lf≠.dead∧lf≠.hmap) (hy:(⟨t,ob⟩:FSt).ev y=kf) (hT:(c.ty T).k=.map k e) (he:(c.ty e).k.agg? = some bb) (hn:vf.hand=none) (hd:Nat.blt d c.N=true) (hw:zL ops ⟨t,ob⟩ ⟨some d,.lookup T x y false,ty,pos,af,g⟩ true) (k:zc c ops rest ⟨((d,vf)::t),ob⟩ Q):zc c ops (⟨some d,.lookup T x y false,ty,pos,af,g⟩::rest) ⟨t,ob⟩ Q:=
 zc.cons (f:=vf) (wr:=[]) (d:=d) (yh hd (by have:=Eff.look (c:=c) (s:=⟨t,ob⟩) (d:=d) hT he K x y false (.inl ⟨id,ver,hx,⟨zO hb hl.1,by rw [hb];exact hl.2⟩,by rw [hb]⟩) hy hkk hkf hlk hn;simpa using this)) hw rfl k
theorem Vd {T k e:Nat} {bb found:Bool} {x y:Operand} {kf vf:FV} {es:List (List FV)} (K:Maps.Keyed c.P k) (hkk:∀ row∈es,∀ kf,row.head? = some kf→Zr c.P k kf) (hkf:Zr c.P k kf) (hlk:YZ es kf (c.ty e).zfv vf found) (hx:(⟨t,ob⟩:FSt).ev x=.smap es) (hy:(⟨t,ob⟩:FSt).ev y=kf) (hT:(c.ty T).k=.map k e) (he:(c.ty e).k.agg? = some bb) (hn:vf.hand=none) (hd:Nat.blt d c.N=true) (hw:zL ops ⟨t,ob⟩ ⟨some d,.lookup T x y false,ty,pos,af,g⟩ true) (k:zc c ops rest ⟨((d,vf)::t),ob⟩ Q):zc c ops (⟨some d,.lookup T x y false,ty,pos,af,g⟩::rest) ⟨t,ob⟩ Q:=
 zc.cons (f:=vf) (wr:=[]) (d:=d) (yh hd (by have:=Eff.look (c:=c) (s:=⟨t,ob⟩) (d:=d) hT he K x y false (.inr hx) hy hkk hkf hlk hn;simpa using this)) hw rfl k
theorem ziF {T k e:Nat} {bb found:Bool} {x y:Operand} {kf vf:FV} {es:List (List FV)} (K:Maps.Keyed c.P k) (hkk:∀ row∈es,∀ kf,row.head? = some kf→Zr c.P k kf) (hkf:Zr c.P k kf) (hlk:YZ es kf (c.ty e).zfv vf found) (hx:(⟨t,ob⟩:FSt).ev x=.smap es) (hy:(⟨t,ob⟩:FSt).ev y=kf) (hT:(c.ty T).k=.map k e) (he:(c.ty e).k.agg? = some bb) (hn:vf.hand=none) (hd:Nat.blt d c.N=true) (hw:zL ops ⟨t,ob⟩ ⟨some d,.lookup T x y false,ty,pos,af,g⟩ true) (k:zF c ops rest ⟨((d,vf)::t),ob⟩ (tr++[⟨⟨some d,.lookup T x y false,ty,pos,af,g⟩,vf,[],xp ⟨t,ob⟩ d (.lookup T x y false)⟩]) QD):zF c ops (⟨some d,.lookup T x y false,ty,pos,af,g⟩::rest) ⟨t,ob⟩ tr QD:=
 zF.cons (f:=vf) (wr:=[]) (d:=d) (yh hd (by have:=Eff.look (c:=c) (s:=⟨t,ob⟩) (d:=d) hT he K x y false (.inr hx) hy hkk hkf hlk hn;simpa using this)) hw rfl rfl k
theorem Xm {T k e:Nat} {bb found:Bool} {x y:Operand} {kf vf:FV} {id ver E sz:Nat} {lf:ya} {es:List (List FV)} (K:Maps.Keyed c.P k) (hkk:∀ row∈es,∀ kf,row.head? = some kf→Zr c.P k kf) (hkf:Zr c.P k kf) (hlk:YZ es kf (c.ty e).zfv vf found) (hx:(⟨t,ob⟩:FSt).ev x=.omap id ver) (hb:(⟨t,ob⟩:FSt).ob id=⟨ver,lf,E,sz,es⟩) (hl:lf≠.dead∧lf≠.hmap) (hy:(⟨t,ob⟩:FSt).ev y=kf) (hT:(c.ty T).k=.map k e) (he:(c.ty e).k.agg? = some bb) (hn:vf.hand=none) (hd:Nat.blt d c.N=true) (hw:zL ops ⟨t,ob⟩ ⟨some d,.lookup T x y true,ty,pos,af,g⟩ true) (k:zc c ops rest ⟨((d,(.tup [vf,.bool found]))::t),ob⟩ Q):zc c ops (⟨some d,.lookup T x y true,ty,pos,af,g⟩::rest) ⟨t,ob⟩ Q:=
 zc.cons (f:=(.tup [vf,.bool found])) (wr:=[]) (d:=d) (yh hd (by have:=Eff.look (c:=c) (s:=⟨t,ob⟩) (d:=d) hT he K x y true (.inl ⟨id,ver,hx,⟨zO hb hl.1,by rw [hb];exact hl.2⟩,by rw [hb]⟩) hy hkk hkf hlk hn;simpa using this)) hw rfl k
theorem Xl {T k e:Nat} {bb found:Bool} {x y:Operand} {kf vf:FV} {es:List (List FV)} (K:Maps.Keyed c.P k) (hkk:∀ row∈es,∀ kf,row.head? = some kf→Zr c.P k kf) (hkf:Zr c.P k kf) (hlk:YZ es kf (c.ty e).zfv vf found) (hx:(⟨t,ob⟩:FSt).ev x=.smap es) (hy:(⟨t,ob⟩:FSt).ev y=kf) (hT:(c.ty T).k=.map k e) (he:(c.ty e).k.agg? = some bb) (hn:vf.hand=none) (hd:Nat.blt d c.N=true) (hw:zL ops ⟨t,ob⟩ ⟨some d,.lookup T x y true,ty,pos,af,g⟩ true) (k:zc c ops rest ⟨((d,(.tup [vf,.bool found]))::t),ob⟩ Q):zc c ops (⟨some d,.lookup T x y true,ty,pos,af,g⟩::rest) ⟨t,ob⟩ Q:=
 zc.cons (f:=(.tup [vf,.bool found])) (wr:=[]) (d:=d) (yh hd (by have:=Eff.look (c:=c) (s:=⟨t,ob⟩) (d:=d) hT he K x y true (.inr hx) hy hkk hkf hlk hn;simpa using this)) hw rfl k
theorem ziG {T k e:Nat} {bb found:Bool} {x y:Operand} {kf vf:FV} {es:List (List FV)} (K:Maps.Keyed c.P k) (hkk:∀ row∈es,∀ kf,row.head? = some kf→Zr c.P k kf) (hkf:Zr c.P k kf) (hlk:YZ es kf (c.ty e).zfv vf found) (hx:(⟨t,ob⟩:FSt).ev x=.smap es) (hy:(⟨t,ob⟩:FSt).ev y=kf) (hT:(c.ty T).k=.map k e) (he:(c.ty e).k.agg? = some bb) (hn:vf.hand=none) (hd:Nat.blt d c.N=true) (hw:zL ops ⟨t,ob⟩ ⟨some d,.lookup T x y true,ty,pos,af,g⟩ true) (k:zF c ops rest ⟨((d,(.tup [vf,.bool found]))::t),ob⟩ (tr++[⟨⟨some d,.lookup T x y true,ty,pos,af,g⟩,(.tup [vf,.bool found]),[],xp ⟨t,ob⟩ d (.lookup T x y true)⟩]) QD):zF c ops (⟨some d,.lookup T x y true,ty,pos,af,g⟩::rest) ⟨t,ob⟩ tr QD:=
 zF.cons (f:=(.tup [vf,.bool found])) (wr:=[]) (d:=d) (yh hd (by have:=Eff.look (c:=c) (s:=⟨t,ob⟩) (d:=d) hT he K x y true (.inr hx) hy hkk hkf hlk hn;simpa using this)) hw rfl rfl k
theorem ZK {T k e id ver E sz:Nat} {x y z:Operand} {kf vf:FV} {es es' : List (List FV)} (K:Maps.Keyed c.P k) (hkk:∀ row∈es,∀ kf,row.head? = some kf→Zr c.P k kf) (hkf:Zr c.P k kf) (hs:zhn es kf vf es') (hx:(⟨t,ob⟩:FSt).ev x=.omap id ver) (hb:(⟨t,ob⟩:FSt).ob id=⟨ver,.mapo,E,sz,es⟩) (hy:(⟨t,ob⟩:FSt).ev y=kf) (hz:(⟨t,ob⟩:FSt).ev z=vf) (hT:(c.ty T).k=.map k e) (hn:vf.hand=none) (hw:zL ops ⟨t,ob⟩ ⟨none,.mapUpdate T x y z,ty,pos,af,g⟩ true) (k:zc c ops rest ⟨t,((id,⟨ver,.mapo,E,sz,es'⟩)::ob)⟩ Q):zc c ops (⟨none,.mapUpdate T x y z,ty,pos,af,g⟩::rest) ⟨t,ob⟩ Q:=
 zc.cons (f:=.undef) (wr:=[(id,⟨ver,.mapo,E,sz,es'⟩)]) (d:=0) (zmt (by have:=Eff.update (c:=c) (s:=⟨t,ob⟩) (d:=0) hT K x y z hx (by rw [hb]) (by rw [hb]) hy hz (by rw [hb];exact hkk) hkf hn (es':=es') (by rw [hb];exact hs);rw [hb] at this;exact this)) hw rfl k
theorem ziH {T k e id ver E sz:Nat} {x y z:Operand} {kf vf:FV} {es es' : List (List FV)} (K:Maps.Keyed c.P k) (hkk:∀ row∈es,∀ kf,row.head? = some kf→Zr c.P k kf) (hkf:Zr c.P k kf) (hs:zhn es kf vf es') (hx:(⟨t,ob⟩:FSt).ev x=.omap id ver) (hb:(⟨t,ob⟩:FSt).ob id=⟨ver,.mapo,E,sz,es⟩) (hy:(⟨t,ob⟩:FSt).ev y=kf) (hz:(⟨t,ob⟩:FSt).ev z=vf) (hT:(c.ty T).k=.map k e) (hn:vf.hand=none) (hw:zL ops ⟨t,ob⟩ ⟨none,.mapUpdate T x y z,ty,pos,af,g⟩ true) (k:zF c ops rest ⟨t,((id,⟨ver,.mapo,E,sz,es'⟩)::ob)⟩ (tr++[⟨⟨none,.mapUpdate T x y z,ty,pos,af,g⟩,.undef,[(id,⟨ver,.mapo,E,sz,es'⟩)],xp ⟨t,ob⟩ 0 (.mapUpdate T x y z)⟩]) QD):zF c ops (⟨none,.mapUpdate T x y z,ty,pos,af,g⟩::rest) ⟨t,ob⟩ tr QD:=
 zF.cons (f:=.undef) (wr:=[(id,⟨ver,.mapo,E,sz,es'⟩)]) (d:=0) (zmt (by have:=Eff.update (c:=c) (s:=⟨t,ob⟩) (d:=0) hT K x y z hx (by rw [hb]) (by rw [hb]) hy hz (by rw [hb];exact hkk) hkf hn (es':=es') (by rw [hb];exact hs);rw [hb] at this;exact this)) hw rfl rfl k
theorem yu {f:Nat} {xs:List Operand} {ts:Array TypeId} {gs:List FV} {res:FV} (hs:yn c.P f gs .fr res) (hx:zG t ob .fr xs gs) (hd:Nat.blt d c.N=true) (hw:zL ops ⟨t,ob⟩ ⟨some d,.call { callee:=.value (.func f),args:=xs.toArray,argTypes:=ts },ty,pos,af,g⟩ true) (k:zc c ops rest ⟨((d,res)::t),ob⟩ Q):zc c ops (⟨some d,.call { callee:=.value (.func f),args:=xs.toArray,argTypes:=ts },ty,pos,af,g⟩::rest) ⟨t,ob⟩ Q:=
 zc.cons (yh hd (.call hs (.inl rfl) (by simpa using hx.ok))) hw rfl k
theorem zfO {f:Nat} {x:Operand} {xs:List Operand} {ts:Array TypeId} {gs caps:List FV} {res:FV} (hx:(⟨t,ob⟩:FSt).ev x=.fn f caps) (hs:yn c.P f (gs++caps) .fr res) (ha:zG t ob .fr xs gs) (hd:Nat.blt d c.N=true) (hw:zL ops ⟨t,ob⟩ ⟨some d,.call { callee:=.value x,args:=xs.toArray,argTypes:=ts },ty,pos,af,g⟩ true) (k:zc c ops rest ⟨((d,res)::t),ob⟩ Q):zc c ops (⟨some d,.call { callee:=.value x,args:=xs.toArray,argTypes:=ts },ty,pos,af,g⟩::rest) ⟨t,ob⟩ Q:=
 zc.cons (yh hd (.callV hx hs (by simpa using ha.ok))) hw rfl k
theorem zk6 {T T2 e o m by_ id ver:Nat} {kk:TK} {z:List FV} {E:Nat} {es es2:List (List FV)} {x y:Operand} (hx:(⟨t,ob⟩:FSt).ev x=.own id ver o m) (hb:(⟨t,ob⟩:FSt).ob id=⟨ver,.own,E,1,es⟩) (hT:(c.ty T).k=.slice e) (he:c.ty e=⟨kk,1,by_,z⟩) (hk:kk.known=true) (hy:Yg t ob y 1 es2) (hd:Nat.blt d c.N=true) (hw:zL ops ⟨t,ob⟩ ⟨some d,.call { callee:=.builtin .copy,args:=#[x,y],argTypes:=#[T,T2] },ty,pos,af,g⟩ true) (k:zc c ops rest ⟨((d,(.int .i64 ((es2.take m).length:Nat)))::t),((id,⟨ver,.own,E,1,splice es o (es2.take m)⟩)::ob)⟩ Q):zc c ops (⟨some d,.call { callee:=.builtin .copy,args:=#[x,y],argTypes:=#[T,T2] },ty,pos,af,g⟩::rest) ⟨t,ob⟩ Q:=
 zc.cons (f:=(.int .i64 ((es2.take m).length:Nat))) (wr:=[(id,⟨ver,.own,E,1,splice es o (es2.take m)⟩)]) (d:=d) (yh hd (by have:=Eff.copy (c:=c) (s:=⟨t,ob⟩) (d:=d) (T2:=T2) hT (by rw [he];exact TK.known_ne hk) (by rw [he]) x y hx (by rw [hb]) (by rw [hb]) (by rw [hb]) rfl hy.ok;rw [hb] at this;exact this)) hw rfl k
theorem zkY {T T2 e o m by_ id ver:Nat} {kk:TK} {z:List FV} {E:Nat} {es es2:List (List FV)} {x y:Operand} (hx:(⟨t,ob⟩:FSt).ev x=.own id ver o m) (hb:(⟨t,ob⟩:FSt).ob id=⟨ver,.own,E,1,es⟩) (hT:(c.ty T).k=.slice e) (he:c.ty e=⟨kk,1,by_,z⟩) (hk:kk.known=true) (hy:Yg t ob y 1 es2) (hd:Nat.blt d c.N=true) (hw:zL ops ⟨t,ob⟩ ⟨some d,.call { callee:=.builtin .copy,args:=#[x,y],argTypes:=#[T,T2] },ty,pos,af,g⟩ true) (k:zF c ops rest ⟨((d,(.int .i64 ((es2.take m).length:Nat)))::t),((id,⟨ver,.own,E,1,splice es o (es2.take m)⟩)::ob)⟩ (tr++[⟨⟨some d,.call { callee:=.builtin .copy,args:=#[x,y],argTypes:=#[T,T2] },ty,pos,af,g⟩,(.int .i64 ((es2.take m).length:Nat)),[(id,⟨ver,.own,E,1,splice es o (es2.take m)⟩)],xp ⟨t,ob⟩ d (.call { callee:=.builtin .copy,args:=#[x,y],argTypes:=#[T,T2] })⟩]) QD):zF c ops (⟨some d,.call { callee:=.builtin .copy,args:=#[x,y],argTypes:=#[T,T2] },ty,pos,af,g⟩::rest) ⟨t,ob⟩ tr QD:=
 zF.cons (f:=(.int .i64 ((es2.take m).length:Nat))) (wr:=[(id,⟨ver,.own,E,1,splice es o (es2.take m)⟩)]) (d:=d) (yh hd (by have:=Eff.copy (c:=c) (s:=⟨t,ob⟩) (d:=d) (T2:=T2) hT (by rw [he];exact TK.known_ne hk) (by rw [he]) x y hx (by rw [hb]) (by rw [hb]) (by rw [hb]) rfl hy.ok;rw [hb] at this;exact this)) hw rfl rfl k
theorem zbP {T:Nat} {x:Operand} {f:FV} (hx:evO t x=some f) (hn:f.hand=none) (hk:(c.ty T).k.known=true) (hni:xT c.P T=false) (hd:Nat.blt d c.N=true) (hw:zL ops ⟨t,ob⟩ ⟨some d,.makeInterface T x,ty,pos,af,g⟩ true) (k:zc c ops rest ⟨((d,(.iface T f))::t),ob⟩ Q):zc c ops (⟨some d,.makeInterface T x,ty,pos,af,g⟩::rest) ⟨t,ob⟩ Q:=
 zc.cons (yh hd (.mkIface (TK.known_ne hk) hni x (ZR hx) hn)) hw rfl k
theorem zax {T id ver j o:Nat} {x:Operand} (hx:(⟨t,ob⟩:FSt).ev x=.ptr id ver j o) (hk:(c.ty T).k.known=true) (hni:xT c.P T=false) (hd:Nat.blt d c.N=true) (hw:zL ops ⟨t,ob⟩ ⟨some d,.makeInterface T x,ty,pos,af,g⟩ true) (k:zc c ops rest ⟨((d,(.wrap (.ifc T) [.ptr id ver j o]))::t),ob⟩ Q):zc c ops (⟨some d,.makeInterface T x,ty,pos,af,g⟩::rest) ⟨t,ob⟩ Q:=
 zc.cons (yh hd (.mkIfaceH (TK.known_ne hk) hni x hx rfl)) hw rfl k
theorem zg8 {T T2:Nat} {x:Operand} {f:FV} (hx:(⟨t,ob⟩:FSt).ev x=.iface T f) (hn:f.hand=none) (hk:(c.ty T).k.known=true) (hni:xT c.P T=false) (hd:Nat.blt d c.N=true) (hw:zL ops ⟨t,ob⟩ ⟨some d,.typeAssert x T2 T false,ty,pos,af,g⟩ true) (k:zc c ops rest ⟨((d,f)::t),ob⟩ Q):zc c ops (⟨some d,.typeAssert x T2 T false,ty,pos,af,g⟩::rest) ⟨t,ob⟩ Q:=
 zc.cons (yh hd (.tAssert (TK.known_ne hk) hni x hx hn)) hw rfl k
theorem zgS {T T2:Nat} {x:Operand} {f:FV} (hx:(⟨t,ob⟩:FSt).ev x=.iface T f) (hn:f.hand=none) (hk:(c.ty T).k.known=true) (hni:xT c.P T=false) (hd:Nat.blt d c.N=true) (hw:zL ops ⟨t,ob⟩ ⟨some d,.typeAssert x T2 T false,ty,pos,af,g⟩ true) (k:zF c ops rest ⟨((d,f)::t),ob⟩ (tr++[⟨⟨some d,.typeAssert x T2 T false,ty,pos,af,g⟩,f,[],xp ⟨t,ob⟩ d (.typeAssert x T2 T false)⟩]) QD):zF c ops (⟨some d,.typeAssert x T2 T false,ty,pos,af,g⟩::rest) ⟨t,ob⟩ tr QD:=
 zF.cons (yh hd (.tAssert (TK.known_ne hk) hni x hx hn)) hw rfl rfl k
theorem zg2 {f:Nat} {xs:List Operand} {caps:List FV} (hx:xs.map (⟨t,ob⟩:FSt).ev=caps) (hn:caps.all FV.notWrap=true) (hd:Nat.blt d c.N=true) (hw:zL ops ⟨t,ob⟩ ⟨some d,.makeFunc (.func f) #[] xs.toArray,ty,pos,af,g⟩ true) (k:zc c ops rest ⟨((d,(.wrap (.fn f) caps))::t),ob⟩ Q):zc c ops (⟨some d,.makeFunc (.func f) #[] xs.toArray,ty,pos,af,g⟩::rest) ⟨t,ob⟩ Q:=
 zc.cons (yh hd (.makeFnH (by simpa using hx) hn)) hw rfl k
theorem zjZ {f:Nat} {xs:List Operand} {caps:List FV} (hx:xs.map (⟨t,ob⟩:FSt).ev=caps) (hn:caps.all FV.notWrap=true) (hd:Nat.blt d c.N=true) (hw:zL ops ⟨t,ob⟩ ⟨some d,.makeFunc (.func f) xs.toArray #[],ty,pos,af,g⟩ true) (k:zc c ops rest ⟨((d,(.wrap (.bound f) caps))::t),ob⟩ Q):zc c ops (⟨some d,.makeFunc (.func f) xs.toArray #[],ty,pos,af,g⟩::rest) ⟨t,ob⟩ Q:=
 zc.cons (yh hd (.bound (by simpa using hx) hn)) hw rfl k
theorem zbO {T e by_ by2:Nat} {kk:TK} {z:List FV} {z0 z1 f1 f2:FV} {x y:Operand} (hx:evO t x=some f1) (hy:evO t y=some f2) (h1:f1.one=true) (h2:f2.one=true) (hT:c.ty T=⟨.arr 2 e,2,by_,[z0,z1]⟩) (he:c.ty e=⟨kk,1,by2,z⟩) (hk:kk.known=true) (hd:Nat.blt d c.N=true) (hw:zL ops ⟨t,ob⟩ ⟨some d,.build T #[(0,x),(1,y)],ty,pos,af,g⟩ true) (k:zc c ops rest ⟨((d,(.agg [f1,f2]))::t),ob⟩ Q):zc c ops (⟨some d,.build T #[(0,x),(1,y)],ty,pos,af,g⟩::rest) ⟨t,ob⟩ Q:=
 zc.cons (yh hd (zeD (ZR hx) (ZR hy) h1 h2 hT he hk)) hw rfl k
theorem zlP {T T2:Nat} {x y:Operand} {X Y:List FV} {b:Bool} (hx:(⟨t,ob⟩:FSt).ev x=.agg X) (hX:X.all FV.simple1=true) (hy:(⟨t,ob⟩:FSt).ev y=.agg Y) (hY:Y.all FV.simple1=true) (hl:zjl c.P T X Y b) (hd:Nat.blt d c.N=true) (hw:zL ops ⟨t,ob⟩ ⟨some d,.binOp .neq T x y T2,ty,pos,af,g⟩ true) (k:zF c ops rest ⟨((d,(.bool (!b)))::t),ob⟩ (tr++[⟨⟨some d,.binOp .neq T x y T2,ty,pos,af,g⟩,(.bool (!b)),[],xp ⟨t,ob⟩ d (.binOp .neq T x y T2)⟩]) QD):zF c ops (⟨some d,.binOp .neq T x y T2,ty,pos,af,g⟩::rest) ⟨t,ob⟩ tr QD:=
 zF.cons (yh hd (.eqAgg .neq x y hx hX hy hY hl (by simp))) hw rfl rfl k
theorem ziX {T T2 e:Nat} {x y:Operand} (hx:(⟨t,ob⟩:FSt).ev x=.nil) (hy:(⟨t,ob⟩:FSt).ev y=.nil) (hT:(c.ty T).k=.slice e) (hd:Nat.blt d c.N=true) (hw:zL ops ⟨t,ob⟩ ⟨some d,.binOp .neq T x y T2,ty,pos,af,g⟩ true) (k:zc c ops rest ⟨((d,(.bool false))::t),ob⟩ Q):zc c ops (⟨some d,.binOp .neq T x y T2,ty,pos,af,g⟩::rest) ⟨t,ob⟩ Q:=
 zc.cons (yh hd (.eqNil .neq hT x y hx .nil hy (by simp))) hw rfl k
theorem ziY {T T2 e o n:Nat} {x y:Operand} {id ver E sz:Nat} {lf:ya} {es:List (List FV)} (hx:(⟨t,ob⟩:FSt).ev x=.own id ver o n) (hy:(⟨t,ob⟩:FSt).ev y=.nil) (hT:(c.ty T).k=.slice e) (hb:(⟨t,ob⟩:FSt).ob id=⟨ver,lf,E,sz,es⟩) (hl:lf≠.dead) (hn:0<n) (hd:Nat.blt d c.N=true) (hw:zL ops ⟨t,ob⟩ ⟨some d,.binOp .neq T x y T2,ty,pos,af,g⟩ true) (k:zc c ops rest ⟨((d,(.bool true))::t),ob⟩ Q):zc c ops (⟨some d,.binOp .neq T x y T2,ty,pos,af,g⟩::rest) ⟨t,ob⟩ Q:=
 zc.cons (yh hd (.eqNil .neq hT x y hx (.own id ver o n (zO hb hl) hn) hy (by simp))) hw rfl k
theorem zg1 {f:Nat} {x y z:Operand} {g1 g2 g3:FV} (hx:evO t x=some g1) (hh:g1.hand=none) (hy:evO t y=some g2) (hi:g2.hand=none) (hz:evO t z=some g3) (hj:g3.hand=none) (hd:Nat.blt d c.N=true) (hw:zL ops ⟨t,ob⟩ ⟨some d,.makeFunc (.func f) #[] #[x,y,z],ty,pos,af,g⟩ true) (k:zc c ops rest ⟨((d,(.fn f [g1,g2,g3]))::t),ob⟩ Q):zc c ops (⟨some d,.makeFunc (.func f) #[] #[x,y,z],ty,pos,af,g⟩::rest) ⟨t,ob⟩ Q:=
 zc.cons (yh hd (.makeFn (by simp [ZR hx,ZR hy,ZR hz]) (by simp [hh,hi,hj]))) hw rfl k
theorem zg0 {f:Nat} {x:Operand} {g1:FV} (hx:evO t x=some g1) (hh:g1.hand=none) (hd:Nat.blt d c.N=true) (hw:zL ops ⟨t,ob⟩ ⟨some d,.makeFunc (.func f) #[] #[x],ty,pos,af,g⟩ true) (k:zc c ops rest ⟨((d,(.fn f [g1]))::t),ob⟩ Q):zc c ops (⟨some d,.makeFunc (.func f) #[] #[x],ty,pos,af,g⟩::rest) ⟨t,ob⟩ Q:=
 zc.cons (yh hd (.makeFn (by simp [ZR hx]) (by simp [hh]))) hw rfl k
theorem xJ {f:Nat} {xs:List Operand} {ts:Array TypeId} {gs:List FV} {res:FV} (hs:yn c.P f gs .sh res) (hx:zG t ob .sh xs gs) (hd:Nat.blt d c.N=true) (hw:zL ops ⟨t,ob⟩ ⟨some d,.call { callee:=.value (.func f),args:=xs.toArray,argTypes:=ts },ty,pos,af,g⟩ true) (k:zc c ops rest ⟨((d,res)::t),ob⟩ Q):zc c ops (⟨some d,.call { callee:=.value (.func f),args:=xs.toArray,argTypes:=ts },ty,pos,af,g⟩::rest) ⟨t,ob⟩ Q:=
 zc.cons (yh hd (.call hs (.inr rfl) (by simpa using hx.ok))) hw rfl k
theorem zcw {f:Nat} {xs:List Operand} {ts:Array TypeId} {gs:List FV} {res:FV} (hs:yn c.P f gs .sh res) (hx:zG t ob .sh xs gs) (hd:Nat.blt d c.N=true) (hw:zL ops ⟨t,ob⟩ ⟨some d,.call { callee:=.value (.func f),args:=xs.toArray,argTypes:=ts },ty,pos,af,g⟩ true) (k:zF c ops rest ⟨((d,res)::t),ob⟩ (tr++[⟨⟨some d,.call { callee:=.value (.func f),args:=xs.toArray,argTypes:=ts },ty,pos,af,g⟩,res,[],xp ⟨t,ob⟩ d (.call { callee:=.value (.func f),args:=xs.toArray,argTypes:=ts })⟩]) QD):zF c ops (⟨some d,.call { callee:=.value (.func f),args:=xs.toArray,argTypes:=ts },ty,pos,af,g⟩::rest) ⟨t,ob⟩ tr QD:=
 zF.cons (yh hd (.call hs (.inr rfl) (by simpa using hx.ok))) hw rfl rfl k
theorem Uq {f E sz n:Nat} {xs:List Operand} {ts:Array TypeId} {gs:List FV} {es:List (List FV)} {v0 E0 sz0:Nat} {lf0:ya} {es0:List (List FV)} (hs:yn c.P f gs (.ow E sz) (.list sz es)) (hx:zG t ob (.ow E sz) xs gs) (hn:es.length=n) (hv:(⟨t,ob⟩:FSt).ob d=⟨v0,lf0,E0,sz0,es0⟩) (hd:Nat.blt d c.N=true) (hw:zL ops ⟨t,ob⟩ ⟨some d,.call { callee:=.value (.func f),args:=xs.toArray,argTypes:=ts },ty,pos,af,g⟩ true) (k:zc c ops rest ⟨((d,(.own d (v0+1) 0 n))::t),((d,⟨v0+1,.own,E,sz,es⟩)::ob)⟩ Q):zc c ops (⟨some d,.call { callee:=.value (.func f),args:=xs.toArray,argTypes:=ts },ty,pos,af,g⟩::rest) ⟨t,ob⟩ Q:=
 zc.cons (f:=(.own d (v0+1) 0 n)) (wr:=[(d,⟨v0+1,.own,E,sz,es⟩)]) (d:=d) (yh hd (by subst hn;have:=Eff.callOw (c:=c) (s:=⟨t,ob⟩) (d:=d) (ts:=ts) hs (xs:=xs.toArray) (by simpa using hx.ok);rw [Zm hv] at this;exact this)) hw rfl k
theorem yd {o:Oper} (ho:o.dst=some d) (hd:Nat.blt d c.N=true) (hw:zL ops ⟨t,ob⟩ o false) (k:zc c ops rest ⟨(d,.tup [])::t,ob⟩ Q):zc c ops (o::rest) ⟨t,ob⟩ Q:=
 zc.skip hw (fun d' e=>by rw [ho] at e;injection e with e;subst e;exact Nat.le_of_ble_eq_true hd) (by rw [ho];rfl) k
theorem Xj {o:Oper} (ho:o.dst=some d) (hd:Nat.blt d c.N=true) (hw:zL ops ⟨t,ob⟩ o false) (k:zF c ops rest ⟨(d,.tup [])::t,ob⟩ (tr++[⟨o,.tup [],[],[]⟩]) QD):zF c ops (o::rest) ⟨t,ob⟩ tr QD:=
 zF.skip hw (fun d' e=>by rw [ho] at e;injection e with e;subst e;exact Nat.le_of_ble_eq_true hd) (by rw [ho];rfl) k
theorem zT {T sz by_:Nat} {fs:List (Nat×Nat)} {z:List FV} {ps:List (Nat×Operand)} (hT:c.ty T=⟨.strct fs,sz,by_,z⟩) (hk:fs.all (fun p=>(c.ty p.2).k.known)=true) (hd:Nat.blt d c.N=true) (hw:zL ops ⟨t,ob⟩ (⟨some d,.build T ps.toArray,ty,pos,af,g⟩:Oper) true)
  (k:zV c ⟨t,ob⟩ fs ps z (fun cs=>zc c ops rest ⟨(d,.agg cs)::t,ob⟩ Q)):zc c ops ((⟨some d,.build T ps.toArray,ty,pos,af,g⟩:Oper)::rest) ⟨t,ob⟩ Q:=let ⟨_,h1,h2⟩:=k;zj0 hT hk h1 hd hw h2
theorem zao {T sz by_:Nat} {fs:List (Nat×Nat)} {z:List FV} {ps:List (Nat×Operand)} (hT:c.ty T=⟨.strct fs,sz,by_,z⟩) (hk:fs.all (fun p=>(c.ty p.2).k.known)=true) (hd:Nat.blt d c.N=true) (hw:zL ops ⟨t,ob⟩ (⟨some d,.build T ps.toArray,ty,pos,af,g⟩:Oper) true)
  (k:zV c ⟨t,ob⟩ fs ps z (fun cs=>zF c ops rest ⟨(d,.agg cs)::t,ob⟩ (tr++[⟨⟨some d,.build T ps.toArray,ty,pos,af,g⟩,.agg cs,[],xp ⟨t,ob⟩ d (.build T ps.toArray)⟩]) QD)):zF c ops ((⟨some d,.build T ps.toArray,ty,pos,af,g⟩:Oper)::rest) ⟨t,ob⟩ tr QD:=let ⟨_,h1,h2⟩:=k;zjW hT hk h1 hd hw h2
theorem yc {b:Bool} (h1:b=true→zc c ops rest ⟨(d,.bool true)::t,ob⟩ Q) (h2:b=false→zc c ops rest ⟨(d,.bool false)::t,ob⟩ Q):zc c ops rest ⟨(d,.bool b)::t,ob⟩ Q:=by
 cases b
 ·exact h2 rfl
 ·exact h1 rfl
theorem zap {b:Bool} {o:Oper} {wr:List (Nat×zh)} {ft:List Nat} (h1:b=true→zF c ops rest ⟨(d,.bool true)::t,ob⟩ (tr++[⟨o,.bool true,wr,ft⟩]) QD) (h2:b=false→zF c ops rest ⟨(d,.bool false)::t,ob⟩ (tr++[⟨o,.bool false,wr,ft⟩]) QD) :
  zF c ops rest ⟨(d,.bool b)::t,ob⟩ (tr++[⟨o,.bool b,wr,ft⟩]) QD:=by
 cases b
 ·exact h2 rfl
 ·exact h1 rfl
end
end Go.Proofs.Ytmnmakhpjgjdaaa
