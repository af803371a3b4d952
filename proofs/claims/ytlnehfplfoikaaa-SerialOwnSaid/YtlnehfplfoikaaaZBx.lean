/-
  Some texts as one: FmI, FmJ, FmK.
-/
import Derived.Test.YtlnehfplfoikaaaZB
import Derived.Orders
namespace Go.Proofs.Ytlnehfplfoikaaa
set_option linter.unusedVariables false
set_option maxHeartbeats 16000000
section
open Go.RowKit Go.Maps
def ziL (P:Program) (f:Nat):Bool:=
 match P.funcs[f]? with
 | some fn => fn.body.isSome && fn.name != "runtime.NumGoroutine"
 | none => false
inductive za1 where
 | fr|sh|ow (E sz:Nat)
 deriving DecidableEq,Inhabited
def zgV (w w' : World) (I:Nat→Prop):za1→Value→FV→Prop
 | .fr, v, f => Rd w' (fun b => w.heap.size ≤ b ∧ b<w'.heap.size) v f
 | .sh, v, f => Rd w' (fun b => I b ∨ (w.heap.size ≤ b ∧ b<w'.heap.size)) v f
 | .ow E sz, v, f => ∃ es us, f=.list sz es ∧ (∀ e ∈ es, e.length=sz) ∧ (∀ f ∈ es.flatten, f.one=true) ∧ w'.ownsRow w.heap.size E sz v es.length us ∧ RdL w' (fun b => w.heap.size ≤ b ∧ b<w'.heap.size ∧ v.ownBlock ≠ some b) us es.flatten
structure zY (P:Program) (f:Nat) (args:List FV) (m:za1) (res:FV):Prop where
 go:ziL P f=true
 hand:res.hand=none
 calls:∀ (w:World) (I:Nat→Prop) (vs:List Value),(∀ b,I b→b<w.heap.size)→RdL w I vs args→Calls P f vs.toArray w fun e w'=>∃ v,e=.returned v∧Below w.heap.size w w'∧zgV w w' I m v res
inductive FV.le:FV→FV→Prop where
 | refl (f:FV):FV.le f f
 | undef (f:FV):FV.le f .undef
 | nil (sz:Nat):FV.le .nil (.list sz [])
 | aggL {fs gs:List FV} (hl:fs.length=gs.length) (h:∀ (j:Nat) f g, fs[j]? = some f → gs[j]? = some g → FV.le f g):FV.le (.agg fs) (.agg gs)
 | tupL {fs gs:List FV} (hl:fs.length=gs.length) (h:∀ (j:Nat) f g, fs[j]? = some f → gs[j]? = some g → FV.le f g):FV.le (.tup fs) (.tup gs)
inductive LeL:List FV→List FV→Prop where
 | nil:LeL [] []
 | cons {f g:FV} {fs gs:List FV} (h:FV.le f g) (hs:LeL fs gs):LeL (f :: fs) (g :: gs)
theorem LeL.get {fs gs:List FV} (h:LeL fs gs):fs.length=gs.length∧∀ (j:Nat) f g,fs[j]? = some f→gs[j]? = some g→FV.le f g:=by
 induction h with
 | nil => exact ⟨rfl, by simp⟩
 | cons h hs ih =>
  refine ⟨by simp [ih.1],fun j f g hf hg=>?_⟩;cases j with
  | zero => simp at hf hg; subst hf; subst hg; exact h
  | succ j => exact ih.2 j f g (by simpa using hf) (by simpa using hg)
theorem FV.le.agg {fs gs:List FV} (h:LeL fs gs):FV.le (.agg fs) (.agg gs):=.aggL h.get.1 h.get.2
theorem FV.le.tup {fs gs:List FV} (h:LeL fs gs):FV.le (.tup fs) (.tup gs):=.tupL h.get.1 h.get.2
theorem Rd.le {w:World} {I:Nat→Prop} {f g:FV} (h:FV.le f g):∀ {v:Value},Rd w I v f→Rd w I v g:=by
 induction h with
 | refl f => exact id
 | undef f => exact fun _ => .undef _
 | nil sz => intro v h; cases h; exact .list none 0 0 sz [] [] rfl (Nat.le_refl _) zc zc zc zc zc
 | @aggL fs gs hl h ih=>
  intro v hv;cases hv with
  | agg us fs hl' hr =>
   refine .agg us gs (hl'.trans hl) fun j u g hu hg=>?_;have hj:j<fs.length:=by rw [hl];exact (List.getElem?_eq_some_iff.1 hg).1
   exact ih j fs[j] g (by simp [hj]) hg (hr j u _ hu (by simp [hj]))
 | @tupL fs gs hl h ih=>
  intro v hv;cases hv with
  | tup us fs hl' hr =>
   refine .tup us gs (hl'.trans hl) fun j u g hu hg=>?_;have hj:j<fs.length:=by rw [hl];exact (List.getElem?_eq_some_iff.1 hg).1
   exact ih j fs[j] g (by simp [hj]) hg (hr j u _ hu (by simp [hj]))
inductive Ws (s:FSt) (m:za1):FV→FV→Prop where
 | plain (f:FV) (hn:f.hand=none):Ws s m f f
 | nil (sz:Nat):Ws s m .nil (.list sz [])
 | sub (f g:FV) (hn:f.hand=none) (hle:FV.le f g):Ws s m f g
 | own (id ver o n:Nat) (hl:s.live id ver) (hrl:(s.ob id).life.row=true) (hm:m=.sh → (s.ob id).life=.shut):Ws s m (.own id ver o n) (.list (s.ob id).sz (((s.ob id).es.drop o).take n))
inductive Zj (s:FSt) (m:za1):List Operand→List FV→Prop where
 | nil:Zj s m [] []
 | cons {x:Operand} {xs:List Operand} {g:FV} {gs:List FV} (h:Ws s m (s.ev x) g) (hs:Zj s m xs gs):Zj s m (x :: xs) (g :: gs)
section
variable {c:Ctx} {w0 w:World} {J:JJ} {s:FSt} {a:Act} {β:Nat→Option Nat}
def zfp (J:JJ) (w:World) (β:Nat→Option Nat) (s:FSt) (m:za1) (b:Nat):Prop:=if m=.sh then Imm J w β s b else b<w.heap.size
theorem FR.arg (h:FR c.N w0 J s a w β) {m:za1} {x:Operand} {g:FV} (hx:Ws s m (s.ev x) g):Rd w (zfp J w β s m) (a.eval x) g:=by
 have him:∀ b,Imm J w β s b→zfp J w β s m b∧w.heap[b]? = w.heap[b]?:=fun b hb=>by
  unfold zfp;split
  ·exact ⟨hb,rfl⟩
  ·exact ⟨hb.1,rfl⟩
 generalize hf:s.ev x=f at hx;cases hx with
 | plain f hn => exact (h.ev_rd hf hn).mono him
 | sub f g hn hle => exact ((h.ev_rd hf hn).mono him).le hle
 | nil sz =>
  rw [h.ev_nil hf];exact .list none 0 0 sz [] [] rfl (Nat.le_refl _) zc zc zc zc zc
 | own id ver o n hl hrl hm=>
  obtain ⟨A,cc,e1,e2,e3,e4,e5⟩:=(h.ev_own hf hl.1 hl.2).ex;obtain ⟨hw,hone,A',cc',us,e1',e2',hr,hA',hcell⟩:=h.src hf (Src.own id ver o n hl hrl);rw [e1] at e1' ⊢;injection e1' with k1 k2 k3
  subst k1;refine .list A n cc _ _ us k2.symm e2 hw hone (fun h0=>?_) hr.1 (hr.mono him).2;cases hb:β id with
  | none => have := (e4 hb).2; omega
  | some b=>
   obtain ⟨o',rfl,_⟩:=e5 b hb;refine ⟨b,o',rfl,?_,fun j u hu=>by have:=hcell _ rfl j u hu;rwa [yM] at this⟩;have hlt:=((h.obj id hl.1).lt hb).2;unfold zfp;split
   ·rename_i hsh;have hshut:=hm hsh;refine ⟨hlt,h.fresh b ((h.obj id hl.1).lt hb).1 (.inr ⟨id,hl.1,hb⟩),fun id' hl' e=>?_⟩;have:=h.inj id id' b hl.1 (zX.mine_ne hl') hb e;subst this;rw [hshut] at hl';cases hl'
   ·exact hlt
theorem FR.args (h:FR c.N w0 J s a w β) {m:za1}:∀ {xs:List Operand} {gs:List FV},Zj s m xs gs→RdL w (zfp J w β s m) (xs.map a.eval) gs
 | _, _, .nil => RdL.nil
 | _, _, .cons hx hs => RdL.cons (h.arg hx) (h.args hs)
theorem yS {P:Program} {f:Nat} (hg:ziL P f=true) (args:Array Value) (w:World):(callFunc f args).run P w=.ok (.enter f args) w:=by
 unfold ziL at hg;cases hf:P.funcs[f]? with
 | none => rw [hf] at hg; cases hg
 | some fn =>
  rw [hf] at hg;simp only [Bool.and_eq_true,bne_iff_ne,ne_eq] at hg;have hb:fn.body≠none:=fun e=>by rw [e] at hg;cases hg.1
  have hp:(program:Sem Program).run P w=.ok P w:=rfl;simp [callFunc,hp,hf,hg.2,hb]
theorem zfD (h:FR c.N w0 J s a w β) {f:Nat} {xs:Array Operand} {ts:Array TypeId} {m:za1} {gs:List FV} {res:FV} (hs:zY c.P f gs m res) (hx:Zj s m xs.toList gs) {dst:Option Nat} {ty:TypeId} {pos:String} {after:Array Edge} {g:Option (Nat×Bool)}
  {K:Act→World→Prop} {Q:Exit→Act→World→Prop} (hK:∀ v w',Below w.heap.size w w'→zgV w w' (zfp J w β s m) m v res→K (a.put dst v) w') :
  (⟨dst,.call { callee:=.value (.func f),args:=xs,argTypes:=ts },ty,pos,after,g⟩:Oper).wp c.P a w K Q:=by
 have hlent:∀ b,zfp J w β s m b→b<w.heap.size:=fun b hb=>by
  unfold zfp at hb;split at hb
  ·exact hb.1
  ·exact hb
 have hc:=hs.calls w (zfp J w β s m) (xs.toList.map a.eval) hlent (h.args hx);have hmap:(xs.toList.map a.eval).toArray=xs.map a.eval:=by
  apply Array.ext';simp
 rw [hmap] at hc;unfold Oper.wp;have hrun:(execOp a.eval ⟨dst,.call { callee:=.value (.func f),args:=xs,argTypes:=ts },ty,pos,after,g⟩).run c.P w=.ok (.enter f (xs.map a.eval)) w:=by
  have:=yS (P:=c.P) hs.go (xs.map a.eval) w;simp [execOp,resolve,Act.eval,Deferred.ofValue,invoke,this]
 rw [hrun,Oper.upon_enter];refine hc.mono ?_;rintro e w' ⟨v,rfl,hb,hr⟩;exact hK v w' hb hr
end
section
variable {c:Ctx} {w0 w:World} {J:JJ} {s:FSt} {a:Act} {β:Nat→Option Nat}
theorem zgZ (h:FR c.N w0 J s a w β) {f:Nat} {x:Operand} {xs:Array Operand} {ts:Array TypeId} {gs caps:List FV} {res:FV} (ex:s.ev x=.fn f caps) (hs:zY c.P f (gs++caps) .fr res) (hx:Zj s .fr xs.toList gs) {dst:Option Nat} {ty:TypeId} {pos:String} {after:Array Edge} {g:Option (Nat×Bool)}
  {K:Act→World→Prop} {Q:Exit→Act→World→Prop} (hK:∀ v w',Below w.heap.size w w'→zgV w w' (fun b=>b<w.heap.size) .fr v res→K (a.put dst v) w') :
  (⟨dst,.call { callee:=.value x,args:=xs,argTypes:=ts },ty,pos,after,g⟩:Oper).wp c.P a w K Q:=by
 have hxs:=h.args hx;have hl:∀ b,zfp J w β s .fr b→b<w.heap.size:=fun b hb=>by simpa [zfp] using hb
 have hv:=VR.rd (by have:=h.ev x;rwa [ex] at this) rfl;generalize hxe:a.eval x=v at hv;cases hv with
 | fn f us fs hul hur=>
  have hcap:RdL w (fun b=>b<w.heap.size) us caps:=⟨hul,fun j u q hu hq=>Rd.mono (fun b hb=>⟨hb.1,rfl⟩) (hur j u q hu hq)⟩
  have harg:RdL w (fun b=>b<w.heap.size) (xs.toList.map a.eval) gs:=⟨hxs.1,fun j u q hu hq=>Rd.mono (fun b hb=>⟨hl b hb,rfl⟩) (hxs.2 j u q hu hq)⟩
  have hc:=hs.calls w (fun b=>b<w.heap.size) (xs.toList.map a.eval++us) (fun b hb=>hb) (harg.append hcap);have hmap:(xs.toList.map a.eval++us).toArray=xs.map a.eval++us.toArray:=by
   apply Array.ext';simp
  rw [hmap] at hc;unfold Oper.wp;have hrun:(execOp a.eval ⟨dst,.call { callee:=.value x,args:=xs,argTypes:=ts },ty,pos,after,g⟩).run c.P w=.ok (.enter f (xs.map a.eval++us.toArray)) w:=by
   have:=yS (P:=c.P) hs.go (xs.map a.eval++us.toArray) w;simp [execOp,resolve,hxe,Deferred.ofValue,invoke,this]
  rw [hrun,Oper.upon_enter];refine hc.mono ?_;rintro e w' ⟨v,rfl,hb,hr⟩;exact hK v w' hb hr
theorem zcR (hF:FR c.N w0 J s a w β) {f:Nat} {xs:Array Operand} {caps:List FV} (hx:xs.toList.map s.ev=caps) (hc:∀ g∈caps,g.hand=none) {dst:Option Nat} {ty:TypeId} {pos:String} {after:Array Edge} {g:Option (Nat×Bool)} :
  yL c w0 J s a ⟨dst,.makeFunc (.func f) #[] xs,ty,pos,after,g⟩ w (.fn f caps) []:=by
 have hl:RdL w (Imm J w β s) (xs.toList.map a.eval) caps:=by
  subst hx;refine ⟨by simp,fun j u q hu hq=>?_⟩;rw [List.getElem?_map] at hu hq;cases hx2:xs.toList[j]? with
  | none => rw [hx2] at hu; cases hu
  | some y =>
   rw [hx2] at hu hq;simp only [Option.map_some,Option.some.injEq] at hu hq;subst hu;subst hq;exact VR.rd (hF.ev y) (hc _ (List.mem_map.2 ⟨y,List.mem_of_getElem? hx2,rfl⟩))
 have hv:(xs.toList.map a.eval).toArray=xs.map a.eval:=by apply Array.ext';simp
 exact .rd hF (v:=.func (.func f) #[] (xs.map a.eval)) (by simp [execOp,Instr.makeFunc]) (by rw [← hv];exact .fn f _ _ hl.1 hl.2) rfl
end
def zam (op:Op):Prop:=(∃ T x y,op=.store T x y)∨∃ T x y z,op=.mapUpdate T x y z
def XY:Op→Bool
 | .move _ => true
 | .assign _ => true
 | _ => false
def yT (s:FSt) (d:Nat) (op:Op):List Nat:=d::bif XY op then [] else op.operands.toList.filterMap fun x=>(s.ev x).hand.map (·.1)
theorem zg7 (s:FSt) (d:Nat) (op:Op):d∈yT s d op:=List.mem_cons_self
theorem Xg {s:FSt} {d:Nat} {op:Op} {x:Operand} (hst:XY op=false) (hx:x∈op.operands.toList) {id ver:Nat} (h:(s.ev x).hand=some (id,ver)):id∈yT s d op:=by
 unfold yT;rw [hst];exact List.mem_cons_of_mem _ (List.mem_filterMap.2 ⟨x,hx,by rw [h];rfl⟩)
inductive Eff (c:Ctx) (s:FSt) (d:Nat):Op→FV→List (Nat×zn)→Prop where
 | move (x:Operand):Eff c s d (.move x) (s.ev x) []
 | assign (x:Operand):Eff c s d (.assign x) (s.ev x) []
 | pick (cnd x y:Operand) {b:Bool} (hb:s.ev cnd=.bool b):Eff c s d (.pick cnd x y) (if b then s.ev x else s.ev y) []
 | ibin (op:BinOp) (T T2:TypeId) (x y:Operand) {k:IntKind} {m n:Int} {f:FV} (ex:s.ev x=.int k m) (ey:s.ev y=.int k n) (hf:ibin op k m n=some f):Eff c s d (.binOp op T x y T2) f []
 | idiv (op:BinOp) (T T2:TypeId) (x y:Operand) {k:IntKind} {m n:Int} (ex:s.ev x=.int k m) (ey:s.ev y=.int k n) (hn:n ≠ 0) (hop:op=.quo ∨ op=.rem):Eff c s d (.binOp op T x y T2) (.int k (if op=.quo then k.wrap (m.tdiv n) else m.tmod n)) []
 | bbin (op:BinOp) {T T2:TypeId} (x y:Operand) {m n:Bool} (hT:(c.ty T).k=.bool) (ex:s.ev x=.bool m) (ey:s.ev y=.bool n) (hop:op=.eql ∨ op=.neq):Eff c s d (.binOp op T x y T2) (.bool (if op=.eql then m == n else m != n)) []
 | not (T:TypeId) (x:Operand) {b:Bool} (ex:s.ev x=.bool b):Eff c s d (.unOp .not T x) (.bool (!b)) []
 | shift (op:BinOp) (T T2:TypeId) (x y:Operand) {k yk:IntKind} {m n:Int} (ex:s.ev x=.int k m) (ey:s.ev y=.int yk n) (hn:0 ≤ n) (hop:op=.shl ∨ op=.shr):Eff c s d (.binOp op T x y T2) (.int k (if op=.shl then k.wrap (m * 2 ^ (min n.toNat k.bits)) else m.fdiv (2 ^ (min n.toNat k.bits)))) []
 | conv {T T2:TypeId} {k2:IntKind} (hT:(c.ty T).k ≠ .other) (hT2:(c.ty T2).k=.int k2) (x:Operand) {k:IntKind} {n:Int} (ex:s.ev x=.int k n):Eff c s d (.convert T T2 x) (.int k2 (k2.wrap n)) []
 | neg (T:TypeId) (x:Operand) {k:IntKind} {n:Int} (ex:s.ev x=.int k n):Eff c s d (.unOp .neg T x) (.int k (k.wrap (-n))) []
 | min2 (bi:Builtin) (T T2:TypeId) (x y:Operand) {k:IntKind} {m n:Int} (ex:s.ev x=.int k m) (ey:s.ev y=.int k n) (hbi:bi=.min∨bi=.max) :
   Eff c s d (.call { callee:=.builtin bi,args:=#[x,y],argTypes:=#[T,T2] }) (.int k (if bi=.min then (if n<m then n else m) else (if m<n then n else m))) []
 | lenOwn {T e:TypeId} (hT:(c.ty T).k=.slice e) (x:Operand) {id ver o n:Nat} (ex:s.ev x=.own id ver o n) (hl:s.live id ver):Eff c s d (.call { callee := .builtin .len, args := #[x], argTypes := #[T] }) (.int .i64 n) []
 | lenList {T e:TypeId} (hT:(c.ty T).k=.slice e) (x:Operand) {sz:Nat} {es:List (List FV)} (ex:s.ev x=.list sz es):Eff c s d (.call { callee := .builtin .len, args := #[x], argTypes := #[T] }) (.int .i64 es.length) []
 | lenNil {T e:TypeId} (hT:(c.ty T).k=.slice e) (x:Operand) (ex:s.ev x=.nil):Eff c s d (.call { callee := .builtin .len, args := #[x], argTypes := #[T] }) (.int .i64 0) []
 | fieldPtr {T ft i off:Nat} {fs:List (Nat×Nat)} (hT:(c.ty T).k=.strct fs) (hf:fs[i]? = some (off,ft)) (hft:(c.ty ft).k≠.other) (hsz:(c.ty ft).size≠0) (x:Operand) {id ver j o:Nat} (ex:s.ev x=.ptr id ver j o) (hl:s.live id ver) :
   Eff c s d (.fieldAddr T x i) (.ptr id ver j (o+off)) []
 | fieldEptr {T ft i off:Nat} {fs:List (Nat×Nat)} (hT:(c.ty T).k=.strct fs) (hf:fs[i]? = some (off,ft)) (hft:(c.ty ft).k≠.other) (hsz:(c.ty ft).size≠0) (x:Operand) {sz j o:Nat} {es:List (List FV)} (ex:s.ev x=.eptr sz es j o) :
   Eff c s d (.fieldAddr T x i) (.eptr sz es j (o+off)) []
 | indexList {T e:Nat} (hT:(c.ty T).k=.slice e) (he:(c.ty e).k≠.other) (x y:Operand) {sz:Nat} {es:List (List FV)} {k:IntKind} {n:Nat} (ex:s.ev x=.list sz es) (hsz:(c.ty e).size=sz) (ey:s.ev y=.int k n) (h1:n<es.length) :
   Eff c s d (.indexAddr T x y) (.eptr sz es n 0) []
 | indexOwn {T e:Nat} (hT:(c.ty T).k=.slice e) (he:(c.ty e).k≠.other) (x y:Operand) {id ver o m:Nat} {k:IntKind} {n:Nat} (ex:s.ev x=.own id ver o m) (hl:s.live id ver) (hsz:(c.ty e).size=(s.ob id).sz) (ey:s.ev y=.int k n) (h1:n<m) :
   Eff c s d (.indexAddr T x y) (.ptr id ver (o+n) 0) []
 | indexAPtr {T m e:Nat} (hT:(c.ty T).k=.arr m e) (he:(c.ty e).k≠.other) (x y:Operand) {id ver j o:Nat} {k:IntKind} {n:Nat} (ex:s.ev x=.ptr id ver j o) (hl:s.live id ver) (ey:s.ev y=.int k n) (h1:n<m) :
   Eff c s d (.indexAddr T x y) (.ptr id ver j (o+n * (c.ty e).size)) []
 | indexAEptr {T m e:Nat} (hT:(c.ty T).k=.arr m e) (he:(c.ty e).k≠.other) (x y:Operand) {sz j o:Nat} {es:List (List FV)} {k:IntKind} {n:Nat} (ex:s.ev x=.eptr sz es j o) (ey:s.ev y=.int k n) (h1:n<m) :
   Eff c s d (.indexAddr T x y) (.eptr sz es j (o+n * (c.ty e).size)) []
 | loadEptr {T:Nat} {bb:Bool} (hk:(c.ty T).k.agg? = some bb) (x:Operand) {sz j o:Nat} {es:List (List FV)} (ex:s.ev x=.eptr sz es j o) (hj:j<es.length) (ho:o+(c.ty T).size ≤ sz) (ho' : o<sz):Eff c s d (.load T x) (xX (c.ty T) ((es.getD j []).drop o)) []
 | loadPtr {T:Nat} {bb:Bool} (hk:(c.ty T).k.agg? = some bb) (x:Operand) {id ver j o:Nat} (ex:s.ev x=.ptr id ver j o) (hl:s.live id ver) (hrl:(s.ob id).life.row=true) (hj:j<(s.ob id).es.length) (ho:o+(c.ty T).size≤(s.ob id).sz) (ho' : o<(s.ob id).sz) :
   Eff c s d (.load T x) (xX (c.ty T) (((s.ob id).es.getD j []).drop o)) []
 | store {T:Nat} (hk:(c.ty T).k≠.other) (x y:Operand) {id ver j o:Nat} (ex:s.ev x=.ptr id ver j o) (hl:(s.ob id).life=.own) (hv:(s.ob id).ver=ver) {f:FV} (ey:s.ev y=f) (hf:f.cells.all FV.one=true) (hfl:f.cells.length=(c.ty T).size)
   (hj:j<(s.ob id).es.length) (ho:o+(c.ty T).size≤(s.ob id).sz):Eff c s d (.store T x y) .undef [(id,{ s.ob id with es:=(s.ob id).es.set j (splice ((s.ob id).es.getD j []) o f.cells) })]
 | alloc {T:Nat} (hk:(c.ty T).k ≠ .other) (hz:(c.ty T).zero.all FV.one=true):Eff c s d (.alloc T) (.ptr d ((s.ob d).ver+1) 0 0) [(d, ⟨(s.ob d).ver+1, .own, T, (c.ty T).zero.length, [(c.ty T).zero]⟩)]
 | box {T:Nat} (x:Operand) {f:FV} (ex:s.ev x=f) (hf:f.cells.all FV.one=true):Eff c s d (.box T x) (.ptr d ((s.ob d).ver+1) 0 0) [(d, ⟨(s.ob d).ver+1, .own, T, f.cells.length, [f.cells]⟩)]
 | build {T:Nat} {fs:List (Nat×Nat)} (hT:(c.ty T).k=.strct fs) (hfs:∀ p∈fs,(c.ty p.2).k≠.other) (ps:Array (Nat×Operand)) {cs:List FV} (hf:xx (fun i=>(fs[i]?).map fun p=>(p.1,(c.ty p.2).size)) (c.ty T).zero (s.parts ps)=some cs) :
   Eff c s d (.build T ps) (.agg cs) []
 | buildA {T n e:Nat} (hT:(c.ty T).k=.arr n e) (he:(c.ty e).k ≠ .other) (ps:Array (Nat × Operand)) {cs:List FV} (hf:xx (fun i => some (i * (c.ty e).size, (c.ty e).size)) (c.ty T).zero (s.parts ps)=some cs):Eff c s d (.build T ps) (.agg cs) []
 | buildSlice {T e n:Nat} (hT:(c.ty T).k=.slice e) (he:(c.ty e).k≠.other) (ps:Array (Nat×Operand)) (es:List (List FV)) (hn:es.length=n) (hw:∀ x∈es,x.length=(c.ty e).size) (ho:∀ f∈es.flatten,f.one=true) (hcap:n * (c.ty e).size≤16777216) (hnm:n≤16777216)
   (hf:xx (fun i=>some (i * (c.ty e).size,(c.ty e).size)) (List.replicate (n * (c.ty e).size) .undef) (s.parts ps)=some es.flatten):Eff c s d (.buildSlice T n ps) (.own d ((s.ob d).ver+1) 0 n) [(d,⟨(s.ob d).ver+1,.own,e,(c.ty e).size,es⟩)]
 | buildSliceS {T e n:Nat} (hT:(c.ty T).k=.slice e) (he:(c.ty e).k≠.other) (ps:Array (Nat×Operand)) (es:List (List FV)) (hn:es.length=n) (hw:∀ x∈es,x.length=(c.ty e).size) (ho:∀ f∈es.flatten,f.one=true) (hcap:n * (c.ty e).size≤16777216) (hnm:n≤16777216)
   (hf:xx (fun i=>some (i * (c.ty e).size,(c.ty e).size)) (List.replicate (n * (c.ty e).size) .undef) (s.parts ps)=some es.flatten):Eff c s d (.buildSlice T n ps) (.list (c.ty e).size es) []
 | makeSlice {T e n:Nat} (hT:(c.ty T).k=.slice e) (he:(c.ty e).k≠.other) (x y:Operand) {k1 k2:IntKind} (ex:s.ev x=.int k1 n) (ey:s.ev y=.int k2 n) (ho:(c.ty e).zero.all FV.one=true) (hb:(c.ty e).bytes * n≤281474976710656) (hn:n≤281474976710656) :
   Eff c s d (.makeSlice T x y) (.own d ((s.ob d).ver+1) 0 n) [(d,⟨(s.ob d).ver+1,.own,e,(c.ty e).size,List.replicate n (c.ty e).zero⟩)]
 | sliceOwn {T e:Nat} (hT:(c.ty T).k=.slice e) (he:(c.ty e).k≠.other) (x:Operand) (lo hi:Option Operand) {id ver o m l u:Nat} (ex:s.ev x=.own id ver o m) (hl:s.live id ver) (hsz:(c.ty e).size=(s.ob id).sz) (hlo:s.lo lo l) (hhi:s.hi hi m u) (h1:l≤u) (h2:u≤m) :
   Eff c s d (.slice T x lo hi none) (.own id ver (o+l) (u - l)) []
 | sliceList {T e:Nat} (hT:(c.ty T).k=.slice e) (he:(c.ty e).k≠.other) (x:Operand) (lo hi:Option Operand) {sz l u:Nat} {es:List (List FV)} (ex:s.ev x=.list sz es) (hsz:(c.ty e).size=sz) (hlo:s.lo lo l) (hhi:s.hi hi es.length u) (h1:l≤u) (h2:u≤es.length) :
   Eff c s d (.slice T x lo hi none) (.list sz ((es.drop l).take (u - l))) []
 | sliceNil {T e:Nat} (hT:(c.ty T).k=.slice e) (he:(c.ty e).k ≠ .other) (x:Operand) (lo hi:Option Operand) (ex:s.ev x=.nil) (hlo:s.lo lo 0) (hhi:s.hi hi 0 0):Eff c s d (.slice T x lo hi none) .nil []
 | extract (x:Operand) {i:Nat} {fs:List FV} {f:FV} (ex:s.ev x=.tup fs) (hf:fs[i]? = some f) (hn:f.hand=none):Eff c s d (.extract x i) f []
 | nilPtr (x:Operand) {id ver i o:Nat} (ex:s.ev x=.ptr id ver i o) (hl:s.live id ver):Eff c s d (.nilCheck x) (.ptr id ver i o) []
 | nilEptr (x:Operand) {sz i o:Nat} {es:List (List FV)} (ex:s.ev x=.eptr sz es i o):Eff c s d (.nilCheck x) (.eptr sz es i o) []
 | append {T e:Nat} (hT:(c.ty T).k=.slice e) (he:(c.ty e).k≠.other) (hpos:0<(c.ty e).size) (x y:Operand) {f1 f2:FV} {es1 es2:List (List FV)} {i:Option Nat} (ex:s.ev x=f1) (ey:s.ev y=f2) (h1:Bas s f1 (c.ty e).size es1 i) (hE:∀ k,i=some k→(s.ob k).E=e)
   (h2:Src s f2 (c.ty e).size es2) (hb:(es1.length+es2.length) * (c.ty e).bytes≤140737488355328) (hm:es1.length+es2.length≤140737488355328) :
   Eff c s d (.call { callee:=.builtin .append,args:=#[x,y],argTypes:=#[T,T] }) (.own d ((s.ob d).ver+1) 0 (es1++es2).length) (Zk s d e (c.ty e).size (es1++es2) i)
 | appendS {T e:Nat} (hT:(c.ty T).k=.slice e) (he:(c.ty e).k≠.other) (hpos:0<(c.ty e).size) (x y:Operand) {f1 f2:FV} {es1 es2:List (List FV)} {i:Option Nat} (ex:s.ev x=f1) (ey:s.ev y=f2) (h1:Bas s f1 (c.ty e).size es1 i) (hE:∀ k,i=some k→(s.ob k).E=e)
   (h2:Src s f2 (c.ty e).size es2) (hb:(es1.length+es2.length) * (c.ty e).bytes≤140737488355328) (hm:es1.length+es2.length≤140737488355328) :
   Eff c s d (.call { callee:=.builtin .append,args:=#[x,y],argTypes:=#[T,T] }) (.list (c.ty e).size (es1++es2)) (Zk s d e (c.ty e).size (es1++es2) i++[(d,⟨(s.ob d).ver+1,.dead,e,(c.ty e).size,es1++es2⟩)])
 | call {f:Nat} {xs:Array Operand} {ts:Array TypeId} {m:za1} {gs:List FV} {res:FV} (hs:zY c.P f gs m res) (hm:m=.fr ∨ m=.sh) (hx:Zj s m xs.toList gs):Eff c s d (.call { callee := .value (.func f), args := xs, argTypes := ts }) res []
 | callV {f:Nat} {x:Operand} {xs:Array Operand} {ts:Array TypeId} {gs caps:List FV} {res:FV} (ex:s.ev x=.fn f caps) (hs:zY c.P f (gs ++ caps) .fr res) (hx:Zj s .fr xs.toList gs):Eff c s d (.call { callee := .value x, args := xs, argTypes := ts }) res []
 | makeFn {f:Nat} {xs:Array Operand} {caps:List FV} (hx:xs.toList.map s.ev=caps) (hc:∀ g ∈ caps, g.hand=none):Eff c s d (.makeFunc (.func f) #[] xs) (.fn f caps) []
 | callOw {f:Nat} {xs:Array Operand} {ts:Array TypeId} {E sz:Nat} {gs:List FV} {es:List (List FV)} (hs:zY c.P f gs (.ow E sz) (.list sz es)) (hx:Zj s (.ow E sz) xs.toList gs) :
   Eff c s d (.call { callee:=.value (.func f),args:=xs,argTypes:=ts }) (.own d ((s.ob d).ver+1) 0 es.length) [(d,⟨(s.ob d).ver+1,.own,E,sz,es⟩)]
 | appRoom {T e:Nat} (hT:(c.ty T).k=.slice e) (he:(c.ty e).k≠.other) (hpos:0<(c.ty e).size) (x y:Operand) {id ver o n:Nat} (ex:s.ev x=.own id ver o n) (hlf:(s.ob id).life=.roomy) (hver:(s.ob id).ver=ver)
   (hE:(s.ob id).E=e) (hsz:(s.ob id).sz=(c.ty e).size) (hon:o+n=(s.ob id).es.length) {f2:FV} {es2:List (List FV)} (ey:s.ev y=f2) (h2:Src s f2 (c.ty e).size es2) (h1:es2.length=1) :
   Eff c s d (.call { callee:=.builtin .append,args:=#[x,y],argTypes:=#[T,T] }) (.own d ((s.ob d).ver+1) o (n+1)) [(id,{ s.ob id with life:=.dead }),(d,⟨(s.ob d).ver+1,.own,e,(c.ty e).size,(s.ob id).es++es2⟩)]
 | appFull {T e:Nat} (hT:(c.ty T).k=.slice e) (he:(c.ty e).k≠.other) (hpos:0<(c.ty e).size) (x y:Operand) {id ver o n:Nat} (ex:s.ev x=.own id ver o n) (hlf:(s.ob id).life=.full) (hver:(s.ob id).ver=ver)
   (hE:(s.ob id).E=e) (hsz:(s.ob id).sz=(c.ty e).size) (hon:o+n=(s.ob id).es.length) {f2:FV} {es2:List (List FV)} (ey:s.ev y=f2) (h2:Src s f2 (c.ty e).size es2) (h1:es2.length=1)
   (hb:(n+1) * (c.ty e).bytes≤140737488355328) (hm:n+1≤140737488355328) :
   Eff c s d (.call { callee:=.builtin .append,args:=#[x,y],argTypes:=#[T,T] }) (.own d ((s.ob d).ver+1) 0 (n+1)) [(id,{ s.ob id with life:=.dead }),(d,⟨(s.ob d).ver+1,.own,e,(c.ty e).size,(s.ob id).es.drop o++es2⟩)]
 | loadH {T:Nat} (hk:(c.ty T).k.agg? = some false) (hz:(c.ty T).size=1) (x:Operand) {id ver j:Nat} (ex:s.ev x=.ptr id ver j 0) (hlf:(s.ob id).life=.hrow) (hver:(s.ob id).ver=ver) (hsz:(s.ob id).sz=1) {f:FV} (hj:(s.ob id).es[j]? = some [f]):Eff c s d (.load T x) f []
 | storeH {T:Nat} (hk:(c.ty T).k≠.other) (hz:(c.ty T).size=1) (x y:Operand) {id ver j:Nat} (ex:s.ev x=.ptr id ver j 0) (hlf:(s.ob id).life=.hrow) (hver:(s.ob id).ver=ver) (hsz:(s.ob id).sz=1) {f:FV} (ey:s.ev y=f)
   (hf:Zx s f) (hj:j<(s.ob id).es.length):Eff c s d (.store T x y) .undef [(id,{ s.ob id with es:=(s.ob id).es.set j [f] })]
 | copy {T T2 e:Nat} (hT:(c.ty T).k=.slice e) (he:(c.ty e).k≠.other) (hz:(c.ty e).size=1) (x y:Operand) {id ver o m:Nat} (ex:s.ev x=.own id ver o m) (hlf:(s.ob id).life=.own) (hver:(s.ob id).ver=ver) (hsz:(s.ob id).sz=1) {f2:FV} {es2:List (List FV)} (ey:s.ev y=f2) (h2:Src s f2 1 es2) :
   Eff c s d (.call { callee:=.builtin .copy,args:=#[x,y],argTypes:=#[T,T2] }) (.int .i64 ((es2.take m).length:Nat)) [(id,{ s.ob id with es:=splice (s.ob id).es o (es2.take m) })]
 | mkIface {T:Nat} (hk:(c.ty T).k ≠ .other) (hni:xl c.P T=false) (x:Operand) {f:FV} (ex:s.ev x=f) (hn:f.hand=none):Eff c s d (.makeInterface T x) (.iface T f) []
 | mkIfaceH {T:Nat} (hk:(c.ty T).k ≠ .other) (hni:xl c.P T=false) (x:Operand) {f:FV} (ex:s.ev x=f) (hn:f.notWrap=true):Eff c s d (.makeInterface T x) (.wrap (.ifc T) [f]) []
 | tAssert {T T2:Nat} (hk:(c.ty T).k ≠ .other) (hni:xl c.P T=false) (x:Operand) {f:FV} (ex:s.ev x=.iface T f) (hn:f.hand=none):Eff c s d (.typeAssert x T2 T false) f []
 | makeFnH {f:Nat} {xs:Array Operand} {caps:List FV} (hx:xs.toList.map s.ev=caps) (hn:caps.all FV.notWrap=true):Eff c s d (.makeFunc (.func f) #[] xs) (.wrap (.fn f) caps) []
 | bound {f:Nat} {xs:Array Operand} {caps:List FV} (hx:xs.toList.map s.ev=caps) (hn:caps.all FV.notWrap=true):Eff c s d (.makeFunc (.func f) xs #[]) (.wrap (.bound f) caps) []
 | eqAgg (op:BinOp) {T T2:Nat} (x y:Operand) {X Y:List FV} {b:Bool} (ex:s.ev x=.agg X) (hX:X.all FV.simple1=true) (ey:s.ev y=.agg Y) (hY:Y.all FV.simple1=true) (hl:zd5 c.P T X Y b) (hop:op=.eql ∨ op=.neq):Eff c s d (.binOp op T x y T2) (.bool (if op=.eql then b else !b)) []
 | eqNil (op:BinOp) {T T2 e:Nat} (hT:(c.ty T).k=.slice e) (x y:Operand) {f:FV} {b:Bool} (ex:s.ev x=f) (hb:zcv s f b) (ey:s.ev y=.nil) (hop:op=.eql ∨ op=.neq):Eff c s d (.binOp op T x y T2) (.bool (if op=.eql then b else !b)) []
 | makeMap (T:Nat):Eff c s d (.makeMap T none) (.omap d ((s.ob d).ver+1)) [(d, ⟨(s.ob d).ver+1, .mapo, T, 0, []⟩)]
 | look {T k e:Nat} (hT:(c.ty T).k=.map k e) {bb:Bool} (he:(c.ty e).k.agg? = some bb) (K:Keyed c.P k) (x y:Operand) (ok:Bool) {es:List (List FV)} (ex:(∃ id ver,s.ev x=.omap id ver∧(s.live id ver∧(s.ob id).life≠.hmap)∧(s.ob id).es=es)∨s.ev x=.smap es)
   {kf:FV} (ey:s.ev y=kf) (hk:∀ row∈es,∀ kf,row.head? = some kf→Ui c.P k kf) (hkf:Ui c.P k kf) {vf:FV} {found:Bool} (hl:zd7 es kf (c.ty e).zfv vf found) (hn:vf.hand=none):Eff c s d (.lookup T x y ok) (if ok then .tup [vf,.bool found] else vf) []
 | update {T k e:Nat} (hT:(c.ty T).k=.map k e) (K:Keyed c.P k) (x y z:Operand) {id ver:Nat} (ex:s.ev x=.omap id ver) (hlf:(s.ob id).life=.mapo) (hver:(s.ob id).ver=ver)
   {kf vf:FV} (ey:s.ev y=kf) (ez:s.ev z=vf) (hk:∀ row∈(s.ob id).es,∀ kf,row.head? = some kf→Ui c.P k kf) (hkf:Ui c.P k kf) (hn:vf.hand=none) {es' : List (List FV)} (hs:zje (s.ob id).es kf vf es') :
   Eff c s d (.mapUpdate T x y z) .undef [(id,{ s.ob id with es:=es' })]
 | extN {op:Op} {wr:List (Nat×zn)} (hst:XY op=false) (hno:zam op) (hg:∀ s' : FSt,(∀ x∈op.operands.toList,s'.ev x=s.ev x)→(∀ id∈yT s d op,s'.ob id=s.ob id)→
   ∀ (w0:World) (J:JJ) (a:Act) (w:World) (β:Nat→Option Nat) (dst:Option Nat) (ty:TypeId) (pos:String) (after:Array Edge) (g:Option (Nat×Bool)),FR c.N w0 J s' a w β→
    ∃ w',(execOp a.eval ⟨dst,op,ty,pos,after,g⟩).run c.P w=.ok .skip w'∧FR c.N w0 J (s'.wr wr) a w' β):Eff c s d op .undef wr
 | ext {op:Op} {f:FV} {wr:List (Nat×zn)} (hst:XY op=false) (hno:¬ zam op) (hg:∀ s' : FSt,(∀ x∈op.operands.toList,s'.ev x=s.ev x)→(∀ id∈yT s d op,s'.ob id=s.ob id)→
   ∀ (w0:World) (J:JJ) (a:Act) (w:World) (β:Nat→Option Nat) (ty:TypeId) (pos:String) (after:Array Edge) (g:Option (Nat×Bool)),d<c.N→FR c.N w0 J s' a w β→
    ∀ (K:Act→World→Prop) (Q:Exit→Act→World→Prop),(∀ a' w' β',FR c.N w0 J ((s'.wr wr).put d f) a' w' β'→K a' w')→(⟨some d,op,ty,pos,after,g⟩:Oper).wp c.P a w K Q):Eff c s d op f wr
def FSt.putD (s:FSt):Option Nat→FV→FSt
 | some d, f => s.put d f
 | none, _ => s
def FSt.app (s:FSt) (dst:Option Nat) (f:FV) (wr:List (Nat×zn)):FSt:=(s.wr wr).putD dst f
section
variable {c:Ctx} {w0 w:World} {J:JJ} {s:FSt} {a:Act} {β:Nat→Option Nat}
theorem yL.wp {o:Oper} {f:FV} {wr:List (Nat×zn)} (h:yL c w0 J s a o w f wr) (hd:∀ d,o.dst=some d→d<c.N) {K:Act→World→Prop} {Q:Exit→Act→World→Prop} (hK:∀ a' w' β',FR c.N w0 J (s.app o.dst f wr) a' w' β'→K a' w'):o.wp c.P a w K Q:=by
 obtain ⟨v,w',β',hr,hF,hV,hver⟩:=h;unfold Oper.wp;rw [hr,Oper.upon_value];unfold FSt.app at hK;cases hdd:o.dst with
 | none => rw [hdd] at hK; exact hK _ _ _ hF
 | some d => rw [hdd] at hK; exact hK _ _ _ (hF.put (hd d hdd) hV hver)
theorem Eff.sound {d:Nat} {op:Op} {f:FV} {wr:List (Nat×zn)} (h:Eff c s d op f wr) (hF:FR c.N w0 J s a w β) (o:Oper) (ho:o.op=op) (hd:o.dst=some d∨(o.dst=none∧zam op)) (hdN:∀ d,o.dst=some d→d<c.N)
  {K:Act→World→Prop} {Q:Exit→Act→World→Prop} (hK:∀ a' w' β',FR c.N w0 J (s.app o.dst f wr) a' w' β'→K a' w'):o.wp c.P a w K Q:=by
 obtain ⟨dst,op',ty,pos,after,g⟩:=o;dsimp only at ho hd hdN hK;subst ho;by_cases hst:zam op'
 ·rcases hst with ⟨T,x,y,rfl⟩|⟨T,x,y,z,rfl⟩
  ·cases h with
   | ext hst hno hg => exact absurd (.inl ⟨_, _, _, rfl⟩) hno
   | extN hst hno hg =>
    obtain ⟨w',h1,h2⟩:=hg s (fun _ _=>rfl) (fun _ _=>rfl) w0 J a w β dst ty pos after g hF;unfold Oper.wp;rw [h1,Oper.upon_skip];unfold FSt.app at hK;cases dst with
    | none => exact hK _ _ _ h2
    | some d => exact hK _ _ _ (h2.put (hdN d rfl) (VR.of_rd (.undef _) rfl) (fun id ver e => by cases e))
   | store hk x y ex hl hv ey hf hfl hj ho =>
    obtain ⟨w',h1,h2⟩:=zet (dst:=dst) (ty:=ty) (pos:=pos) (after:=after) (g:=g) hF hk x y ex hl hv ey hf hfl hj ho;unfold Oper.wp;rw [h1,Oper.upon_skip];unfold FSt.app at hK;cases dst with
    | none => exact hK _ _ _ h2
    | some d => exact hK _ _ _ (h2.put (hdN d rfl) (VR.of_rd (.undef _) rfl) (fun id ver e => by cases e))
   | storeH hk hz x y ex hlf hver hsz ey hf hj =>
    obtain ⟨w',h1,h2⟩:=zcS (dst:=dst) (ty:=ty) (pos:=pos) (after:=after) (g:=g) hF hk hz x y ex hlf hver hsz ey hf hj;unfold Oper.wp;rw [h1,Oper.upon_skip];unfold FSt.app at hK;cases dst with
    | none => exact hK _ _ _ h2
    | some d => exact hK _ _ _ (h2.put (hdN d rfl) (VR.of_rd (.undef _) rfl) (fun id ver e => by cases e))
  ·cases h with
   | ext hst hno hg => exact absurd (.inr ⟨_, _, _, _, rfl⟩) hno
   | extN hst hno hg =>
    obtain ⟨w',h1,h2⟩:=hg s (fun _ _=>rfl) (fun _ _=>rfl) w0 J a w β dst ty pos after g hF;unfold Oper.wp;rw [h1,Oper.upon_skip];unfold FSt.app at hK;cases dst with
    | none => exact hK _ _ _ h2
    | some d => exact hK _ _ _ (h2.put (hdN d rfl) (VR.of_rd (.undef _) rfl) (fun id ver e => by cases e))
   | update hT K x y z ex hlf hver ey ez hk hkf hn hs =>
    obtain ⟨w',h1,h2⟩:=zcT (dst:=dst) (ty:=ty) (pos:=pos) (after:=after) (g:=g) hF hT K x y z ex hlf hver ey ez hk hkf hn hs;unfold Oper.wp;rw [h1,Oper.upon_skip];unfold FSt.app at hK;cases dst with
    | none => exact hK _ _ _ h2
    | some d => exact hK _ _ _ (h2.put (hdN d rfl) (VR.of_rd (.undef _) rfl) (fun id ver e => by cases e))
 ·obtain rfl:dst=some d:=by
   rcases hd with h'|⟨_,h'⟩
   ·exact h'
   ·exact absurd h' hst
  cases h with
  | extN hst2 hno hg => exact absurd hno hst
  | ext hst hno hg => exact hg s (fun _ _ => rfl) (fun _ _ => rfl) w0 J a w β ty pos after g (hdN d rfl) hF K Q hK
  | move x => exact (zfY hF x).wp hdN hK
  | assign x => exact (zcO hF x).wp hdN hK
  | pick cnd x y hb => exact (zfZ hF cnd x y hb).wp hdN hK
  | ibin op T T2 x y ex ey hf => exact (zfU hF op T T2 x y ex ey hf).wp hdN hK
  | idiv op T T2 x y ex ey hn hop => exact (zfV hF op T T2 x y ex ey hn hop).wp hdN hK
  | bbin op x y hT ex ey hop => exact (zfR hF op x y hT ex ey hop).wp hdN hK
  | not T x ex => exact (zhb hF T x ex).wp hdN hK
  | shift op T T2 x y ex ey hn hop => exact (zes hF op T T2 x y ex ey hn hop).wp hdN hK
  | conv hT hT2 x ex => exact (zfS hF hT hT2 x ex).wp hdN hK
  | neg T x ex => exact (zha hF T x ex).wp hdN hK
  | min2 bi T T2 x y ex ey hbi => exact (zfX hF bi T T2 x y ex ey hbi).wp hdN hK
  | lenOwn hT x ex hl => exact (zbz hF hT x ex hl).wp hdN hK
  | lenList hT x ex => exact (zaw hF hT x ex).wp hdN hK
  | lenNil hT x ex => exact (zby hF hT x ex).wp hdN hK
  | fieldPtr hT hf hft hsz x ex hl => exact (Um hF hT hf hft hsz x ex hl).wp hdN hK
  | fieldEptr hT hf hft hsz x ex => exact (Ve hF hT hf hft hsz x ex).wp hdN hK
  | indexList hT he x y ex hsz ey h1 => exact (Vg hF hT he x y ex hsz ey h1).wp hdN hK
  | indexOwn hT he x y ex hl hsz ey h1 => exact (Un hF hT he x y ex hl hsz ey h1).wp hdN hK
  | indexAPtr hT he x y ex hl ey h1 => exact (Vf hF hT he x y ex hl ey h1).wp hdN hK
  | indexAEptr hT he x y ex ey h1 => exact (Ww hF hT he x y ex ey h1).wp hdN hK
  | loadEptr hk x ex hj ho ho' => exact (Uo hF hk x ex hj ho ho').wp hdN hK
  | loadPtr hk x ex hl hrl hj ho ho' => exact (Xi hF hk x ex hl hrl hj ho ho').wp hdN hK
  | store hk x y ex hl hv ey hf hfl hj ho => exact absurd (.inl ⟨_, _, _, rfl⟩) hst
  | storeH hk hz x y ex hlf hver hsz ey hf hj => exact absurd (.inl ⟨_, _, _, rfl⟩) hst
  | loadH hk hz x ex hlf hver hsz hj => exact (zer hF hk hz x ex hlf hver hsz hj).wp hdN hK
  | appRoom hT he hpos x y ex hlf hver hE hsz hon ey h2 h1 => exact (zbv hF d hT he hpos x y ex hlf hver hE hsz hon ey h2 h1).wp hdN hK
  | appFull hT he hpos x y ex hlf hver hE hsz hon ey h2 h1 hb hm => exact (zbu hF d hT he hpos x y ex hlf hver hE hsz hon ey h2 h1 hb hm).wp hdN hK
  | update hT K x y z ex hlf hver ey ez hk hkf hn hs => exact absurd (.inr ⟨_, _, _, _, rfl⟩) hst
  | makeMap T => exact (zbB hF d T).wp hdN hK
  | look hT he K x y ok ex ey hk hkf hl hn => exact (zfW hF hT he K x y ok ex ey hk hkf hl hn).wp hdN hK
  | alloc hk hz => exact (zel hF d hk hz).wp hdN hK
  | box x ex hf => exact (zdD hF d x ex hf).wp hdN hK
  | build hT hfs ps hf => exact (zen hF hT hfs ps hf).wp hdN hK
  | buildA hT he ps hf => exact (zcP hF hT he ps hf).wp hdN hK
  | buildSlice hT he ps es hn hw ho hcap hnm hf => exact (Vd hF d hT he ps es hn hw ho hcap hnm hf).wp hdN hK
  | buildSliceS hT he ps es hn hw ho hcap hnm hf => exact (Wv hF d hT he ps es hn hw ho hcap hnm hf).wp hdN hK
  | makeSlice hT he x y ex ey ho hb hn => exact (Up hF d hT he x y ex ey ho hb hn).wp hdN hK
  | sliceOwn hT he x lo hi ex hl hsz hlo hhi h1 h2 => exact (Ut hF hT he x lo hi ex hl hsz hlo hhi h1 h2).wp hdN hK
  | sliceList hT he x lo hi ex hsz hlo hhi h1 h2 => exact (Vj hF hT he x lo hi ex hsz hlo hhi h1 h2).wp hdN hK
  | sliceNil hT he x lo hi ex hlo hhi => exact (Us hF hT he x lo hi ex hlo hhi).wp hdN hK
  | extract x ex hf hn => exact (zbx hF x ex hf hn).wp hdN hK
  | nilPtr x ex hl => exact (XJ hF x ex hl).wp hdN hK
  | nilEptr x ex => exact (Xj hF x ex).wp hdN hK
  | append hT he hpos x y ex ey h1 hE h2 hb hm => exact (Vc hF d hT he hpos x y ex ey h1 hE h2 hb hm).wp hdN hK
  | appendS hT he hpos x y ex ey h1 hE h2 hb hm => exact (zbw hF d hT he hpos x y ex ey h1 hE h2 hb hm).wp hdN hK
  | call hs hm hx=>
   rename_i fi xs ts m gs;refine zfD hF hs hx (fun v w' hb hr=>?_);have hG:=hF.grow hb;have hnew:∀ b,w.heap.size≤b∧b<w'.heap.size→Imm J w' β s b∧w'.heap[b]? = w'.heap[b]?:=fun b hb'=>⟨⟨hb'.2,hF.fresh b (Nat.le_trans hF.bel.size hb'.1) (.inl hb'.1),fun id hl e=>by
    have:=((hF.obj id (zX.mine_ne hl)).lt e).2;omega⟩,rfl⟩
   have hrd:Rd w' (Imm J w' β s) v f:=by
    rcases hm with rfl|rfl
    ·exact Rd.mono hnew hr
    ·refine Rd.mono (fun b hb'=>?_) hr;rcases hb' with h1|h1
     ·exact ⟨(Imm.grow (by simpa [zfp] using h1) hb).1,rfl⟩
     ·exact hnew b h1
   exact hK _ _ _ (hG.put (hdN d rfl) (VR.of_rd hrd hs.hand) (fun id ver e=>(FV.no_hands hs.hand e).elim))
  | callV ex hs hx=>
   refine zgZ hF ex hs hx (fun v w' hb hr=>?_);have hG:=hF.grow hb;have hrd:Rd w' (Imm J w' β s) v _:=Rd.mono (fun b hb'=>⟨⟨hb'.2,hF.fresh b (Nat.le_trans hF.bel.size hb'.1) (.inl hb'.1),fun id hl e=>by
    have:=((hF.obj id (zX.mine_ne hl)).lt e).2;omega⟩,rfl⟩) hr
   exact hK _ _ _ (hG.put (hdN d rfl) (VR.of_rd hrd hs.hand) (fun id ver e=>(FV.no_hands hs.hand e).elim))
  | makeFn hx hc => exact (zcR hF hx hc).wp hdN hK
  | copy hT hk hz x y ex hlf hver hsz ey h2 => exact (zfT hF hT hk hz x y ex hlf hver hsz ey h2).wp hdN hK
  | mkIface hk hni x ex hn => exact (zbC hF hk hni x ex hn).wp hdN hK
  | mkIfaceH hk hni x ex hn => exact (zax hF hk hni x ex hn).wp hdN hK
  | tAssert hk hni x ex hn => exact (zbE hF hk hni x ex hn).wp hdN hK
  | makeFnH hx hn => exact (zbA hF hx hn).wp hdN hK
  | bound hx hn => exact (zem hF hx hn).wp hdN hK
  | eqAgg op x y ex hX ey hY hl hop => exact (zep hF op x y ex hX ey hY hl hop).wp hdN hK
  | eqNil op hT x y ex hb ey hop => exact (zeq hF op hT x y ex hb ey hop).wp hdN hK
  | callOw hs hx=>
   rename_i fi xs ts E sz gs es;refine zfD hF hs hx (fun v w' hb hr=>?_);obtain ⟨es',us,e,hw,ho,hrow,hrl⟩:=hr;injection e with _ e
   subst e;have hG:=hF.grow hb;have hlow:=hrow.lt;have hI2:∀ b,(w.heap.size≤b∧b<w'.heap.size∧v.ownBlock≠some b)→Imm J w' (Yg β d v.ownBlock) (s.set d ⟨(s.ob d).ver+1,.own,E,sz,es⟩) b:=fun b hb'=>⟨hb'.2.1,hF.fresh b (Nat.le_trans hF.bel.size hb'.1) (.inl hb'.1),fun id hl e=>by
    rw [FSt.ob_set] at hl;unfold Yg at e;split at hl
    ·rename_i hh;rw [if_pos hh.symm] at e;exact hb'.2.2 e
    ·rename_i hh;rw [if_neg (fun e=>hh e.symm)] at e;have:=((hF.obj id (zX.mine_ne hl)).lt e).2;omega⟩
   have hM:FR c.N w0 J (s.set d ⟨(s.ob d).ver+1,.own,E,sz,es⟩) a w' (Yg β d v.ownBlock):=by
    have hI:∀ b,Imm J w β s b→Imm J w' (Yg β d v.ownBlock) (s.set d ⟨(s.ob d).ver+1,.own,E,sz,es⟩) b∧w'.heap[b]? = w.heap[b]?:=fun b hbb=>by
     refine ⟨⟨Nat.lt_of_lt_of_le hbb.1 hb.size,hbb.2.1,fun id hl=>?_⟩,hb.block b hbb.1⟩;rw [FSt.ob_set] at hl;unfold Yg;split at hl
     ·rename_i hh;rw [if_pos hh.symm];intro e;have:=(hlow b e).1;have:=hbb.1;omega
     ·rename_i hh;rw [if_neg (fun e=>hh e.symm)];exact hbb.2.2 id hl
    refine hF.step (C:=fun id=>id=d) hF.size hF.defers (hF.bel.trans (hb.mono hF.bel.size)) hI (fun k=>.inl ⟨rfl,rfl⟩) (fun id hC=>?_) (fun id hC=>?_) (fun id hC hl hvv=>?_) (fun id hC hl _=>?_) ?_ ?_
    ·refine ⟨by rw [FSt.ob_set,if_neg (fun e=>hC e.symm)],by unfold Yg;rw [if_neg hC],fun hl b hbb=>hb.block b ((hF.obj id hl).lt hbb).2⟩
    ·subst hC;rw [FSt.ob_set,if_pos rfl];exact Nat.le_succ _
    ·subst hC;rw [FSt.ob_set,if_pos rfl] at hvv;simp at hvv
    ·subst hC;rw [FSt.ob_set,if_pos rfl];rw [zW];exact .ofRow ⟨hw,ho,v,us,zdO hrow hF.bel.size,rfl,hrl.mono (fun b hb'=>⟨hI2 b hb',rfl⟩)⟩ (.own rfl) rfl
    ·intro id id' b hl hl' e e';rw [FSt.ob_set] at hl hl';unfold Yg at e e';by_cases h1:id=d
     ·by_cases h2:id'=d
      ·rw [h1,h2]
      ·rw [if_pos h1] at e;rw [if_neg h2] at e';rw [if_neg (fun e=>h2 e.symm)] at hl';have:=(hlow b e).1;have:=((hF.obj id' hl').lt e').2;omega
     ·by_cases h2:id'=d
      ·rw [if_neg h1] at e;rw [if_pos h2] at e';rw [if_neg (fun e=>h1 e.symm)] at hl;have:=(hlow b e').1;have:=((hF.obj id hl).lt e).2;omega
      ·rw [if_neg h1] at e;rw [if_neg h2] at e';rw [if_neg (fun e=>h1 e.symm)] at hl;rw [if_neg (fun e=>h2 e.symm)] at hl';exact hF.inj id id' b hl hl' e e'
    ·intro b hlt hn;refine ⟨hb.block b hlt,fun id hl e=>?_⟩;rw [FSt.ob_set] at hl;unfold Yg at e;by_cases h1:id=d
     ·rw [if_pos h1] at e;have:=(hlow b e).1;omega
     ·rw [if_neg h1] at e;rw [if_neg (fun e=>h1 e.symm)] at hl;exact hn id hl e
   refine hK _ _ _ (hM.put (hdN d rfl) (fun _ _=>?_) (fun id ver e=>?_))
   ·rw [FSt.ob_set,if_pos rfl,zW];exact YC.of_row hrow rfl rfl rfl rfl
   ·simp only [FV.hands,List.mem_singleton,Prod.mk.injEq] at e;obtain ⟨e1,e2⟩:=e;replace e1:=e1.symm;replace e2:=e2.symm;subst e1;subst e2;rw [FSt.ob_set,if_pos rfl];exact Nat.le_refl _
end
end
section
open Go.RowKit
section
variable {c:Ctx} {s s' : FSt}
theorem Src.loc {f:FV} {sz:Nat} {es:List (List FV)} (h:Src s f sz es) (ho:∀ id ver,f.hand=some (id,ver)→s'.ob id=s.ob id):Src s' f sz es:=by
 cases h with
 | nil sz => exact .nil _
 | list sz es => exact .list _ _
 | own id ver o n hl hrl =>
  have e:=ho id ver rfl;rw [← e];exact .own id ver o n (by unfold FSt.live at *;rw [e];exact hl) (by rw [e];exact hrl)
theorem Bas.loc {f:FV} {sz:Nat} {es:List (List FV)} {i:Option Nat} (h:Bas s f sz es i) (ho:∀ id ver,f.hand=some (id,ver)→s'.ob id=s.ob id):Bas s' f sz es i:=by
 cases h with
 | nil sz => exact .nil _
 | own id ver hl hv n hn =>
  have e:=ho id ver rfl;rw [← e];exact .own id ver (by rw [e];exact hl) (by rw [e];exact hv) n (by rw [e];exact hn)
theorem Ws.loc {m:za1} {f g:FV} (h:Ws s m f g) (ho:∀ id ver,f.hand=some (id,ver)→s'.ob id=s.ob id):Ws s' m f g:=by
 cases h with
 | plain f hn => exact .plain _ hn
 | sub f g hn hle => exact .sub _ _ hn hle
 | nil sz => exact .nil _
 | own id ver o n hl hrl hm =>
  have e:=ho id ver rfl;rw [← e];exact .own id ver o n (by unfold FSt.live at *;rw [e];exact hl) (by rw [e];exact hrl) (by rw [e];exact hm)
theorem Zj.loc {m:za1}:∀ {xs:List Operand} {gs:List FV},Zj s m xs gs→(∀ x∈xs,s'.ev x=s.ev x)→(∀ x∈xs,∀ id ver,(s.ev x).hand=some (id,ver)→s'.ob id=s.ob id)→Zj s' m xs gs
 | _, _, .nil, _, _ => .nil
 | _, _, .cons h hs, he, ho => .cons (by rw [he _ zc]; exact h.loc (ho _ zc)) (hs.loc (fun x hx => he x (by simp [hx])) (fun x hx => ho x (by simp [hx])))
theorem zgb {lo:Option Operand} {l:Nat} (h:s.lo lo l) (he:∀ x∈lo.toList,s'.ev x=s.ev x):s'.lo lo l:=by
 cases lo with
 | none => exact h
 | some y => obtain ⟨k, hk⟩ := h; exact ⟨k, by rw [he y zc]; exact hk⟩
theorem zf3 {lo:Option Operand} {l m:Nat} (h:s.hi lo m l) (he:∀ x∈lo.toList,s'.ev x=s.ev x):s'.hi lo m l:=by
 cases lo with
 | none => exact h
 | some y => obtain ⟨k, hk⟩ := h; exact ⟨k, by rw [he y zc]; exact hk⟩
theorem Xo {ps:Array (Nat×Operand)} (he:∀ x∈(ps.toList.map (·.2)),s'.ev x=s.ev x):s'.parts ps=s.parts ps:=by
 unfold FSt.parts;refine List.map_congr_left fun p hp=>?_;rw [he p.2 (List.mem_map.2 ⟨p,hp,rfl⟩)]
theorem xK {α γ:Type} {f g:α→Option γ}:∀ {l:List α},(∀ x∈l,f x=g x)→l.filterMap f=l.filterMap g
 | [], _ => rfl
 | x :: l, h => by rw [List.filterMap_cons, List.filterMap_cons, h x zc, xK fun y hy => h y (by simp [hy])]
theorem Eff.loc {d:Nat} {op:Op} {f:FV} {wr:List (Nat×zn)} (h:Eff c s d op f wr) (he:∀ x∈op.operands.toList,s'.ev x=s.ev x) (hob:∀ id∈yT s d op,s'.ob id=s.ob id):Eff c s' d op f wr:=by
 have hd:=hob d (zg7 s d op);cases hst:XY op with
 | true =>
  cases h <;> first|(cases hst;done)|(rename_i h0 _ _;rw [hst] at h0;cases h0;done)|(rename_i x;rw [← he x zh];first|exact .move x|exact .assign x)
 | false =>
 have hh:∀ x∈op.operands.toList,∀ id ver,(s.ev x).hand=some (id,ver)→s'.ob id=s.ob id:=fun x hx id ver hv=>hob id (Xg hst hx hv);have hlive:∀ id ver,s'.ob id=s.ob id→s.live id ver→s'.live id ver:=fun id ver e hl=>by unfold FSt.live at *;rw [e];exact hl
 cases h with
 | move x => rw [← he x zh]; exact .move x
 | assign x => rw [← he x zh]; exact .assign x
 | pick cnd x y hb => rw [← he x zh, ← he y zh]; exact .pick cnd x y (by rw [he cnd zh]; exact hb)
 | ibin op T T2 x y ex ey hf => exact .ibin op T T2 x y (by rw [he x zh]; exact ex) (by rw [he y zh]; exact ey) hf
 | idiv op T T2 x y ex ey hn hop => exact .idiv op T T2 x y (by rw [he x zh]; exact ex) (by rw [he y zh]; exact ey) hn hop
 | bbin op x y hT ex ey hop => exact .bbin op x y hT (by rw [he x zh]; exact ex) (by rw [he y zh]; exact ey) hop
 | not T x ex => exact .not T x (by rw [he x zh]; exact ex)
 | shift op T T2 x y ex ey hn hop => exact .shift op T T2 x y (by rw [he x zh]; exact ex) (by rw [he y zh]; exact ey) hn hop
 | conv hT hT2 x ex => exact .conv hT hT2 x (by rw [he x zh]; exact ex)
 | neg T x ex => exact .neg T x (by rw [he x zh]; exact ex)
 | min2 bi T T2 x y ex ey hbi => exact .min2 bi T T2 x y (by rw [he x zT]; exact ex) (by rw [he y zT]; exact ey) hbi
 | lenOwn hT x ex hl => exact .lenOwn hT x (by rw [he x zT]; exact ex) (hlive _ _ (hh x zT _ _ (by rw [ex]; rfl)) hl)
 | lenList hT x ex => exact .lenList hT x (by rw [he x zT]; exact ex)
 | lenNil hT x ex => exact .lenNil hT x (by rw [he x zT]; exact ex)
 | fieldPtr hT hf hft hsz x ex hl => exact .fieldPtr hT hf hft hsz x (by rw [he x zh]; exact ex) (hlive _ _ (hh x zh _ _ (by rw [ex]; rfl)) hl)
 | fieldEptr hT hf hft hsz x ex => exact .fieldEptr hT hf hft hsz x (by rw [he x zh]; exact ex)
 | indexList hT hk x y ex hsz ey h1 => exact .indexList hT hk x y (by rw [he x zh]; exact ex) hsz (by rw [he y zh]; exact ey) h1
 | indexOwn hT hk x y ex hl hsz ey h1 =>
  have e:=hh x zh _ _ (by rw [ex];rfl);exact .indexOwn hT hk x y (by rw [he x zh];exact ex) (hlive _ _ e hl) (by rw [e];exact hsz) (by rw [he y zh];exact ey) h1
 | indexAPtr hT hk x y ex hl ey h1 => exact .indexAPtr hT hk x y (by rw [he x zh]; exact ex) (hlive _ _ (hh x zh _ _ (by rw [ex]; rfl)) hl) (by rw [he y zh]; exact ey) h1
 | indexAEptr hT hk x y ex ey h1 => exact .indexAEptr hT hk x y (by rw [he x zh]; exact ex) (by rw [he y zh]; exact ey) h1
 | loadEptr hk x ex hj ho ho' => exact .loadEptr hk x (by rw [he x zh]; exact ex) hj ho ho'
 | loadPtr hk x ex hl hrl hj ho ho' =>
  have e:=hh x zh _ _ (by rw [ex];rfl);rw [← e];exact .loadPtr hk x (by rw [he x zh];exact ex) (hlive _ _ e hl) (by rw [e];exact hrl) (by rw [e];exact hj) (by rw [e];exact ho) (by rw [e];exact ho')
 | store hk x y ex hl hv ey hf hfl hj ho =>
  have e:=hh x zh _ _ (by rw [ex];rfl);rw [← e];exact .store hk x y (by rw [he x zh];exact ex) (by rw [e];exact hl) (by rw [e];exact hv) (by rw [he y zh];exact ey) hf hfl (by rw [e];exact hj) (by rw [e];exact ho)
 | alloc hk hz => rw [← hd]; exact .alloc hk hz
 | box x ex hf => rw [← hd]; exact .box x (by rw [he x zh]; exact ex) hf
 | build hT hfs ps hf => exact .build hT hfs ps (by rw [Xo (fun x hx => he x (by simpa [Op.operands] using hx))]; exact hf)
 | buildA hT hk ps hf => exact .buildA hT hk ps (by rw [Xo (fun x hx => he x (by simpa [Op.operands] using hx))]; exact hf)
 | buildSlice hT hk ps es hn hw ho hcap hnm hf => rw [← hd]; exact .buildSlice hT hk ps es hn hw ho hcap hnm (by rw [Xo (fun x hx => he x (by simpa [Op.operands] using hx))]; exact hf)
 | buildSliceS hT hk ps es hn hw ho hcap hnm hf => exact .buildSliceS hT hk ps es hn hw ho hcap hnm (by rw [Xo (fun x hx => he x (by simpa [Op.operands] using hx))]; exact hf)
 | makeSlice hT hk x y ex ey ho hb hn => rw [← hd]; exact .makeSlice hT hk x y (by rw [he x zh]; exact ex) (by rw [he y zh]; exact ey) ho hb hn
 | sliceOwn hT hk x lo hi ex hl hsz hlo hhi h1 h2 =>
  have e:=hh x zh _ _ (by rw [ex];rfl);exact .sliceOwn hT hk x lo hi (by rw [he x zh];exact ex) (hlive _ _ e hl) (by rw [e];exact hsz) (zgb hlo (fun y hy=>he y (by cases lo <;> simp_all [Op.operands]))) (zf3 hhi (fun y hy=>he y (by cases hi <;> simp_all [Op.operands]))) h1 h2
 | sliceList hT hk x lo hi ex hsz hlo hhi h1 h2 =>
  exact .sliceList hT hk x lo hi (by rw [he x zh];exact ex) hsz (zgb hlo (fun y hy=>he y (by cases lo <;> simp_all [Op.operands]))) (zf3 hhi (fun y hy=>he y (by cases hi <;> simp_all [Op.operands]))) h1 h2
 | sliceNil hT hk x lo hi ex hlo hhi =>
  exact .sliceNil hT hk x lo hi (by rw [he x zh];exact ex) (zgb hlo (fun y hy=>he y (by cases lo <;> simp_all [Op.operands]))) (zf3 hhi (fun y hy=>he y (by cases hi <;> simp_all [Op.operands])))
 | extract x ex hf hn => exact .extract x (by rw [he x zh]; exact ex) hf hn
 | nilPtr x ex hl => exact .nilPtr x (by rw [he x zh]; exact ex) (hlive _ _ (hh x zh _ _ (by rw [ex]; rfl)) hl)
 | nilEptr x ex => exact .nilEptr x (by rw [he x zh]; exact ex)
 | append hT hk hpos x y ex ey h1 hE h2 hb hm=>
  rename_i T e f1 f2 es1 es2 i;have e1:∀ id ver,f1.hand=some (id,ver)→s'.ob id=s.ob id:=fun id ver hv=>hh x zT id ver (by rw [ex];exact hv);have e2:∀ id ver,f2.hand=some (id,ver)→s'.ob id=s.ob id:=fun id ver hv=>hh y zT id ver (by rw [ey];exact hv);have h1':=h1.loc e1;have hi:∀ k,i=some k→s'.ob k=s.ob k:=fun k hk=>by
   generalize (c.ty e).size=sz at h1;cases h1 with
   | nil => cases hk
   | own id ver hl hv n hn => injection hk with hk; subst hk; exact e1 id ver rfl
  have hw:Zk s d e (c.ty e).size (es1++es2) i=Zk s' d e (c.ty e).size (es1++es2) i:=by
   cases i with
   | none => simp only [Zk, hd]
   | some k => simp only [Zk, hd, hi k rfl]
  rw [← hd,hw];exact .append hT hk hpos x y (by rw [he x zT];exact ex) (by rw [he y zT];exact ey) h1' (fun k hk=>by rw [hi k hk];exact hE k hk) (h2.loc e2) hb hm
 | appendS hT hk hpos x y ex ey h1 hE h2 hb hm=>
  rename_i T e f1 f2 es1 es2 i;have e1:∀ id ver,f1.hand=some (id,ver)→s'.ob id=s.ob id:=fun id ver hv=>hh x zT id ver (by rw [ex];exact hv);have e2:∀ id ver,f2.hand=some (id,ver)→s'.ob id=s.ob id:=fun id ver hv=>hh y zT id ver (by rw [ey];exact hv);have h1':=h1.loc e1;have hi:∀ k,i=some k→s'.ob k=s.ob k:=fun k hk=>by
   generalize (c.ty e).size=sz at h1;cases h1 with
   | nil => cases hk
   | own id ver hl hv n hn => injection hk with hk; subst hk; exact e1 id ver rfl
  have hw:Zk s d e (c.ty e).size (es1++es2) i=Zk s' d e (c.ty e).size (es1++es2) i:=by
   cases i with
   | none => simp only [Zk, hd]
   | some k => simp only [Zk, hd, hi k rfl]
  rw [← hd,hw];exact .appendS hT hk hpos x y (by rw [he x zT];exact ex) (by rw [he y zT];exact ey) h1' (fun k hk=>by rw [hi k hk];exact hE k hk) (h2.loc e2) hb hm
 | appRoom hT hk hpos x y ex hlf hver hE hsz hon ey h2 h1=>
  have e:=hh x zT _ _ (by rw [ex];rfl);rw [← hd,← e];exact .appRoom hT hk hpos x y (by rw [he x zT];exact ex) (by rw [e];exact hlf) (by rw [e];exact hver) (by rw [e];exact hE) (by rw [e];exact hsz) (by rw [e];exact hon)
   (by rw [he y zT];exact ey) (h2.loc fun id ver hv=>hh y zT id ver (by rw [ey];exact hv)) h1
 | appFull hT hk hpos x y ex hlf hver hE hsz hon ey h2 h1 hb hm=>
  have e:=hh x zT _ _ (by rw [ex];rfl);rw [← hd,← e];exact .appFull hT hk hpos x y (by rw [he x zT];exact ex) (by rw [e];exact hlf) (by rw [e];exact hver) (by rw [e];exact hE) (by rw [e];exact hsz) (by rw [e];exact hon)
   (by rw [he y zT];exact ey) (h2.loc fun id ver hv=>hh y zT id ver (by rw [ey];exact hv)) h1 hb hm
 | loadH hk hz x ex hlf hver hsz hj =>
  have e:=hh x zh _ _ (by rw [ex];rfl);exact .loadH hk hz x (by rw [he x zh];exact ex) (by rw [e];exact hlf) (by rw [e];exact hver) (by rw [e];exact hsz) (by rw [e];exact hj)
 | storeH hk hz x y ex hlf hver hsz ey hf hj =>
  have e:=hh x zh _ _ (by rw [ex];rfl);rw [← e];refine .storeH hk hz x y (by rw [he x zh];exact ex) (by rw [e];exact hlf) (by rw [e];exact hver) (by rw [e];exact hsz) (by rw [he y zh];exact ey) ?_ (by rw [e];exact hj);rcases hf with h1|⟨id',ver',o,n,rfl,hl⟩|⟨id',ver',o,n,rfl,hl⟩|hw|⟨id',ver',rfl,hl⟩
  ·exact .inl h1
  ·exact .inr (.inl ⟨id',ver',o,n,rfl,hlive _ _ (hh y zh _ _ (by rw [ey];rfl)) hl⟩)
  ·exact .inr (.inr (.inl ⟨id',ver',o,n,rfl,hlive _ _ (hh y zh _ _ (by rw [ey];rfl)) hl⟩))
  ·exact .inr (.inr (.inr (.inl hw)))
  ·exact .inr (.inr (.inr (.inr ⟨id',ver',rfl,hlive _ _ (hh y zh _ _ (by rw [ey];rfl)) hl⟩)))
 | makeMap T => rw [← hd]; exact .makeMap T
 | eqAgg op x y ex hX ey hY hl hop => exact .eqAgg op x y (by rw [he x zh]; exact ex) hX (by rw [he y zh]; exact ey) hY hl hop
 | eqNil op hT x y ex hb ey hop=>
  rename_i T T2 e f b;have hb' : zcv s' f b:=by
   cases hb with
   | nil => exact .nil
   | own id ver o n hl hn => exact .own id ver o n (hlive _ _ (hh x zh _ _ (by rw [ex]; rfl)) hl) hn
   | list sz es hn => exact .list sz es hn
  exact .eqNil op hT x y (by rw [he x zh];exact ex) hb' (by rw [he y zh];exact ey) hop
 | copy hT hk hz x y ex hlf hver hsz ey h2=>
  have e:=hh x zT _ _ (by rw [ex];rfl);rw [← e];exact .copy hT hk hz x y (by rw [he x zT];exact ex) (by rw [e];exact hlf) (by rw [e];exact hver) (by rw [e];exact hsz) (by rw [he y zT];exact ey)
   (h2.loc fun id ver hv=>hh y zT id ver (by rw [ey];exact hv))
 | mkIface hk hni x ex hn => exact .mkIface hk hni x (by rw [he x zh]; exact ex) hn
 | mkIfaceH hk hni x ex hn => exact .mkIfaceH hk hni x (by rw [he x zh]; exact ex) hn
 | tAssert hk hni x ex hn => exact .tAssert hk hni x (by rw [he x zh]; exact ex) hn
 | makeFnH hx hn => exact .makeFnH (by rw [← hx]; exact List.map_congr_left fun y hy => he y (by simp [Op.operands] at hy ⊢; exact hy)) hn
 | bound hx hn => exact .bound (by rw [← hx]; exact List.map_congr_left fun y hy => he y (by simp [Op.operands] at hy ⊢; exact hy)) hn
 | look hT hk K x y ok ex ey hkk hkf hl hn=>
  refine .look hT hk K x y ok ?_ (by rw [he y zh];exact ey) hkk hkf hl hn;rcases ex with ⟨id,ver,e1,e2,e3⟩|e1
  ·have e:=hh x zh _ _ (by rw [e1];rfl);exact .inl ⟨id,ver,by rw [he x zh];exact e1,⟨hlive _ _ e e2.1,by rw [e];exact e2.2⟩,by rw [e];exact e3⟩
  ·exact .inr (by rw [he x zh];exact e1)
 | update hT K x y z ex hlf hver ey ez hk hkf hn hs =>
  have e:=hh x zh _ _ (by rw [ex];rfl);rw [← e];exact .update hT K x y z (by rw [he x zh];exact ex) (by rw [e];exact hlf) (by rw [e];exact hver) (by rw [he y zh];exact ey) (by rw [he z zh];exact ez) (by rw [e];exact hk) hkf hn (by rw [e];exact hs)
 | call hs hm hx => exact .call hs hm (hx.loc (fun x hx => he x (by simp [Op.operands, Call.operands] at hx ⊢; exact .inr hx)) (fun x hx => hh x (by simp [Op.operands, Call.operands] at hx ⊢; exact .inr hx)))
 | @callV f x xs ts gs caps res ex hs hx => exact .callV (by rw [he x zT]; exact ex) hs (hx.loc (fun y hy => he y (by simp [Op.operands, Call.operands] at hy ⊢; exact .inr hy)) (fun y hy => hh y (by simp [Op.operands, Call.operands] at hy ⊢; exact .inr hy)))
 | makeFn hx hc => exact .makeFn (by rw [← hx]; exact List.map_congr_left fun y hy => he y (by simp [Op.operands] at hy ⊢; exact hy)) hc
 | extN ho hn hg=>
  have hfe:yT s' d op=yT s d op:=by
   unfold yT;rw [hst];refine congrArg (d::·) (xK fun x hx=>?_);rw [he x hx]
  exact .extN ho hn fun s'' h1 h2=>hg s'' (fun x hx=>(h1 x hx).trans (he x hx)) (fun id hid=>(h2 id (by rw [hfe];exact hid)).trans (hob id hid))
 | ext ho hn hg=>
  have hfe:yT s' d op=yT s d op:=by
   unfold yT;rw [hst];refine congrArg (d::·) (xK fun x hx=>?_);rw [he x hx]
  exact .ext ho hn fun s'' h1 h2=>hg s'' (fun x hx=>(h1 x hx).trans (he x hx)) (fun id hid=>(h2 id (by rw [hfe];exact hid)).trans (hob id hid))
 | callOw hs hx => rw [← hd]; exact .callOw hs (hx.loc (fun x hx => he x (by simp [Op.operands, Call.operands] at hx ⊢; exact .inr hx)) (fun x hx => hh x (by simp [Op.operands, Call.operands] at hx ⊢; exact .inr hx)))
theorem FR.ext {N:Nat} {w0 w:World} {J:JJ} {a:Act} {β:Nat→Option Nat} (h:FR N w0 J s a w β) (hg:∀ k,s'.get k=s.get k) (ho:∀ k,s'.ob k=s.ob k):FR N w0 J s' a w β:=by
 refine h.step (C:=fun _=>False) h.size h.defers h.bel (fun b hb=>⟨⟨hb.1,hb.2.1,fun id hl=>hb.2.2 id (by rw [← ho];exact hl)⟩,rfl⟩) (fun k=>.inl ⟨rfl,hg k⟩) (fun id _=>⟨ho id,rfl,fun _ _ _=>rfl⟩) (fun _ h=>h.elim) (fun _ h=>h.elim) (fun _ h=>h.elim) ?_ (fun b _ hn=>⟨rfl,fun id hl=>hn id (by rw [← ho];exact hl)⟩);intro id id' b hl hl';rw [ho] at hl hl';exact h.inj id id' b hl hl'
end
structure Rec where
 o:Oper
 f:FV
 wr:List (Nat×zn)
 ft:List Nat
 deriving Inhabited
def FSt.aft (s:FSt) (r:Rec):FSt:=s.app r.o.dst r.f r.wr
def zjm:FV→Bool→Option Bool
 | .bool v, want => some (v == want)
 | .tup [], _ => some false
 | _, _ => none
theorem zfO {f:FV} {want b:Bool} (h:zjm f want=some b):(∃ v,f=.bool v∧(v == want)=b)∨(f=.tup []∧b=false):=by
 unfold zjm at h;split at h
 ·injection h with h;exact .inl ⟨_,rfl,h⟩
 ·injection h with h;exact .inr ⟨rfl,h.symm⟩
 ·cases h
def zM (ops:Array Oper) (s:FSt) (o:Oper) (b:Bool):Prop:=
 match o.guard with
 | none => b=true
 | some (j, want) => ∃ d v, (ops[j]?).bind (·.dst)=some d ∧ s.get d=v ∧ zjm v want=some b
inductive zfu (c:Ctx) (ops:Array Oper):FSt→List Oper→List Rec→FSt→Prop where
 | nil (s:FSt):zfu c ops s [] [] s
 | step {o:Oper} {rest:List Oper} {s s' : FSt} {f:FV} {wr:List (Nat×zn)} {tr:List Rec} {d:Nat} (hw:zM ops s o true) (hd:o.dst=some d∨(o.dst=none∧zam o.op)) (hdN:∀ d,o.dst=some d→d<c.N)
   (he:Eff c s d o.op f wr) (hs:zfu c ops (s.app o.dst f wr) rest tr s'):zfu c ops s (o::rest) (⟨o,f,wr,yT s d o.op⟩::tr) s'
 | skip {o:Oper} {rest:List Oper} {s s' : FSt} {tr:List Rec} (hw:zM ops s o false) (hdN:∀ d, o.dst=some d → d<c.N) (hs:zfu c ops (s.app o.dst (.tup []) []) rest tr s'):zfu c ops s (o :: rest) (⟨o, .tup [], [], []⟩ :: tr) s'
def zd9 (c:Ctx) (ops:Array Oper) (s:FSt) (r:Rec):Prop:=
 (∀ d,r.o.dst=some d→d<c.N)∧((zM ops s r.o true∧∃ d,(r.o.dst=some d∨(r.o.dst=none∧zam r.o.op))∧Eff c s d r.o.op r.f r.wr∧r.ft=yT s d r.o.op)∨(zM ops s r.o false∧r.f=.tup []∧r.wr=[]∧r.ft=[]))
def sig (tr:List Rec) (s0:FSt) (S:Nat→Bool):Nat→FSt
 | 0 => s0
 | k+1 => if S k then (sig tr s0 S k).aft (tr.getD k default) else sig tr s0 S k
theorem Xw (r:Rec) (tr:List Rec) (s0:FSt) (S:Nat→Bool):∀ k,sig (r::tr) s0 S (k+1)=sig tr (if S 0 then s0.aft r else s0) (fun j=>S (j+1)) k
 | 0 => by simp [sig]
 | k+1 => by
  rw [sig,Xw r tr s0 S k];simp [sig]
theorem zfu.at {c:Ctx} {ops:Array Oper} {s:FSt} {l:List Oper} {tr:List Rec} {s' : FSt} (h:zfu c ops s l tr s'):tr.length=l.length∧s'=sig tr s (fun _=>true) tr.length∧
  ∀ k,k<l.length→(tr.getD k default).o=l.getD k default∧zd9 c ops (sig tr s (fun _=>true) k) (tr.getD k default):=by
 induction h with
 | nil s => exact ⟨rfl, rfl, fun k hk => by simp at hk⟩
 | @step o rest s s' f wr tr d hw hd hdN he hs ih=>
  obtain ⟨h1,h2,h3⟩:=ih;refine ⟨by simp [h1],?_,fun k hk=>?_⟩
  ·rw [List.length_cons,Xw];exact h2
  ·cases k with
   | zero => exact ⟨rfl, hdN, .inl ⟨hw, d, hd, he, rfl⟩⟩
   | succ k =>
    rw [Xw];exact h3 k (by simpa using hk)
 | @skip o rest s s' tr hw hdN hs ih=>
  obtain ⟨h1,h2,h3⟩:=ih;refine ⟨by simp [h1],?_,fun k hk=>?_⟩
  ·rw [List.length_cons,Xw];exact h2
  ·cases k with
   | zero => exact ⟨rfl, hdN, .inr ⟨hw, rfl, rfl, rfl⟩⟩
   | succ k =>
    rw [Xw];exact h3 k (by simpa using hk)
def zh6 (r:Rec) (t:Nat):Option FV:=if r.o.dst=some t then some r.f else none
def YA:List (Nat×zn)→Nat→Option zn
 | [], _ => none
 | p :: l, id => match YA l id with|some b => some b|none => if p.1=id then some p.2 else none
theorem ziC:∀ (l:List (Nat×zn)) (s:FSt) (id:Nat),(s.wr l).ob id=(YA l id).getD (s.ob id)
 | [], _, _ => rfl
 | p :: l, s, id => by
  show (FSt.wr (s.set p.1 p.2) l).ob id=_;rw [ziC l,YA,FSt.ob_set];cases YA l id with
  | some b => rfl
  | none => by_cases h:p.1=id <;> simp [h]
theorem Xk:∀ {l:List (Nat×zn)} {id:Nat},(YA l id).isSome→id∈l.map (·.1)
 | p::l,id,h=>by
  unfold YA at h;cases hl:YA l id with
  | some b => exact List.mem_cons_of_mem _ (Xk (by rw [hl]; rfl))
  | none =>
   rw [hl] at h;dsimp only at h;split at h
   ·rename_i e;subst e;simp
   ·simp at h
theorem zgs (s:FSt) (r:Rec) (t:Nat):(s.aft r).get t=(zh6 r t).getD (s.get t):=by
 unfold FSt.aft FSt.app zh6;cases h:r.o.dst with
 | none => simp [FSt.putD, FSt.wr_get]
 | some d =>
  simp only [FSt.putD,FSt.get_put,FSt.wr_get,Option.some.injEq];split <;> rfl
theorem zhY (s:FSt) (r:Rec) (id:Nat):(s.aft r).ob id=(YA r.wr id).getD (s.ob id):=by
 unfold FSt.aft FSt.app;cases r.o.dst with
 | none => exact ziC _ _ _
 | some d => exact ziC _ _ _
section
variable {α:Type}
def zct (u:Nat→Option α) (S:Nat→Bool) (x0:α):Nat→α
 | 0 => x0
 | k+1 => if S k then (u k).getD (zct u S x0 k) else zct u S x0 k
theorem Zu (u:Nat→Option α) (S S' : Nat→Bool) (x0:α):∀ n,(∀ k,k<n→(u k).isSome→S k=S' k)→zct u S x0 n=zct u S' x0 n
 | 0, _ => rfl
 | n+1, h => by
  have ih:=Zu u S S' x0 n (fun k hk=>h k zb);have hn:=h n zb;unfold zct;rw [ih];cases hu:u n with
  | none => simp
  | some v => rw [hn (by rw [hu]; rfl)]
theorem Yd (u:Nat→Option α) (S:Nat→Bool) (x0:α) (m:Nat):∀ j,(∀ k,m≤k→k<m+j→S k=true→u k=none)→zct u S x0 (m+j)=zct u S x0 m
 | 0, _ => rfl
 | j+1, h => by
  have ih:=Yd u S x0 m j (fun k h1 h2=>h k h1 zb);rw [← Nat.add_assoc,zct];split
  ·rename_i hS;rw [h (m+j) zb zb hS,ih];rfl
  ·exact ih
theorem zaQ (u:Nat→Option α) (S:Nat→Bool) (x0:α) (i:Nat) (hS:S i=false):∀ n,i<n→(∀ k,i<k→k<n→S k=true→(u k).isSome→u i=none)→zct u (fun k=>k == i || S k) x0 n=(u i).getD (zct u S x0 n)
 | 0, h, _ => by omega
 | n + 1,hi,h=>by
  by_cases hin:i=n
  ·subst hin;unfold zct;simp only [beq_self_eq_true,Bool.true_or,if_true,hS,Bool.false_eq_true,if_false];congr 1;refine Zu _ _ _ _ _ (fun k hk _=>?_);have:(k == i)=false:=by simp;omega
   rw [this];rfl
  ·have ih:=zaQ u S x0 i hS n zb (fun k h1 h2=>h k h1 zb);have hn:(n == i)=false:=by simp;omega
   unfold zct;rw [hn,Bool.false_or,ih];split
   ·rename_i hSn;cases hu:u n with
    | none => rfl
    | some v =>
     have:=h n zb zb hSn (by rw [hu];rfl);rw [this];rfl
   ·rfl
end
theorem ZH (tr:List Rec) (s0:FSt) (S:Nat→Bool) (t:Nat):∀ k,(sig tr s0 S k).get t=zct (fun k=>zh6 (tr.getD k default) t) S (s0.get t) k
 | 0 => rfl
 | k+1 => by
  unfold sig zct;split
  ·rw [zgs,ZH tr s0 S t k]
  ·exact ZH tr s0 S t k
theorem Xx (tr:List Rec) (s0:FSt) (S:Nat→Bool) (id:Nat):∀ k,(sig tr s0 S k).ob id=zct (fun k=>YA (tr.getD k default).wr id) S (s0.ob id) k
 | 0 => rfl
 | k+1 => by
  unfold sig zct;split
  ·rw [zhY,Xx tr s0 S id k]
  ·exact Xx tr s0 S id k
def zdj:List Oper→List (List Nat)→List (List Nat)
 | [], acc => acc
 | o :: l, acc => zdj l (acc ++ [o.after.toList.flatMap fun e => if Region.binds .any e then e.on :: acc.getD e.on [] else []])
def Zy (ops:Array Oper) (r q:Rec):Bool:=
 r.o.apart ops q.o && (r.wr.all fun p=>!q.ft.contains p.1 && !(q.wr.map (·.1)).contains p.1) && (q.wr.all fun p=>!r.ft.contains p.1)
def zc0 (ops:Array Oper) (tr:List Rec) (A:List (List Nat)):Bool:=
 (List.range tr.length).all fun i=>(List.range i).all fun j=>(A.getD i []).contains j || Zy ops (tr.getD j default) (tr.getD i default)
def zaE (l:List Oper):Bool:=(List.range l.length).all fun i=>(l.getD i default).after.toList.all fun e=>!Region.binds .any e || decide (e.on<i)
def XO (ops:Array Oper) (tr:List Rec):Bool:=zaE ops.toList && zc0 ops tr (zdj ops.toList [])
theorem zdk:∀ (l:List Oper) (acc:List (List Nat)) (i:Nat),i<acc.length→(zdj l acc).getD i []=acc.getD i []
 | [], acc, i, _ => rfl
 | o :: l, acc, i, h => by
  rw [zdj,zdk l _ i zI,List.getD_eq_getElem?_getD,List.getElem?_append_left h,← List.getD_eq_getElem?_getD]
theorem zcx (S:Nat→Bool):∀ (l:List Oper) (acc:List (List Nat)),(∀ i,i<acc.length→S i=true→∀ j∈acc.getD i [],S j=true)→
  (∀ k,k<l.length→S (acc.length+k)=true→∀ e∈(l.getD k default).after.toList,Region.binds .any e=true→S e.on=true)→(∀ k,k<l.length→∀ e∈(l.getD k default).after.toList,Region.binds .any e=true→e.on<acc.length+k)→
  ∀ i,i<acc.length+l.length→S i=true→∀ j∈(zdj l acc).getD i [],S j=true
 | [], acc, ha, _, _, i, hi, hS, j, hj => ha i (by simpa using hi) hS j hj
 | o ::l,acc,ha,hl,hb,i,hi,hS,j,hj=>by
  rw [zdj] at hj;refine zcx S l _ (fun i hi hS j hj=>?_) (fun k hk hS e he hbn=>?_) (fun k hk e he hbn=>?_) i (by simp at hi ⊢;omega) hS j hj
  ·rcases Nat.lt_or_ge i acc.length with h|h
   ·rw [List.getD_eq_getElem?_getD,List.getElem?_append_left h,← List.getD_eq_getElem?_getD] at hj;exact ha i h hS j hj
   ·have hii:i=acc.length:=by simp at hi;omega
    subst hii;rw [List.getD_eq_getElem?_getD,List.getElem?_append_right (Nat.le_refl _),Nat.sub_self] at hj;simp only [List.getElem?_cons_zero,Option.getD_some,List.mem_flatMap] at hj;obtain ⟨e,he,hj⟩:=hj;split at hj
    ·rename_i hbn;have hon:=hl 0 zc (by simpa using hS) e he hbn;rcases List.mem_cons.1 hj with h|h
     ·rw [h];exact hon
     ·exact ha e.on (by have:=hb 0 zc e he hbn;omega) hon j h
    ·simp at hj
  ·refine hl (k+1) (by simpa using hk) ?_ e he hbn;simp only [List.length_append,List.length_cons,List.length_nil] at hS;rwa [show acc.length+(k+1)=acc.length+(0+1)+k by omega]
  ·have:=hb (k+1) (by simpa using hk) e he hbn;simp;omega
theorem zeB {ops:Array Oper} {o:Oper} {s s' : FSt} (h:∀ t∈o.looksAt ops,s'.get t=s.get t):∀ x∈o.op.operands.toList,s'.ev x=s.ev x:=by
 intro x hx;cases x with
 | tmp t => exact h t (List.mem_append_left _ (List.mem_filterMap.2 ⟨.tmp t, hx, rfl⟩))
 | const v => rfl
 | global g => rfl
 | func f => rfl
theorem zM.loc {ops:Array Oper} {o:Oper} {s s' : FSt} {b:Bool} (hw:zM ops s o b) (h:∀ t∈o.looksAt ops,s'.get t=s.get t):zM ops s' o b:=by
 unfold zM at *;cases hg:o.guard with
 | none => rw [hg] at hw; exact hw
 | some p =>
  obtain ⟨j,want⟩:=p;rw [hg] at hw;obtain ⟨d,v,h1,h2,h3⟩:=hw;refine ⟨d,v,h1,?_,h3⟩;rw [h d (List.mem_append_right _ (by simp [hg,h1]))];exact h2
theorem zd9.loc {c:Ctx} {ops:Array Oper} {s s' : FSt} {r:Rec} (hr:zd9 c ops s r) (h:∀ t∈r.o.looksAt ops,s'.get t=s.get t) (ho:∀ id∈r.ft,s'.ob id=s.ob id):zd9 c ops s' r:=by
 obtain ⟨hN,hr⟩:=hr;refine ⟨hN,?_⟩;have hev:=zeB h;rcases hr with ⟨hw,d,hd,he,hf⟩|⟨hw,h1,h2,h3⟩
 ·refine .inl ⟨hw.loc h,d,hd,he.loc hev (by rw [← hf];exact ho),?_⟩;rw [hf];unfold yT;congr 2;have key:∀ l:List Operand,(∀ x∈l,s'.ev x=s.ev x)→(l.filterMap fun x=>(s.ev x).hand.map (·.1))=l.filterMap fun x=>(s'.ev x).hand.map (·.1):=by
   intro l
   induction l with
   | nil => intro _; rfl
   | cons x l ih => intro h; rw [List.filterMap_cons, List.filterMap_cons, h x zc, ih (fun y hy => h y (by simp [hy]))]
  exact key _ hev
 ·exact .inr ⟨hw.loc h,h1,h2,h3⟩
section
variable {c:Ctx} {w0:World} {J:JJ} {ops:Array Oper} {Q:Exit→Act→World→Prop}
theorem zM.model {s:FSt} {a:Act} {w:World} {β:Nat→Option Nat} (hF:FR c.N w0 J s a w β) {o:Oper} {b:Bool} (hw:zM ops s o b):Region.wanted o (yielded ops a.tmps)=b:=by
 unfold zM at hw;unfold Region.wanted;cases hg:o.guard with
 | none => rw [hg] at hw; rw [hw]
 | some p=>
  obtain ⟨j,want⟩:=p;rw [hg] at hw;obtain ⟨d,v,h1,h2,h3⟩:=hw;rcases zfO h3 with ⟨v,rfl,h4⟩|⟨rfl,rfl⟩
  ·have hv:a.tmps.getD d undef=.bool v:=hF.ev_bool (x:=.tmp d) (b:=v) h2;have hy:yielded ops a.tmps j=some v:=by
    unfold yielded;rw [h1];simp only [Option.bind_some];rw [Array.getD_eq_getD_getElem?] at hv;cases ha:a.tmps[d]? with
    | none => rw [ha] at hv; simp [undef] at hv
    | some u => rw [ha] at hv; simp only [Option.getD_some] at hv; rw [hv]
   simp only [hy];rw [← h4];cases v <;> cases want <;> rfl
  ·have hv:a.tmps.getD d undef=.tuple #[]:=by
    have:=hF.ev (.tmp d);rw [show s.ev (.tmp d)=.tup [] from h2] at this;have:=VR.rd this rfl;have e:a.eval (.tmp d)=a.tmps.getD d undef:=rfl;rw [e] at this;generalize a.tmps.getD d undef=v at this;cases this with
    | tup us fs hl hr=>
     have:us=[]:=by cases us with
      | nil => rfl
      | cons u us => simp at hl
     subst this;rfl
   have hy:yielded ops a.tmps j=none:=by
    unfold yielded;rw [h1];simp only [Option.bind_some];rw [Array.getD_eq_getD_getElem?] at hv;cases ha:a.tmps[d]? with
    | none => rfl
    | some u => rw [ha] at hv; simp only [Option.getD_some] at hv; rw [hv]
   simp only [hy];cases want <;> rfl
theorem zd9.wpOp {s:FSt} {a:Act} {w:World} {β:Nat→Option Nat} (hF:FR c.N w0 J s a w β) {r:Rec} {i:Nat} (hi:ops[i]? = some r.o) (hr:zd9 c ops s r) {K:Act→World→Prop} (hK:∀ a' w' β',FR c.N w0 J (s.aft r) a' w' β'→K a' w') :
  wpOp c.P ops Q i K a w:=by
 obtain ⟨hN,hr⟩:=hr;unfold Go.wpOp;simp only [hi];rcases hr with ⟨hw,d,hd,he,hf⟩|⟨hw,h1,h2,h3⟩
 ·rw [if_pos (hw.model hF)];exact .inl (he.sound hF r.o rfl hd hN hK)
 ·rw [if_neg (by rw [hw.model hF];decide)];refine hK _ _ β ?_;unfold FSt.aft FSt.app;rw [h1,h2];cases hd:r.o.dst with
  | none => exact hF
  | some d => exact hF.put (hN d hd) (VR.of_rd (Rd.tup [] [] rfl zc) rfl) (fun id ver e => by cases e)
def zfr (S:Nat→Bool):Nat→Nat
 | 0 => 0
 | k+1 => zfr S k+if S k then 0 else 1
theorem zds {S:Nat→Bool} {i:Nat} (hS:S i=false):∀ n,i<n→zfr (fun k=>k == i || S k) n+1=zfr S n
 | 0, h => by omega
 | n + 1,h=>by
  unfold zfr;by_cases hin:i=n
  ·subst hin;have key:∀ m,m≤i→zfr (fun k=>k == i || S k) m=zfr S m:=by
    intro m
    induction m with
    | zero => intro _; rfl
    | succ m ih =>
     intro hm;unfold zfr;have:(m == i)=false:=by simp;omega
     rw [ih zb,this];rfl
   rw [key i (Nat.le_refl _),hS];simp
  ·have ih:=zds hS n zb;have:(n == i)=false:=by simp;omega
   rw [this,Bool.false_or];omega
theorem zbb {S:Nat→Bool}:∀ n,zfr S n=0→∀ k,k<n→S k=true
 | 0, _, k, hk => by omega
 | n+1,h,k,hk=>by
  unfold zfr at h;by_cases hkn:k=n
  ·subst hkn;cases hS:S k with
   | true => rfl
   | false => rw [hS] at h; simp at h
  ·exact zbb n zb k zb
theorem zeS {s0 s' : FSt} {tr:List Rec} (hx:zfu c ops s0 ops.toList tr s') (hok:XO ops tr=true) (hQ:∀ a w β,FR c.N w0 J s' a w β→Q .normal a w) :
  ∀ (fuel:Nat) (listed:Array Bool) (a:Act) (w:World) (β:Nat→Option Nat),listed.size=ops.size→(∀ i,i<ops.size→listed.getD i false=true→∀ e∈(ops.toList.getD i default).after.toList,Region.binds .any e=true→listed.getD e.on false=true)→
   zfr (fun k=>listed.getD k false) ops.size≤fuel→FR c.N w0 J (sig tr s0 (fun k=>listed.getD k false) ops.size) a w β→wpAny c.P .any ops Q fuel listed a w:=by
 obtain ⟨hlen0,hs',hrec⟩:=hx.at;have hlen:tr.length=ops.size:=by rw [hlen0];simp
 rw [Array.length_toList] at hrec;unfold XO at hok;rw [Bool.and_eq_true] at hok;obtain ⟨hedge,hpairs⟩:=hok;have hedge' : ∀ i,i<ops.size→∀ e∈(ops.toList.getD i default).after.toList,Region.binds .any e=true→e.on<i:=by
  intro i hi e he hb;unfold zaE at hedge;rw [List.all_eq_true] at hedge;have:=hedge i (by simpa using hi);rw [List.all_eq_true] at this;have:=this e he;simpa [hb] using this
 have hpairs' : ∀ i,i<ops.size→∀ j,j<i→j∈(zdj ops.toList []).getD i []∨Zy ops (tr.getD j default) (tr.getD i default)=true:=by
  intro i hi j hj;unfold zc0 at hpairs;rw [List.all_eq_true] at hpairs;have:=hpairs i (by simp [hlen];exact hi);rw [List.all_eq_true] at this;have:=this j (by simpa using hj);rw [Bool.or_eq_true] at this;exact this.imp (fun h=>by simpa using h) id
 have hget:∀ (listed:Array Bool) (i:Nat),i<listed.size→listed.getD i true=listed.getD i false:=fun listed i hi=>by simp [hi]
 have hend:∀ (listed:Array Bool) (a:Act) (w:World) (β:Nat→Option Nat),(∀ k,k<ops.size→listed.getD k false=true)→FR c.N w0 J (sig tr s0 (fun k=>listed.getD k false) ops.size) a w β→Q .normal a w:=by
  intro listed a w β hall hF;refine hQ a w β (hF.ext (fun k=>?_) (fun k=>?_))
  ·rw [hs',hlen,ZH,ZH];exact Zu _ _ _ _ _ (fun k hk _=>(hall k hk).symm)
  ·rw [hs',hlen,Xx,Xx];exact Zu _ _ _ _ _ (fun k hk _=>(hall k hk).symm)
 have hnone:∀ (listed:Array Bool),listed.size=ops.size→Region.ready .any ops listed=[]→∀ k,k<ops.size→listed.getD k false=true:=by
  intro listed hsz hr k
  induction k using Nat.strongRecOn with
  | _ k ih=>
   intro hk;cases hl:listed.getD k false with
   | true => rfl
   | false=>
    exfalso;have:k∈Region.ready .any ops listed:=by
     rw [mem_ready];refine ⟨by rw [hget listed k zb];exact hl,ops.toList.getD k default,by simp [hk],fun e he hb=>?_⟩;have hlt:=hedge' k hk e (by simpa using he) hb;exact ih e.on hlt zb
    rw [hr] at this;simp at this
 intro fuel
 induction fuel with
 | zero=>
  intro listed a w β hsz hclosed hcnt hF;have hall:=zbb (S:=fun k=>listed.getD k false) ops.size zb;refine ⟨?_,hend listed a w β hall hF⟩;cases hr:Region.ready .any ops listed with
  | nil => rfl
  | cons i l =>
   exfalso;have:i∈Region.ready .any ops listed:=by rw [hr];simp
   rw [mem_ready] at this;obtain ⟨h0,o,ho,_⟩:=this;have hi:i<ops.size:=(Array.getElem?_eq_some_iff.1 ho).1;rw [hget listed i zb,hall i hi] at h0;cases h0
 | succ fuel ih=>
  intro listed a w β hsz hclosed hcnt hF;refine ⟨fun hr=>hend listed a w β (hnone listed hsz hr) hF,fun i hi=>?_⟩;rw [mem_ready] at hi;obtain ⟨h0,o,ho,hall⟩:=hi;have hilt:i<ops.size:=(Array.getElem?_eq_some_iff.1 ho).1;rw [hget listed i zb] at h0;have hoi:ops.toList.getD i default=o:=by simp [List.getD_eq_getElem?_getD,ho]
  obtain ⟨hro,hrok⟩:=hrec i hilt;rw [hoi] at hro;have hclosed' : ∀ k,k<ops.size→(k == i || listed.getD k false)=true→∀ e∈(ops.toList.getD k default).after.toList,Region.binds .any e=true→(e.on == i || listed.getD e.on false)=true:=by
   intro k hk hS e he hb;by_cases hki:k=i
   ·subst hki;rw [hoi] at he;rw [hall e (by simpa using he) hb,Bool.or_true]
   ·have:(k == i)=false:=by simpa using hki
    rw [this,Bool.false_or] at hS;rw [hclosed k hk hS e he hb,Bool.or_true]
  have hanc:∀ j∈(zdj ops.toList []).getD i [],(j == i || listed.getD j false)=true:=
   zcx (fun k=>k == i || listed.getD k false) ops.toList [] (fun i hi=>by simp at hi) (fun k hk hS e he hb=>hclosed' k (by simpa using hk) (by simpa using hS) e he hb) (fun k hk e he hb=>by simpa using hedge' k (by simpa using hk) e he hb) i (by simpa using hilt) zc
  have hancS:∀ k,listed.getD k false=true→k<ops.size→∀ j∈(zdj ops.toList []).getD k [],listed.getD j false=true:=fun k hS hk=>
   zcx (fun k=>listed.getD k false) ops.toList [] (fun i hi=>by simp at hi) (fun k hk hS e he hb=>hclosed k (by simpa using hk) (by simpa using hS) e he hb) (fun k hk e he hb=>by simpa using hedge' k (by simpa using hk) e he hb) k (by simpa using hk) hS
  have hancLt:∀ k,k<ops.size→∀ j∈(zdj ops.toList []).getD k [],j<k∨j=k→True:=fun _ _ _ _ _=>trivial;have hbefore:∀ k,k<i→Zy ops (tr.getD k default) (tr.getD i default)=true∨listed.getD k false=true:=by
   intro k hk;rcases hpairs' i hilt k hk with h|h
   ·have:=hanc k h;have hne:(k == i)=false:=by simp;omega
    rw [hne,Bool.false_or] at this;exact .inr this
   ·exact .inl h
  have hbehind:∀ k,i<k→k<ops.size→listed.getD k false=true→Zy ops (tr.getD i default) (tr.getD k default)=true:=by
   intro k hk hk2 hS;rcases hpairs' k hk2 i hk with h|h
   ·rw [hancS k hS hk2 i h] at h0;cases h0
   ·exact h
  have hap:∀ {r q:Rec},Zy ops r q=true→(∀ d,r.o.dst=some d→d∉q.o.looksAt ops)∧(∀ d,r.o.dst=some d→q.o.dst≠some d)∧(∀ d,q.o.dst=some d→d∉r.o.looksAt ops)∧
    (∀ id,(YA r.wr id).isSome→id∉q.ft∧YA q.wr id=none)∧(∀ id,(YA q.wr id).isSome→id∉r.ft):=by
   intro r q h;unfold Zy at h;rw [Bool.and_eq_true,Bool.and_eq_true] at h;obtain ⟨⟨h1,h2⟩,h3⟩:=h;obtain ⟨k1,k2,k3⟩:=Oper.apart_spec h1;rw [List.all_eq_true] at h2 h3;refine ⟨k1,k2,k3,fun id hid=>?_,fun id hid=>?_⟩
   ·obtain ⟨p,hp,rfl⟩:=List.mem_map.1 (Xk hid);have:=h2 p hp;rw [Bool.and_eq_true] at this;refine ⟨by simpa using this.1,?_⟩;cases hl:YA q.wr p.1 with
    | none => rfl
    | some b =>
     have hm:=Xk (l:=q.wr) (id:=p.1) (by rw [hl];rfl);have h4:=this.2;simp only [Bool.not_eq_true',List.contains_eq_mem,decide_eq_false_iff_not] at h4;exact absurd hm h4
   ·obtain ⟨p,hp,rfl⟩:=List.mem_map.1 (Xk hid);have:=h3 p hp;simpa using this
  have hslot:∀ t∈(tr.getD i default).o.looksAt ops,(sig tr s0 (fun k=>listed.getD k false) ops.size).get t=(sig tr s0 (fun _=>true) i).get t:=by
   intro t ht;rw [ZH,ZH];obtain ⟨m,hm⟩:∃ m,ops.size=i+m:=⟨ops.size - i,by omega⟩
   rw [hm,Yd _ _ _ i m]
   ·refine Zu _ _ _ _ _ (fun k hk hu=>?_);rcases hbefore k hk with h|h
    ·exfalso;unfold zh6 at hu;split at hu
     ·rename_i hd;exact (hap h).1 t hd ht
     ·simp at hu
    ·exact h
   ·intro k hk1 hk2 hS;rcases Nat.eq_or_lt_of_le hk1 with e|hlt
    ·subst e;rw [h0] at hS;cases hS
    ·unfold zh6;rw [if_neg];intro hd;exact (hap (hbehind k hlt zb hS)).2.2.1 t hd ht
  have hobj:∀ id∈(tr.getD i default).ft,(sig tr s0 (fun k=>listed.getD k false) ops.size).ob id=(sig tr s0 (fun _=>true) i).ob id:=by
   intro id hid;rw [Xx,Xx];obtain ⟨m,hm⟩:∃ m,ops.size=i+m:=⟨ops.size - i,by omega⟩
   rw [hm,Yd _ _ _ i m]
   ·refine Zu _ _ _ _ _ (fun k hk hu=>?_);rcases hbefore k hk with h|h
    ·exact absurd hid ((hap h).2.2.2.1 id hu).1
    ·exact h
   ·intro k hk1 hk2 hS;rcases Nat.eq_or_lt_of_le hk1 with e|hlt
    ·subst e;rw [h0] at hS;cases hS
    ·cases hl:YA (tr.getD k default).wr id with
     | none => rfl
     | some b => exact absurd hid ((hap (hbehind k hlt zb hS)).2.2.2.2 id (by rw [hl]; rfl))
  have hrok':=hrok.loc hslot hobj;refine hrok'.wpOp hF (by rw [hro];exact ho) (fun a' w' β' hF'=>?_);have hset:∀ k,(listed.setIfInBounds i true).getD k false=(k == i || listed.getD k false):=by
   intro k;by_cases hki:k=i
   ·subst hki;have:k<listed.size:=by omega
    simp [this]
   ·have hne:(k == i)=false:=by simpa using hki
    rw [hne,Bool.false_or];simp [Array.getElem?_setIfInBounds_ne (fun e=>hki e.symm)]
  have hfun:(fun k=>(listed.setIfInBounds i true).getD k false)=(fun k=>k == i || listed.getD k false):=funext hset;refine ih _ a' w' β' (by simp [hsz]) (fun k hk hS e he hb=>?_) ?_ ?_
  ·rw [hset] at hS ⊢;exact hclosed' k hk hS e he hb
  ·rw [hfun];have:=zds (S:=fun k=>listed.getD k false) h0 ops.size hilt;omega
  ·rw [hfun];refine hF'.ext (fun t=>?_) (fun id=>?_)
   ·rw [zgs,ZH,ZH];refine zaQ _ _ _ i h0 ops.size hilt (fun k hk1 hk2 hS hu=>?_);cases hui:zh6 (tr.getD i default) t with
    | none => rfl
    | some v=>
     exfalso;unfold zh6 at hu hui;split at hui
     ·rename_i hd1;split at hu
      ·rename_i hd2;exact (hap (hbehind k hk1 hk2 hS)).2.1 t hd1 hd2
      ·simp at hu
     ·cases hui
   ·rw [zhY,Xx,Xx];refine zaQ _ _ _ i h0 ops.size hilt (fun k hk1 hk2 hS hu=>?_);cases hui:YA (tr.getD i default).wr id with
    | none => rfl
    | some v =>
     exfalso;have:=((hap (hbehind k hk1 hk2 hS)).2.2.2.1 id (by rw [hui];rfl)).2;rw [this] at hu;cases hu
theorem zb0 {s0 s' : FSt} {tr:List Rec} (hx:zfu c ops s0 ops.toList tr s') (hok:XO ops tr=true) (hQ:∀ a w β,FR c.N w0 J s' a w β→Q .normal a w) {a:Act} {w:World} {β:Nat→Option Nat} (hF:FR c.N w0 J s0 a w β) :
  wpAny c.P .any ops Q ops.size (Array.replicate ops.size false) a { w with drawn:=w.drawn+1 }:=by
 refine zeS hx hok hQ ops.size _ a _ β zc (fun i hi hS=>?_) ?_ ?_
 ·have:(Array.replicate ops.size false).getD i false=false:=by simp [hi]
  rw [this] at hS;cases hS
 ·have key:∀ n,zfr (fun k=>(Array.replicate ops.size false).getD k false) n≤n:=by
   intro n
   induction n with
   | zero => exact Nat.le_refl _
   | succ n ih => unfold zfr; split <;> omega
  exact key _
 ·have hD:FR c.N w0 J s0 a { w with drawn:=w.drawn+1 } β:=hF.grow ⟨rfl,rfl,rfl,Nat.le_refl _,fun _ _=>rfl⟩;refine hD.ext (fun t=>?_) (fun id=>?_)
  ·have key:=Yd (fun k=>zh6 (tr.getD k default) t) (fun k=>(Array.replicate ops.size false).getD k false) (s0.get t) 0 ops.size (fun k _ hk hS=>by
    have:(Array.replicate ops.size false).getD k false=false:=by
     rw [Array.getD_eq_getD_getElem?];cases h:(Array.replicate ops.size false)[k]? with
     | none => rfl
     | some b => rw [Array.getElem?_replicate] at h; split at h <;> simp_all
    rw [this] at hS;cases hS)
   rw [Nat.zero_add] at key;rw [ZH,key];rfl
  ·have key:=Yd (fun k=>YA (tr.getD k default).wr id) (fun k=>(Array.replicate ops.size false).getD k false) (s0.ob id) 0 ops.size (fun k _ hk hS=>by
    have:(Array.replicate ops.size false).getD k false=false:=by
     rw [Array.getD_eq_getD_getElem?];cases h:(Array.replicate ops.size false)[k]? with
     | none => rfl
     | some b => rw [Array.getElem?_replicate] at h; split at h <;> simp_all
    rw [this] at hS;cases hS)
   rw [Nat.zero_add] at key;rw [Xx,key];rfl
end
end
end Go.Proofs.Ytlnehfplfoikaaa
