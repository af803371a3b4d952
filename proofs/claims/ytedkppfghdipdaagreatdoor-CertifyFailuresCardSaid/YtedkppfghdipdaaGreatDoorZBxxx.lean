/-
  Code and functions on plain values.
-/
import Derived.Test.YtedkppfghdipdaaGreatDoorZB
namespace Go.Proofs.YtedkppfghdipdaaGreatDoor
set_option linter.unusedVariables false
set_option maxHeartbeats 16000000
open Go.RowKit
variable {s' : ab} {code x y:Code} {eQ:Operand} {l:List Oper} {Q:ab→Prop} {w:World} {I:Nat→Prop}
def FW (c:Ctx) (code:Code) (Q:Exit→ab→Prop) (s:ab):Prop:=
 ∀ (w0:World) (J:JJ) (a:Act) (w:World) (β:Nat→Option Nat),FR c.N w0 J s a w β→ij c.P code (fun e a' w'=>∃ s' aP,Q e s'∧FR c.N w0 J s' a' w' aP) a w
def aC (s s' : ab):Prop:=∀ (N:Nat) (w0:World) (J:JJ) (a:Act) (w:World) (β:Nat→Option Nat),FR N w0 J s a w β→∃ aP,FR N w0 J s' a w aP
theorem aC.trans {s iA : ab} (h:aC s s') (k:aC s' iA):aC s iA:=fun N w0 J a w β hF=>let ⟨_,h1⟩:=h N w0 J a w β hF;k N w0 J a w _ h1
def om (next:ab→Prop) (Q:Exit→ab→Prop):Exit→ab→Prop
 | .normal, s => next s
 | e, s => Q e s
def qb (id:Nat) (Q:Exit→ab→Prop):Exit→ab→Prop
 | .exit aN, s => if aN=id then Q .normal s else Q (.exit aN) s
 | e, s => Q e s
section
variable {c:Ctx} {Q:Exit→ab→Prop} {s:ab}
theorem FW.le (h:FW c code Q s') (hs:aC s s'):FW c code Q s:=fun w0 J a w β hF=>let ⟨aP,h1⟩:=hs _ _ _ _ _ _ hF;h w0 J a w aP h1
theorem FW.mono {Q' : Exit→ab→Prop} (h:FW c code Q s) (hq:∀ e s,Q e s→Q' e s):FW c code Q' s:=fun w0 J a w β hF=>
 yL (h w0 J a w β hF) fun _ _ _ ⟨s',aP,q,f⟩=>⟨s',aP,hq _ _ q,f⟩
theorem FW.skip (h:Q .normal s):FW c .skip Q s:=fun _ _ _ _ β hF=>⟨s,β,h,hF⟩
theorem FW.exit {id:Nat} (h:Q (.exit id) s):FW c (.exit id) Q s:=fun _ _ _ _ β hF=>⟨s,β,h,hF⟩
theorem FW.ret (h:Q .ret s):FW c .ret Q s:=fun _ _ _ _ β hF=>⟨s,β,h,hF⟩
theorem FW.seq (h:FW c x (om (FW c y Q) Q) s):FW c (.seq x y) Q s:=fun w0 J a w β hF=>
 yL (c:=x) (h w0 J a w β hF) fun e a' w' ⟨s',aP,q,f⟩=>by
  cases e with
  | normal => exact q w0 J a' w' aP f
  | _ => exact ⟨s', aP, q, f⟩
theorem FW.block {id:Nat} (h:FW c x (qb id Q) s):FW c (.block id x) Q s:=fun w0 J a w β hF=>
 yL (c:=x) (h w0 J a w β hF) fun e a' w' ⟨s',aP,q,f⟩=>by
  cases e with
  | exit aN =>
   simp only [Exit.inBlock];simp only [qb] at q;split
   ·rename_i e;rw [if_pos e] at q;exact ⟨s',aP,q,f⟩
   ·rename_i e;rw [if_neg e] at q;exact ⟨s',aP,q,f⟩
  | _ => exact ⟨s', aP, q, f⟩
theorem FW.cond {b:Bool} (hc:s.ev eQ=.bool b) (ht:b=true→FW c x Q s) (hf:b=false→FW c y Q s):FW c (.cond eQ x y) Q s:=fun w0 J a w β hF=>
 ⟨b,hF.cx hc,fun e=>ht e w0 J a w β hF,fun e=>hf e w0 J a w β hF⟩
theorem FW.gC (hc:s.ev eQ=.bool true) (ht:FW c x Q s):FW c (.cond eQ x y) Q s:=FW.cond hc (fun _=>ht) (fun h=>by cases h)
theorem FW.fz (hc:s.ev eQ=.bool false) (ht:FW c y Q s):FW c (.cond eQ x y) Q s:=FW.cond hc (fun h=>by cases h) (fun _=>ht)
theorem FW.loop {σ:Type} {body:Code} (inv:σ→ab) (pre:σ→Prop) (μ:σ→Nat) (x0:σ) (h0:pre x0) (hs:aC s (inv x0))
  (round:∀ x,pre x→FW c body (om (fun s'=>∃ x',pre x'∧μ x'<μ x∧aC s' (inv x')) Q) (inv x)):FW c (.loop body) Q s:=fun w0 J a w β hF=>by
 obtain ⟨vV,qG⟩:=hs _ _ _ _ _ _ hF;refine ⟨fun n a w=>∃ x,pre x∧μ x=n∧∃ β,FR c.N w0 J (inv x) a w β,μ x0,⟨x0,h0,rfl,vV,qG⟩,?_⟩;rintro n a w ⟨x,hp,rfl,β,hF⟩;refine yL (c:=body) (round x hp w0 J a w β hF) fun e a' w' ⟨s',aP,q,f⟩=>?_;cases e with
 | normal =>
  obtain ⟨x',h1,h2,h3⟩:=q;obtain ⟨ox,mL⟩:=h3 _ _ _ _ _ _ f;exact ⟨μ x',h2,x',h1,rfl,ox,mL⟩
 | _ => exact ⟨s', aP, q, f⟩
theorem FW.join {ι:Type} (oI:ι→ab) (pre:ι→Prop) (h1:FW c x (fun e s'=>e=.normal∧∃ i,pre i∧aC s' (oI i)) s) (h2:∀ i,pre i→FW c y Q (oI i)):FW c x (om (FW c y Q) Q) s:=
 h1.mono fun e s' h=>by
  obtain ⟨rfl,i,hp,hle⟩:=h;exact (h2 i hp).le hle
def zu (c:Ctx) (ops:Array Oper) (l:List Oper) (s:ab) (Q:ab→Prop):Prop:=
 ∀ (QQ:Exit→Act→World→Prop) (w0:World) (J:JJ) (a:Act) (w:World) (β:Nat→Option Nat),(∀ s a w β,Q s→FR c.N w0 J s a w β→QQ .normal a w)→FR c.N w0 J s a w β→wpList c.P ops QQ l a w
def zB (c:Ctx) (ops:Array Oper) (l:List Oper) (s:ab) (tr:List Rec) (Q:ab→List Rec→Prop):Prop:=∃ iP s',gl c ops s l iP s'∧Q s' (tr++iP)
theorem FW.region {id:Nat} (h:zu c l.toArray l s (Q .normal)):FW c (.region id l.toArray false) Q s:=fun w0 J a w β hF=>
 h (fL fun a' w'=>∃ s' aP,Q .normal s'∧FR c.N w0 J s' a' w' aP) w0 J a w β (fun s a w β q f=>⟨s,β,q,f⟩) hF
theorem FW.draw {id:Nat} (h:zB c l.toArray l s [] fun s' tr=>ZD l.toArray tr=true∧Q .normal s'):FW c (.region id l.toArray true) Q s:=fun w0 J a w β hF=>by
 obtain ⟨tr,s',hx,df,hq⟩:=h;exact UG (Q:=fL fun a' w'=>∃ s' aP,Q .normal s'∧FR c.N w0 J s' a' w' aP) (ops:=l.toArray) (by simpa using hx) (by simpa using df) (fun a w β f=>⟨s',β,hq,f⟩) hF
end
structure kQ (c:Ctx) (s:ab) (o:Oper) (f:FV) (wr:List (Nat×yb)) (d:Nat):Prop where
 dst:o.dst=some d∨(o.dst=none∧Vg o.op)
 lt:∀ d,o.dst=some d→d<c.N
 oG:av c s d o.op f wr
section
variable {c:Ctx} {ops:Array Oper} {s:ab} {o:Oper} {rest:List Oper} {f:FV} {wr:List (Nat×yb)} {d:Nat} {tr:List Rec}
theorem zu.nil {Q:ab→Prop} (h:Q s):zu c ops [] s Q:=fun _ _ _ a w β hQ hF=>hQ s a w β h hF
theorem zu.le (h:zu c ops l s' Q) (hs:aC s s'):zu c ops l s Q:=fun QQ w0 J a w β hQ hF=>let ⟨aP,h1⟩:=hs _ _ _ _ _ _ hF;h QQ w0 J a w aP hQ h1
theorem zB.nil {Q:ab→List Rec→Prop} (h:Q s tr):zB c ops [] s tr Q:=⟨[],s,.nil s,by rw [Zh];exact h⟩
theorem zu.cons (h:kQ c s o f wr d) (hw:xk ops s o true) (hs:s.app o.dst f wr=s') (k:zu c ops rest s' Q):zu c ops (o::rest) s Q:=fun QQ w0 J a w β hQ hF=>by
 unfold wpList;rw [if_pos (hw.model hF)];exact .inl (h.oG.sound hF o rfl h.dst h.lt fun a' w' aP fP=>k QQ w0 J a' w' aP hQ (hs▸fP))
theorem zB.cons {Q:ab→List Rec→Prop} {ft:List Nat} (h:kQ c s o f wr d) (hw:xk ops s o true) (hs:s.app o.dst f wr=s') (hf:Zr s d o.op=ft) (k:zB c ops rest s' (tr++[⟨o,f,wr,ft⟩]) Q):zB c ops (o::rest) s tr Q:=by
 obtain ⟨iP,iA,hx,hq⟩:=k;refine ⟨_,iA,.step hw h.dst h.lt h.oG (hs▸hx),?_⟩;rw [hf];simpa using hq
theorem zu.skip {Q:ab→Prop} {s' : ab} (hw:xk ops s o false) (hd:∀ d,o.dst=some d→d<c.N) (hs:s.app o.dst (.bG []) []=s') (k:zu c ops rest s' Q):zu c ops (o::rest) s Q:=fun QQ w0 J a w β hQ hF=>by
 unfold wpList;rw [if_neg (by rw [hw.model hF];decide)];refine k QQ w0 J _ w β hQ (hs▸?_);unfold ab.app;cases hdd:o.dst with
 | none => exact hF
 | some d => exact hF.put (hd d hdd) (VR.bk (Rd.bG [] [] rfl zd) rfl) (fun id aa e => by cases e)
theorem zB.skip {Q:ab→List Rec→Prop} {s' : ab} (hw:xk ops s o false) (hd:∀ d,o.dst=some d→d<c.N) (hs:s.app o.dst (.bG []) []=s') (k:zB c ops rest s' (tr++[⟨o,.bG [],[],[]⟩]) Q):zB c ops (o::rest) s tr Q:=by
 obtain ⟨iP,iA,hx,hq⟩:=k;refine ⟨_,iA,.skip hw hd (hs▸hx),?_⟩;simpa using hq
end
def FV.flat:FV→Bool
 | .int _ _|.bool _|.str _|.nil => true
 | .agg cs => cF cs
 | .bG cs => cF cs
 | .iface _ f => f.flat
 | _ => false
where cF:List FV→Bool
 | [] => true
 | f :: fs => f.flat && cF fs
theorem FV.cz:∀ {fs:List FV},FV.flat.cF fs=true→∀ (j:Nat) f,fs[j]? = some f→f.flat=true
 | [], _, j, f, h => by simp at h
 | g :: fs, h, 0, f, hf => by simp only [FV.flat.cF, zC] at h; simp at hf; subst hf; exact h.1
 | g :: fs, h, j+1, f, hf => by simp only [FV.flat.cF, zC] at h; simp at hf; exact FV.cz h.2 j f hf
theorem Rd.flat {v:Value} {f:FV} (h:Rd w I v f):f.flat=true→∀ (w' : World) (I' : Nat→Prop),Rd w' I' v f:=by
 induction h with
 | undef v => intro hf; simp [FV.flat] at hf
 | int k n => exact fun _ _ _ => .int k n
 | bool b => exact fun _ _ _ => .bool b
 | str s => exact fun _ _ _ => .str s
 | nil => exact fun _ _ _ => .nil
 | bS => exact fun _ _ _ => .bS
 | ak => exact fun _ _ _ => .ak
 | list => intro hf; simp [FV.flat] at hf
 | aH => intro hf; simp [FV.flat] at hf
 | perm => intro hf; simp [FV.flat] at hf
 | dk => intro hf; simp [FV.flat] at hf
 | iV => intro hf; simp [FV.flat] at hf
 | smap => intro hf; simp [FV.flat] at hf
 | fn => intro hf; simp [FV.flat] at hf
 | iface t v f hr ih => exact fun hf w' I' => .iface t v f (ih (by simpa [FV.flat] using hf) w' I')
 | agg us fs hl hr ih => exact fun hf w' I' => .agg us fs hl fun j u f hu e6 => ih j u f hu e6 (FV.cz hf j f e6) w' I'
 | bG us fs hl hr ih => exact fun hf w' I' => .bG us fs hl fun j u f hu e6 => ih j u f hu e6 (FV.cz hf j f e6) w' I'
theorem FV.fO {f:FV} (h:f.flat=true):f.hand=none:=by cases f <;> first|rfl|(simp [FV.flat] at h)
inductive km (c:Ctx) (s:ab):ResultVar→FV→Prop where
 | tmp (t:Nat) {f:FV} (h:s.get t=f) (hn:f.hand=none):km c s (.tmp t) f
 | cell (t T:Nat) {bb:Bool} (hk:(c.ty T).k.aQ = some bb) {id aa j o:Nat} (h:s.get t=.ptr id aa j o) (hl:s.live id aa) (a9:(s.ob id).ag.row=true) (hj:j<(s.ob id).es.length) (ho:o+(c.ty T).size≤(s.ob id).sz) (dI : o<(s.ob id).sz) :
   km c s (.cell t T) (xB (c.ty T) (((s.ob id).es.getD j []).drop o))
inductive Vh (c:Ctx) (s:ab):List ResultVar→List FV→Prop where
 | nil:Vh c s [] []
 | cons {r:ResultVar} {rs:List ResultVar} {f:FV} {fs:List FV} (h:km c s r f) (hs:Vh c s rs fs):Vh c s (r :: rs) (f :: fs)
def my:List FV→FV
 | [f] => f
 | fs => .bG fs
def UH (tmps:Array Value):ResultVar→Sem Value
 | .tmp t => pure (tmps.getD t undef)
 | .cell a t => do loadVar t (← asAddr (tmps.getD a undef))
section
variable {c:Ctx} {w0 w:World} {J:JJ} {s:ab} {a:Act} {β:Nat→Option Nat}
theorem km.run (hF:FR c.N w0 J s a w β) {r:ResultVar} {f:FV} (h:km c s r f):∃ v,(UH a.tmps r).run c.P w=.ok v w∧Rd w (aK J w β s) v f:=by
 cases h with
 | tmp t h hn => exact ⟨_, rfl, hF.aV (x := .tmp t) h hn⟩
 | cell t T hk h hl a9 hj ho dI=>
  obtain ⟨v,w',aP,h1,h2,h3,h4⟩:=YE (dst:=none) (ty:=0) (pos:="") (after:=#[]) (g:=none) hF hk (.tmp t) h hl a9 hj ho dI;obtain ⟨jr,b,hb,hv⟩:=hF.bL (x:=.tmp t) h hl.1 hl.2;rename_i id aa j o;obtain ⟨cur,cap,aR,hn,hm,aY,hr,aw⟩:=hF.block hl.1 a9 hb;have hw:=((hF.obj id hl.1).bl a9).wide;have hd:=hr.drop (j * (s.ob id).sz+o);rw [Zy _ hw j o hj zc] at hd;have hlen:(((s.ob id).es.getD j []).drop o).length=(s.ob id).sz - o:=by rw [ZM,XH hw hj]
  have iL:=hd.1;rw [ye,hlen] at iL;obtain ⟨v,r1,r2⟩:=Yo hk w b (j * (s.ob id).sz+o) ((cur.toList.take ((s.ob id).es.length * (s.ob id).sz)).drop (j * (s.ob id).sz+o)) zc (fun _=>by omega) (fun i u hu=>by
   rw [yV,yr] at hu;rw [cell_of_row w b _ cur (s.ob id).E (0,0) aR];split at hu
   ·simpa using hu
   ·cases hu) hd
  rw [ZC zc (fun e=>by rw [e] at hlen;simp at hlen;omega)] at r2;have fI : a.tmps.getD t undef=.pointer (some ⟨b,j * (s.ob id).sz+o,none⟩):=hv;refine ⟨v,?_,r2⟩;simp only [UH,fI,asAddr,xf,xg,xW];exact r1
theorem Vh.run (hF:FR c.N w0 J s a w β):∀ {rs:List ResultVar} {fs:List FV},Vh c s rs fs→∃ vs,(rs.mapM (UH a.tmps)).run c.P w=.ok vs w∧az w (aK J w β s) vs fs
 | _, _, .nil => ⟨[], rfl, az.nil⟩
 | _, _, .cons h hs => by
  obtain ⟨v,h1,h2⟩:=h.run hF;obtain ⟨vs,h3,h4⟩:=Vh.run hF hs;exact ⟨v::vs,by simp [List.mapM_cons,h1,h3],az.cons h2 h4⟩
theorem Wr (hF:FR c.N w0 J s a w β) (fn:Func) {fs:List FV} (h:Vh c s fn.results.toList fs):∃ v,(results fn a.tmps).run c.P w=.ok v w∧Rd w (aK J w β s) v (my fs):=by
 obtain ⟨vs,h1,h2⟩:=h.run hF;have e:results fn a.tmps=(do let vs ← fn.results.mapM (UH a.tmps);pure (if h:vs.size=1 then vs[0] else .tuple vs)):=by
  unfold results;congr 1
 have h3:(fn.results.mapM (UH a.tmps)).run c.P w=.ok vs.toArray w:=by
  rw [Array.mapM_eq_mapM_toList];simp [h1]
 rw [e];refine ⟨if h:vs.toArray.size=1 then vs.toArray[0] else .tuple vs.toArray,by simp [h3],?_⟩;have hl:=h2.1;split
 ·rename_i hs
  match vs,fs,hl,h2 with
  | [v], [f], _, h2 => exact h2.2 0 v f rfl rfl
  | [], _, _, _ => simp at hs
  | _ :: _ :: _, _, _, _ => simp at hs
  | [_], [], hl, _ => simp at hl
  | [_], _ :: _ :: _, hl, _ => simp at hl
 ·rename_i hs;have:my fs=.bG fs:=by
   match fs,hl with
   | [], _ => rfl
   | [f], hl => exact absurd (by simpa using hl) hs
   | _ :: _ :: _, _ => rfl
  rw [this];exact .bG vs fs h2.1 h2.2
end
def entry (args:List FV):ab:=⟨args.zipIdx.map fun p=>(p.2,p.1),[]⟩
theorem Ub (args:List FV) (d:Nat):(entry args).get d=args.getD d .undef:=by
 have key:∀ (l:List FV) (k d:Nat),look FV.undef ((l.zipIdx k).map fun p=>(p.2,p.1)) d=if k≤d then l.getD (d - k) .undef else .undef:=by
  intro l
  induction l with
  | nil => intro k d; simp [look]
  | cons f l ih=>
   intro k d;rw [List.zipIdx_cons,yf,zA,ih];by_cases h:k=d
   ·subst h;simp
   ·rw [if_neg h];by_cases hk:k≤d
    ·rw [if_pos zc,if_pos hk,show d - k=(d - (k+1))+1 by omega,List.getD_cons_succ]
    ·rw [if_neg zc,if_neg hk]
 have:=key args 0 d;simpa [entry,ab.get] using this
structure vA (c:Ctx) (f:Nat) (fn:Func) (code:Code):Prop where
 at_:c.P.funcs[f]? = some fn
 b:fn.body=some code
 n:fn.ntmps=c.N
 g:lW c.P f=true
theorem FR.entry {N:Nat} (hI:∀ b,I b→b<w.heap.size) {vs:List Value} {args:List FV} (h:az w I vs args) (hn:∀ f∈args,f.hand=none) (hl:args.length≤N) :
  FR N w { ok:=fun b=>I b∨w.heap.size≤b } (entry args) { tmps:=vs.toArray++Array.replicate (N - vs.toArray.size) undef,defers:=[] } w (fun _=>none) where
 size:=by have:=h.1;simp;omega
 defers:=rfl
 bN:=YR _ _
 c8 b hb:=.inl (.inr hb)
 slot d:=by
  rw [Ub];have lh:∀ b,I b→aK { ok:=fun b=>I b∨w.heap.size≤b } w (fun _=>none) (YtedkppfghdipdaaGreatDoor.entry args) b∧w.heap[b]? = w.heap[b]?:=fun b hb=>⟨⟨hI b hb,.inl hb,fun id _=>by simp⟩,rfl⟩
  rcases xa d args.length with hd|hd
  ·have mW : d<vs.length:=by rw [h.1];exact hd
   have e1:args.getD d .undef=args[d]:=by simp [hd]
   have e2:(vs.toArray++Array.replicate (N - vs.toArray.size) undef).getD d undef=vs[d]:=by
    rw [Yh,Array.getElem?_append_left (by simpa using mW)];simp [mW]
   rw [e1,e2];exact VR.bk ((h.2 d _ _ (by simp [mW]) (by simp [hd])).mono lh) (hn _ (yt hd))
  ·have e1:args.getD d .undef=.undef:=by simp [hd]
   rw [e1];exact VR.bk (.undef _) rfl
 cm d id aa hf:=by
  rw [Ub] at hf;rcases xa d args.length with hd|hd
  ·have e1:args.getD d .undef=args[d]:=by simp [hd]
   rw [e1] at hf;exact (FV.aU (hn _ (yt hd)) hf).elim
  ·have e1:args.getD d .undef=.undef:=by simp [hd]
   rw [e1] at hf;cases hf
 obj id hl:=absurd rfl hl
 inj id aN b hl:=absurd rfl hl
 kept b hb:=hb.elim
 gh v f hg:=hg.elim
inductive gz (c:Ctx) (fn:Func) (s:ab):VP→FV→Prop where
 | flat {fs:List FV} {f:FV} (h:Vh c s fn.results.toList fs) (he:my fs=f) (hf:f.flat=true):gz c fn s .fr f
 | sh {fs:List FV} {f:FV} (h:Vh c s fn.results.toList fs) (he:my fs=f) (hf:f.hand=none):gz c fn s .sh f
 | ow {t id aa n:Nat} (hr:fn.results.toList=[.tmp t]) (h:s.get t=.own id aa 0 n) (hl:(s.ob id).ag=.own) (hv:(s.ob id).aa=aa) (hn:n=(s.ob id).es.length) (hp:0<(s.ob id).sz) (jc:∀ e∈(s.ob id).es,FV.flat.cF e=true) :
   gz c fn s (.ow (s.ob id).E (s.ob id).sz) (.list (s.ob id).sz (s.ob id).es)
 | lN {t:Nat} (E sz:Nat) (hr:fn.results.toList=[.tmp t]) (h:s.get t=.nil):gz c fn s (.ow E sz) (.list sz [])
theorem Vv {es:List (List FV)} (h:∀ e∈es,FV.flat.cF e=true):∀ f∈es.flatten,f.flat=true:=by
 intro f hf;obtain ⟨e,he,il⟩:=yv.1 hf;obtain ⟨j,hj,rfl⟩:=yu il;exact FV.cz (h e he) j _ (by simp [hj])
theorem zQ.iN {c:Ctx} {f:Nat} {fn:Func} (hf:vA c f fn code) {args:List FV} {m:VP} {res:FV} (hn:∀ f∈args,f.hand=none) (hl:args.length≤c.N) (hh:res.hand=none)
  (h:FW c code (fun e s=>(e=.ret∨e=.normal)∧gz c fn s m res) (entry args)):zQ c.P f args m res where
 go:=hf.g
 hand:=hh
 calls w I vs hI hv:=by
  refine calls_of_wp hf.at_ hf.b ?_;rw [hf.n];refine wp_mono (XV c.mixed (h w _ _ w _ (FR.entry hI hv hn hl))) ?_;rintro e a' w' ⟨s',aP,⟨he,hr⟩,hF⟩;have key:a'.defers=[]∧∃ v,(results fn a'.tmps).run c.P w'=.ok v w'∧∃ v',Ending.returned v=.returned v'∧Below w.heap.size w w'∧mr w w' I m v' res:=by
   refine ⟨hF.defers,?_⟩;cases hr with
   | flat jZ he bJ =>
    obtain ⟨v,h1,h2⟩:=Wr hF fn jZ;rw [he] at h2;exact ⟨v,h1,v,rfl,hF.bN,h2.flat bJ _ _⟩
   | sh jZ he bJ =>
    obtain ⟨v,h1,h2⟩:=Wr hF fn jZ;rw [he] at h2;refine ⟨v,h1,v,rfl,hF.bN,h2.mono fun b hb=>⟨?_,rfl⟩⟩;rcases hb.2.1 with h|h
    ·exact .inl h
    ·exact .inr ⟨h,hb.1⟩
   | @ow t id aa n jZ hg o5 hv hn hp jc=>
    have ai:(s'.ob id).ag≠.dead:=by rw [o5];decide
    obtain ⟨A,cc,e1,e2,e3,e4,e5⟩:=(hF.bu (x:=.tmp t) hg ai hv).ex;have a9:(s'.ob id).ag.row=true:=by rw [o5];rfl
    obtain ⟨v,us,r1,r2,r3⟩:=((hF.obj id ai).bl a9).row;have hw:=((hF.obj id ai).bl a9).wide;have bj:=((hF.obj id ai).bl a9).one;have nF:a'.tmps.getD t undef=v:=by
     have lY : a'.tmps.getD t undef=.slice A n cc:=e1;rw [lY];rcases r1.2 with ⟨rfl,h0⟩|⟨b,cap,cur,rfl,_,dx,_,_,aY,_⟩
     ·have fD:aP id=none:=by rw [← r2];rfl
      obtain ⟨rfl,rfl⟩:=e4 fD;rw [hn,h0]
     ·have fD:aP id=some b:=by rw [← r2];rfl
      obtain ⟨o',rfl,k2,k3⟩:=e5 b fD;have:=k3 cur dx;rw [aY,zR] at this;have mT:cap=cc:=XA hp this;rw [k2 (.inr rfl),mT,hn];simp
    refine ⟨v,?_,v,rfl,hF.bN,_,us,rfl,hw,bj,r1,?_⟩
    ·have nx:fn.results=#[.tmp t]:=by apply Yg;simpa using jZ
     rw [results_tmp nx,nF]
    ·have bJ:=Vv jc;exact ⟨r3.1,fun j u f hu hf=>(r3.2 j u f hu hf).flat (bJ f (zH hf)) _ _⟩
   | @lN t E sz jZ hg =>
    refine ⟨.slice none 0 0,?_,_,rfl,hF.bN,[],[],rfl,by simp,by simp,Yu _ _ _ _,az.nil⟩;have nx:fn.results=#[.tmp t]:=by apply Yg;simpa using jZ
    rw [results_tmp nx];have:=hF.cp (x:=.tmp t) hg;have:a'.tmps.getD t undef=.slice none 0 0:=this;rw [this]
  rcases he with rfl|rfl
  ·exact key
  ·exact key
end Go.Proofs.YtedkppfghdipdaaGreatDoor
