/-
  Code and functions on plain values.
-/
import Derived.Test.YtedkppfghdipdaaDoorZB
namespace Go.Proofs.YtedkppfghdipdaaDoor
set_option linter.unusedVariables false
set_option maxHeartbeats 16000000
open Go.RowKit
variable {s' : ab} {code x y:Code} {ep:Operand} {l:List Oper} {Q:ab→Prop} {w:World} {I:Nat→Prop}
def FW (c:Ctx) (code:Code) (Q:Exit→ab→Prop) (s:ab):Prop:=
 ∀ (w0:World) (J:JJ) (a:Act) (w:World) (β:Nat→Option Nat),FR c.N w0 J s a w β→gK c.P code (fun e a' w'=>∃ s' aJ,Q e s'∧FR c.N w0 J s' a' w' aJ) a w
def aI (s s' : ab):Prop:=∀ (N:Nat) (w0:World) (J:JJ) (a:Act) (w:World) (β:Nat→Option Nat),FR N w0 J s a w β→∃ aJ,FR N w0 J s' a w aJ
theorem aI.trans {s gT : ab} (h:aI s s') (k:aI s' gT):aI s gT:=fun N w0 J a w β hF=>let ⟨_,h1⟩:=h N w0 J a w β hF;k N w0 J a w _ h1
def oD (next:ab→Prop) (Q:Exit→ab→Prop):Exit→ab→Prop
 | .normal, s => next s
 | e, s => Q e s
def oi (id:Nat) (Q:Exit→ab→Prop):Exit→ab→Prop
 | .exit aQ, s => if aQ=id then Q .normal s else Q (.exit aQ) s
 | e, s => Q e s
section
variable {c:Ctx} {Q:Exit→ab→Prop} {s:ab}
theorem FW.le (h:FW c code Q s') (hs:aI s s'):FW c code Q s:=fun w0 J a w β hF=>let ⟨aJ,h1⟩:=hs _ _ _ _ _ _ hF;h w0 J a w aJ h1
theorem FW.skip (h:Q .normal s):FW c .skip Q s:=fun _ _ _ _ β hF=>⟨s,β,h,hF⟩
theorem FW.exit {id:Nat} (h:Q (.exit id) s):FW c (.exit id) Q s:=fun _ _ _ _ β hF=>⟨s,β,h,hF⟩
theorem FW.ret (h:Q .ret s):FW c .ret Q s:=fun _ _ _ _ β hF=>⟨s,β,h,hF⟩
theorem FW.seq (h:FW c x (oD (FW c y Q) Q) s):FW c (.seq x y) Q s:=fun w0 J a w β hF=>
 yN (c:=x) (h w0 J a w β hF) fun e a' w' ⟨s',aJ,q,f⟩=>by
  cases e with
  | normal => exact q w0 J a' w' aJ f
  | _ => exact ⟨s', aJ, q, f⟩
theorem FW.block {id:Nat} (h:FW c x (oi id Q) s):FW c (.block id x) Q s:=fun w0 J a w β hF=>
 yN (c:=x) (h w0 J a w β hF) fun e a' w' ⟨s',aJ,q,f⟩=>by
  cases e with
  | exit aQ =>
   simp only [Exit.inBlock];simp only [oi] at q;split
   ·rename_i e;rw [if_pos e] at q;exact ⟨s',aJ,q,f⟩
   ·rename_i e;rw [if_neg e] at q;exact ⟨s',aJ,q,f⟩
  | _ => exact ⟨s', aJ, q, f⟩
theorem FW.cond {b:Bool} (hc:s.ev ep=.bool b) (ht:b=true→FW c x Q s) (hf:b=false→FW c y Q s):FW c (.cond ep x y) Q s:=fun w0 J a w β hF=>
 ⟨b,hF.ch hc,fun e=>ht e w0 J a w β hF,fun e=>hf e w0 J a w β hF⟩
theorem FW.h9 (hc:s.ev ep=.bool true) (ht:FW c x Q s):FW c (.cond ep x y) Q s:=FW.cond hc (fun _=>ht) (fun h=>by cases h)
theorem FW.eT (hc:s.ev ep=.bool false) (ht:FW c y Q s):FW c (.cond ep x y) Q s:=FW.cond hc (fun h=>by cases h) (fun _=>ht)
theorem FW.loop {σ:Type} {body:Code} (inv:σ→ab) (pre:σ→Prop) (μ:σ→Nat) (x0:σ) (h0:pre x0) (hs:aI s (inv x0))
  (round:∀ x,pre x→FW c body (oD (fun s'=>∃ x',pre x'∧μ x'<μ x∧aI s' (inv x')) Q) (inv x)):FW c (.loop body) Q s:=fun w0 J a w β hF=>by
 obtain ⟨sQ,oT⟩:=hs _ _ _ _ _ _ hF;refine ⟨fun n a w=>∃ x,pre x∧μ x=n∧∃ β,FR c.N w0 J (inv x) a w β,μ x0,⟨x0,h0,rfl,sQ,oT⟩,?_⟩;rintro n a w ⟨x,hp,rfl,β,hF⟩;refine yN (c:=body) (round x hp w0 J a w β hF) fun e a' w' ⟨s',aJ,q,f⟩=>?_;cases e with
 | normal =>
  obtain ⟨x',h1,h2,h3⟩:=q;obtain ⟨jC,iO⟩:=h3 _ _ _ _ _ _ f;exact ⟨μ x',h2,x',h1,rfl,jC,iO⟩
 | _ => exact ⟨s', aJ, q, f⟩
def zq (c:Ctx) (ops:Array Oper) (l:List Oper) (s:ab) (Q:ab→Prop):Prop:=
 ∀ (QQ:Exit→Act→World→Prop) (w0:World) (J:JJ) (a:Act) (w:World) (β:Nat→Option Nat),(∀ s a w β,Q s→FR c.N w0 J s a w β→QQ .normal a w)→FR c.N w0 J s a w β→wpList c.P ops QQ l a w
def zA (c:Ctx) (ops:Array Oper) (l:List Oper) (s:ab) (tr:List Rec) (Q:ab→List Rec→Prop):Prop:=∃ g8 s',fu c ops s l g8 s'∧Q s' (tr++g8)
theorem FW.region {id:Nat} (h:zq c l.toArray l s (Q .normal)):FW c (.region id l.toArray false) Q s:=fun w0 J a w β hF=>
 h (UR fun a' w'=>∃ s' aJ,Q .normal s'∧FR c.N w0 J s' a' w' aJ) w0 J a w β (fun s a w β q f=>⟨s,β,q,f⟩) hF
theorem FW.draw {id:Nat} (h:zA c l.toArray l s [] fun s' tr=>Za l.toArray tr=true∧Q .normal s'):FW c (.region id l.toArray true) Q s:=fun w0 J a w β hF=>by
 obtain ⟨tr,s',hx,dC,hq⟩:=h;exact VU (Q:=UR fun a' w'=>∃ s' aJ,Q .normal s'∧FR c.N w0 J s' a' w' aJ) (ops:=l.toArray) (by simpa using hx) (by simpa using dC) (fun a w β f=>⟨s',β,hq,f⟩) hF
end
structure j2 (c:Ctx) (s:ab) (o:Oper) (f:FV) (wr:List (Nat×zS)) (d:Nat):Prop where
 dst:o.dst=some d∨(o.dst=none∧Up o.op)
 lt:∀ d,o.dst=some d→d<c.N
 nr:aq c s d o.op f wr
section
variable {c:Ctx} {ops:Array Oper} {s:ab} {o:Oper} {rest:List Oper} {f:FV} {wr:List (Nat×zS)} {d:Nat} {tr:List Rec}
theorem zq.nil {Q:ab→Prop} (h:Q s):zq c ops [] s Q:=fun _ _ _ a w β hQ hF=>hQ s a w β h hF
theorem zq.le (h:zq c ops l s' Q) (hs:aI s s'):zq c ops l s Q:=fun QQ w0 J a w β hQ hF=>let ⟨aJ,h1⟩:=hs _ _ _ _ _ _ hF;h QQ w0 J a w aJ hQ h1
theorem zA.nil {Q:ab→List Rec→Prop} (h:Q s tr):zA c ops [] s tr Q:=⟨[],s,.nil s,by rw [Zf];exact h⟩
theorem zq.cons (h:j2 c s o f wr d) (hw:xn ops s o true) (hs:s.app o.dst f wr=s') (k:zq c ops rest s' Q):zq c ops (o::rest) s Q:=fun QQ w0 J a w β hQ hF=>by
 unfold wpList;rw [if_pos (hw.model hF)];exact .inl (h.nr.sound hF o rfl h.dst h.lt fun a' w' aJ eK=>k QQ w0 J a' w' aJ hQ (hs▸eK))
theorem zA.cons {Q:ab→List Rec→Prop} {ft:List Nat} (h:j2 c s o f wr d) (hw:xn ops s o true) (hs:s.app o.dst f wr=s') (hf:Yf s d o.op=ft) (k:zA c ops rest s' (tr++[⟨o,f,wr,ft⟩]) Q):zA c ops (o::rest) s tr Q:=by
 obtain ⟨g8,gT,hx,hq⟩:=k;refine ⟨_,gT,.step hw h.dst h.lt h.nr (hs▸hx),?_⟩;rw [hf];simpa using hq
theorem zq.skip {Q:ab→Prop} {s' : ab} (hw:xn ops s o false) (hd:∀ d,o.dst=some d→d<c.N) (hs:s.app o.dst (.bw []) []=s') (k:zq c ops rest s' Q):zq c ops (o::rest) s Q:=fun QQ w0 J a w β hQ hF=>by
 unfold wpList;rw [if_neg (by rw [hw.model hF];decide)];refine k QQ w0 J _ w β hQ (hs▸?_);unfold ab.app;cases hdd:o.dst with
 | none => exact hF
 | some d => exact hF.put (hd d hdd) (VR.a9 (Rd.bw [] [] rfl zd) rfl) (fun id aa e => by cases e)
theorem zA.skip {Q:ab→List Rec→Prop} {s' : ab} (hw:xn ops s o false) (hd:∀ d,o.dst=some d→d<c.N) (hs:s.app o.dst (.bw []) []=s') (k:zA c ops rest s' (tr++[⟨o,.bw [],[],[]⟩]) Q):zA c ops (o::rest) s tr Q:=by
 obtain ⟨g8,gT,hx,hq⟩:=k;refine ⟨_,gT,.skip hw hd (hs▸hx),?_⟩;simpa using hq
end
def FV.flat:FV→Bool
 | .int _ _|.bool _|.str _|.nil => true
 | .agg cs => cw cs
 | .bw cs => cw cs
 | .iface _ f => f.flat
 | _ => false
where cw:List FV→Bool
 | [] => true
 | f :: fs => f.flat && cw fs
theorem FV.ck:∀ {fs:List FV},FV.flat.cw fs=true→∀ (j:Nat) f,fs[j]? = some f→f.flat=true
 | [], _, j, f, h => by simp at h
 | g :: fs, h, 0, f, hf => by simp only [FV.flat.cw, zD] at h; simp at hf; subst hf; exact h.1
 | g :: fs, h, j+1, f, hf => by simp only [FV.flat.cw, zD] at h; simp at hf; exact FV.ck h.2 j f hf
theorem Rd.flat {v:Value} {f:FV} (h:Rd w I v f):f.flat=true→∀ (w' : World) (I' : Nat→Prop),Rd w' I' v f:=by
 induction h with
 | undef v => intro hf; simp [FV.flat] at hf
 | int k n => exact fun _ _ _ => .int k n
 | bool b => exact fun _ _ _ => .bool b
 | str s => exact fun _ _ _ => .str s
 | nil => exact fun _ _ _ => .nil
 | bG => exact fun _ _ _ => .bG
 | au => exact fun _ _ _ => .au
 | list => intro hf; simp [FV.flat] at hf
 | aC => intro hf; simp [FV.flat] at hf
 | perm => intro hf; simp [FV.flat] at hf
 | c4 => intro hf; simp [FV.flat] at hf
 | hZ => intro hf; simp [FV.flat] at hf
 | smap => intro hf; simp [FV.flat] at hf
 | fn => intro hf; simp [FV.flat] at hf
 | iface t v f hr ih => exact fun hf w' I' => .iface t v f (ih (by simpa [FV.flat] using hf) w' I')
 | agg us fs hl hr ih => exact fun hf w' I' => .agg us fs hl fun j u f hu kh => ih j u f hu kh (FV.ck hf j f kh) w' I'
 | bw us fs hl hr ih => exact fun hf w' I' => .bw us fs hl fun j u f hu kh => ih j u f hu kh (FV.ck hf j f kh) w' I'
theorem FV.e8 {f:FV} (h:f.flat=true):f.hand=none:=by cases f <;> first|rfl|(simp [FV.flat] at h)
inductive jW (c:Ctx) (s:ab):ResultVar→FV→Prop where
 | tmp (t:Nat) {f:FV} (h:s.get t=f) (hn:f.hand=none):jW c s (.tmp t) f
 | cell (t T:Nat) {bb:Bool} (hk:(c.ty T).k.aM = some bb) {id aa j o:Nat} (h:s.get t=.ptr id aa j o) (hl:s.live id aa) (aW:(s.ob id).ae.row=true) (hj:j<(s.ob id).es.length) (ho:o+(c.ty T).size≤(s.ob id).sz) (dt : o<(s.ob id).sz) :
   jW c s (.cell t T) (xu (c.ty T) (((s.ob id).es.getD j []).drop o))
inductive WC (c:Ctx) (s:ab):List ResultVar→List FV→Prop where
 | nil:WC c s [] []
 | cons {r:ResultVar} {rs:List ResultVar} {f:FV} {fs:List FV} (h:jW c s r f) (hs:WC c s rs fs):WC c s (r :: rs) (f :: fs)
def ly:List FV→FV
 | [f] => f
 | fs => .bw fs
def VV (tmps:Array Value):ResultVar→Sem Value
 | .tmp t => pure (tmps.getD t undef)
 | .cell a t => do loadVar t (← asAddr (tmps.getD a undef))
section
variable {c:Ctx} {w0 w:World} {J:JJ} {s:ab} {a:Act} {β:Nat→Option Nat}
theorem jW.run (hF:FR c.N w0 J s a w β) {r:ResultVar} {f:FV} (h:jW c s r f):∃ v,(VV a.tmps r).run c.P w=.ok v w∧Rd w (aH J w β s) v f:=by
 cases h with
 | tmp t h hn => exact ⟨_, rfl, hF.aP (x := .tmp t) h hn⟩
 | cell t T hk h hl aW hj ho dt=>
  obtain ⟨v,w',aJ,h1,h2,h3,h4⟩:=Yg (dst:=none) (ty:=0) (pos:="") (after:=#[]) (g:=none) hF hk (.tmp t) h hl aW hj ho dt;obtain ⟨iA,b,hb,hv⟩:=hF.bJ (x:=.tmp t) h hl.1 hl.2;rename_i id aa j o;obtain ⟨cur,cap,aV,hn,hm,bh,hr,aB⟩:=hF.block hl.1 aW hb;have hw:=((hF.obj id hl.1).bg aW).wide;have hd:=hr.drop (j * (s.ob id).sz+o);rw [xW _ hw j o hj zc] at hd;have hlen:(((s.ob id).es.getD j []).drop o).length=(s.ob id).sz - o:=by rw [Zj,Xg hw hj]
  have g6:=hd.1;rw [zT,hlen] at g6;obtain ⟨v,r1,r2⟩:=ZH hk w b (j * (s.ob id).sz+o) ((cur.toList.take ((s.ob id).es.length * (s.ob id).sz)).drop (j * (s.ob id).sz+o)) zc (fun _=>by omega) (fun i u hu=>by
   rw [yJ,yt] at hu;rw [cell_of_row w b _ cur (s.ob id).E (0,0) aV];split at hu
   ·simpa using hu
   ·cases hu) hd
  rw [xZ zc (fun e=>by rw [e] at hlen;simp at hlen;omega)] at r2;have eZ : a.tmps.getD t undef=.pointer (some ⟨b,j * (s.ob id).sz+o,none⟩):=hv;refine ⟨v,?_,r2⟩;simp only [VV,eZ,asAddr,yR,yS,xy];exact r1
theorem WC.run (hF:FR c.N w0 J s a w β):∀ {rs:List ResultVar} {fs:List FV},WC c s rs fs→∃ vs,(rs.mapM (VV a.tmps)).run c.P w=.ok vs w∧ax w (aH J w β s) vs fs
 | _, _, .nil => ⟨[], rfl, ax.nil⟩
 | _, _, .cons h hs => by
  obtain ⟨v,h1,h2⟩:=h.run hF;obtain ⟨vs,h3,h4⟩:=WC.run hF hs;exact ⟨v::vs,by simp [List.mapM_cons,h1,h3],ax.cons h2 h4⟩
theorem XN (hF:FR c.N w0 J s a w β) (fn:Func) {fs:List FV} (h:WC c s fn.results.toList fs):∃ v,(results fn a.tmps).run c.P w=.ok v w∧Rd w (aH J w β s) v (ly fs):=by
 obtain ⟨vs,h1,h2⟩:=h.run hF;have e:results fn a.tmps=(do let vs ← fn.results.mapM (VV a.tmps);pure (if h:vs.size=1 then vs[0] else .tuple vs)):=by
  unfold results;congr 1
 have h3:(fn.results.mapM (VV a.tmps)).run c.P w=.ok vs.toArray w:=by
  rw [Array.mapM_eq_mapM_toList];simp [h1]
 rw [e];refine ⟨if h:vs.toArray.size=1 then vs.toArray[0] else .tuple vs.toArray,by simp [h3],?_⟩;have hl:=h2.1;split
 ·rename_i hs
  match vs,fs,hl,h2 with
  | [v], [f], _, h2 => exact h2.2 0 v f rfl rfl
  | [], _, _, _ => simp at hs
  | _ :: _ :: _, _, _, _ => simp at hs
  | [_], [], hl, _ => simp at hl
  | [_], _ :: _ :: _, hl, _ => simp at hl
 ·rename_i hs;have:ly fs=.bw fs:=by
   match fs,hl with
   | [], _ => rfl
   | [f], hl => exact absurd (by simpa using hl) hs
   | _ :: _ :: _, _ => rfl
  rw [this];exact .bw vs fs h2.1 h2.2
end
def entry (args:List FV):ab:=⟨args.zipIdx.map fun p=>(p.2,p.1),[]⟩
theorem Vt (args:List FV) (d:Nat):(entry args).get d=args.getD d .undef:=by
 have key:∀ (l:List FV) (k d:Nat),look FV.undef ((l.zipIdx k).map fun p=>(p.2,p.1)) d=if k≤d then l.getD (d - k) .undef else .undef:=by
  intro l
  induction l with
  | nil => intro k d; simp [look]
  | cons f l ih=>
   intro k d;rw [List.zipIdx_cons,ya,zp,ih];by_cases h:k=d
   ·subst h;simp
   ·rw [if_neg h];by_cases hk:k≤d
    ·rw [if_pos zc,if_pos hk,show d - k=(d - (k+1))+1 by omega,List.getD_cons_succ]
    ·rw [if_neg zc,if_neg hk]
 have:=key args 0 d;simpa [entry,ab.get] using this
structure sO (c:Ctx) (f:Nat) (fn:Func) (code:Code):Prop where
 at_:c.P.funcs[f]? = some fn
 b:fn.body=some code
 n:fn.ntmps=c.N
 g:kU c.P f=true
theorem FR.entry {N:Nat} (hI:∀ b,I b→b<w.heap.size) {vs:List Value} {args:List FV} (h:ax w I vs args) (hn:∀ f∈args,f.hand=none) (hl:args.length≤N) :
  FR N w { ok:=fun b=>I b∨w.heap.size≤b } (entry args) { tmps:=vs.toArray++Array.replicate (N - vs.toArray.size) undef,defers:=[] } w (fun _=>none) where
 size:=by have:=h.1;simp;omega
 defers:=rfl
 bF:=Yw _ _
 cV b hb:=.inl (.inr hb)
 slot d:=by
  rw [Vt];have ko:∀ b,I b→aH { ok:=fun b=>I b∨w.heap.size≤b } w (fun _=>none) (YtedkppfghdipdaaDoor.entry args) b∧w.heap[b]? = w.heap[b]?:=fun b hb=>⟨⟨hI b hb,.inl hb,fun id _=>by simp⟩,rfl⟩
  rcases xb d args.length with hd|hd
  ·have lV : d<vs.length:=by rw [h.1];exact hd
   have e1:args.getD d .undef=args[d]:=by simp [hd]
   have e2:(vs.toArray++Array.replicate (N - vs.toArray.size) undef).getD d undef=vs[d]:=by
    rw [ZC,Array.getElem?_append_left (by simpa using lV)];simp [lV]
   rw [e1,e2];exact VR.a9 ((h.2 d _ _ (by simp [lV]) (by simp [hd])).mono ko) (hn _ (zZ hd))
  ·have e1:args.getD d .undef=.undef:=by simp [hd]
   rw [e1];exact VR.a9 (.undef _) rfl
 cE d id aa hf:=by
  rw [Vt] at hf;rcases xb d args.length with hd|hd
  ·have e1:args.getD d .undef=args[d]:=by simp [hd]
   rw [e1] at hf;exact (FV.aS (hn _ (zZ hd)) hf).elim
  ·have e1:args.getD d .undef=.undef:=by simp [hd]
   rw [e1] at hf;cases hf
 obj id hl:=absurd rfl hl
 inj id aQ b hl:=absurd rfl hl
 kept b hb:=hb.elim
 gh v f hg:=hg.elim
inductive gJ (c:Ctx) (fn:Func) (s:ab):Vl→FV→Prop where
 | flat {fs:List FV} {f:FV} (h:WC c s fn.results.toList fs) (he:ly fs=f) (hf:f.flat=true):gJ c fn s .fr f
 | sh {fs:List FV} {f:FV} (h:WC c s fn.results.toList fs) (he:ly fs=f) (hf:f.hand=none):gJ c fn s .sh f
 | ow {t id aa n:Nat} (hr:fn.results.toList=[.tmp t]) (h:s.get t=.own id aa 0 n) (hl:(s.ob id).ae=.own) (hv:(s.ob id).aa=aa) (hn:n=(s.ob id).es.length) (hp:0<(s.ob id).sz) (ik:∀ e∈(s.ob id).es,FV.flat.cw e=true) :
   gJ c fn s (.ow (s.ob id).E (s.ob id).sz) (.list (s.ob id).sz (s.ob id).es)
 | kK {t:Nat} (E sz:Nat) (hr:fn.results.toList=[.tmp t]) (h:s.get t=.nil):gJ c fn s (.ow E sz) (.list sz [])
theorem WT {es:List (List FV)} (h:∀ e∈es,FV.flat.cw e=true):∀ f∈es.flatten,f.flat=true:=by
 intro f hf;obtain ⟨e,he,ij⟩:=ym.1 hf;obtain ⟨j,hj,rfl⟩:=yl ij;exact FV.ck (h e he) j _ (by simp [hj])
theorem zV.g7 {c:Ctx} {f:Nat} {fn:Func} (hf:sO c f fn code) {args:List FV} {m:Vl} {res:FV} (hn:∀ f∈args,f.hand=none) (hl:args.length≤c.N) (hh:res.hand=none)
  (h:FW c code (fun e s=>(e=.ret∨e=.normal)∧gJ c fn s m res) (entry args)):zV c.P f args m res where
 go:=hf.g
 hand:=hh
 calls w I vs hI hv:=by
  refine calls_of_wp hf.at_ hf.b ?_;rw [hf.n];refine wp_mono (Xs c.mixed (h w _ _ w _ (FR.entry hI hv hn hl))) ?_;rintro e a' w' ⟨s',aJ,⟨he,hr⟩,hF⟩;have key:a'.defers=[]∧∃ v,(results fn a'.tmps).run c.P w'=.ok v w'∧∃ v',Ending.returned v=.returned v'∧Below w.heap.size w w'∧lv w w' I m v' res:=by
   refine ⟨hF.defers,?_⟩;cases hr with
   | flat jh he bV =>
    obtain ⟨v,h1,h2⟩:=XN hF fn jh;rw [he] at h2;exact ⟨v,h1,v,rfl,hF.bF,h2.flat bV _ _⟩
   | sh jh he bV =>
    obtain ⟨v,h1,h2⟩:=XN hF fn jh;rw [he] at h2;refine ⟨v,h1,v,rfl,hF.bF,h2.mono fun b hb=>⟨?_,rfl⟩⟩;rcases hb.2.1 with h|h
    ·exact .inl h
    ·exact .inr ⟨h,hb.1⟩
   | @ow t id aa n jh hg nL hv hn hp ik=>
    have ah:(s'.ob id).ae≠.dead:=by rw [nL];decide
    obtain ⟨A,cc,e1,e2,e3,e4,e5⟩:=(hF.bc (x:=.tmp t) hg ah hv).ex;have aW:(s'.ob id).ae.row=true:=by rw [nL];rfl
    obtain ⟨v,us,r1,r2,r3⟩:=((hF.obj id ah).bg aW).row;have hw:=((hF.obj id ah).bg aW).wide;have bn:=((hF.obj id ah).bg aW).one;have mE:a'.tmps.getD t undef=v:=by
     have jE : a'.tmps.getD t undef=.slice A n cc:=e1;rw [jE];rcases r1.2 with ⟨rfl,h0⟩|⟨b,cap,cur,rfl,_,dc,_,_,bh,_⟩
     ·have eV:aJ id=none:=by rw [← r2];rfl
      obtain ⟨rfl,rfl⟩:=e4 eV;rw [hn,h0]
     ·have eV:aJ id=some b:=by rw [← r2];rfl
      obtain ⟨o',rfl,k2,k3⟩:=e5 b eV;have:=k3 cur dc;rw [bh,zY] at this;have lT:cap=cc:=Xc hp this;rw [k2 (.inr rfl),lT,hn];simp
    refine ⟨v,?_,v,rfl,hF.bF,_,us,rfl,hw,bn,r1,?_⟩
    ·have mv:fn.results=#[.tmp t]:=by apply ZB;simpa using jh
     rw [results_tmp mv,mE]
    ·have bV:=WT ik;exact ⟨r3.1,fun j u f hu hf=>(r3.2 j u f hu hf).flat (bV f (zN hf)) _ _⟩
   | @kK t E sz jh hg =>
    refine ⟨.slice none 0 0,?_,_,rfl,hF.bF,[],[],rfl,by simp,by simp,ZN _ _ _ _,ax.nil⟩;have mv:fn.results=#[.tmp t]:=by apply ZB;simpa using jh
    rw [results_tmp mv];have:=hF.bX (x:=.tmp t) hg;have:a'.tmps.getD t undef=.slice none 0 0:=this;rw [this]
  rcases he with rfl|rfl
  ·exact key
  ·exact key
end Go.Proofs.YtedkppfghdipdaaDoor
