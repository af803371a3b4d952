/-
  Code and functions on plain values.
-/
import Derived.Test.YtphidhljdcledaaGreatZB
namespace Go.Proofs.YtphidhljdcledaaGreat
set_option linter.unusedVariables false
set_option maxHeartbeats 16000000
open Go.RowKit
variable {s' : ah} {code x y:Code} {kn:Operand} {l:List Oper} {w:World} {I:Nat→Prop}
def FW (c:Ctx) (code:Code) (Q:Exit→ah→Prop) (s:ah):Prop:=
 ∀ (w0:World) (J:JJ) (a:Act) (w:World) (β:Nat→Option Nat),FR c.N w0 J s a w β→fQ c.P code (fun e a' w'=>∃ s' aJ,Q e s'∧FR c.N w0 J s' a' w' aJ) a w
def ar (s s' : ah):Prop:=∀ (N:Nat) (w0:World) (J:JJ) (a:Act) (w:World) (β:Nat→Option Nat),FR N w0 J s a w β→∃ aJ,FR N w0 J s' a w aJ
theorem ar.refl (s:ah):ar s s:=fun _ _ _ _ _ β h=>⟨β,h⟩
theorem ar.trans {s oh : ah} (h:ar s s') (k:ar s' oh):ar s oh:=fun N w0 J a w β hF=>let ⟨_,h1⟩:=h N w0 J a w β hF;k N w0 J a w _ h1
def Mn (next:ah→Prop) (Q:Exit→ah→Prop):Exit→ah→Prop
 | .normal, s => next s
 | e, s => Q e s
def zvq (id:Nat) (Q:Exit→ah→Prop):Exit→ah→Prop
 | .exit aL, s => if aL=id then Q .normal s else Q (.exit aL) s
 | e, s => Q e s
section
variable {c:Ctx} {Q:Exit→ah→Prop} {s:ah}
theorem FW.le (h:FW c code Q s') (hs:ar s s'):FW c code Q s:=fun w0 J a w β hF=>let ⟨aJ,h1⟩:=hs _ _ _ _ _ _ hF;h w0 J a w aJ h1
theorem FW.mono {Q' : Exit→ah→Prop} (h:FW c code Q s) (hq:∀ e s,Q e s→Q' e s):FW c code Q' s:=fun w0 J a w β hF=>
 xS (h w0 J a w β hF) fun _ _ _ ⟨s',aJ,q,f⟩=>⟨s',aJ,hq _ _ q,f⟩
theorem FW.skip (h:Q .normal s):FW c .skip Q s:=fun _ _ _ _ β hF=>⟨s,β,h,hF⟩
theorem FW.exit {id:Nat} (h:Q (.exit id) s):FW c (.exit id) Q s:=fun _ _ _ _ β hF=>⟨s,β,h,hF⟩
theorem FW.ret (h:Q .ret s):FW c .ret Q s:=fun _ _ _ _ β hF=>⟨s,β,h,hF⟩
theorem FW.seq (h:FW c x (Mn (FW c y Q) Q) s):FW c (.seq x y) Q s:=fun w0 J a w β hF=>
 xS (c:=x) (h w0 J a w β hF) fun e a' w' ⟨s',aJ,q,f⟩=>by
  cases e with
  | normal => exact q w0 J a' w' aJ f
  | _ => exact ⟨s', aJ, q, f⟩
theorem FW.block {id:Nat} (h:FW c x (zvq id Q) s):FW c (.block id x) Q s:=fun w0 J a w β hF=>
 xS (c:=x) (h w0 J a w β hF) fun e a' w' ⟨s',aJ,q,f⟩=>by
  cases e with
  | exit aL =>
   simp only [Exit.inBlock];simp only [zvq] at q;split
   ·rename_i e;rw [if_pos e] at q;exact ⟨s',aJ,q,f⟩
   ·rename_i e;rw [if_neg e] at q;exact ⟨s',aJ,q,f⟩
  | _ => exact ⟨s', aJ, q, f⟩
theorem FW.cond {b:Bool} (hc:s.ev kn=.bool b) (ht:b=true→FW c x Q s) (hf:b=false→FW c y Q s):FW c (.cond kn x y) Q s:=fun w0 J a w β hF=>
 ⟨b,hF.dX hc,fun e=>ht e w0 J a w β hF,fun e=>hf e w0 J a w β hF⟩
theorem FW.EE (hc:s.ev kn=.bool true) (ht:FW c x Q s):FW c (.cond kn x y) Q s:=FW.cond hc (fun _=>ht) (fun h=>by cases h)
theorem FW.oE (hc:s.ev kn=.bool false) (ht:FW c y Q s):FW c (.cond kn x y) Q s:=FW.cond hc (fun h=>by cases h) (fun _=>ht)
theorem FW.loop {σ:Type} {body:Code} (inv:σ→ah) (pre:σ→Prop) (μ:σ→Nat) (x0:σ) (h0:pre x0) (hs:ar s (inv x0))
  (round:∀ x,pre x→FW c body (Mn (fun s'=>∃ x',pre x'∧μ x'<μ x∧ar s' (inv x')) Q) (inv x)):FW c (.loop body) Q s:=fun w0 J a w β hF=>by
 obtain ⟨SE,MO⟩:=hs _ _ _ _ _ _ hF;refine ⟨fun n a w=>∃ x,pre x∧μ x=n∧∃ β,FR c.N w0 J (inv x) a w β,μ x0,⟨x0,h0,rfl,SE,MO⟩,?_⟩;rintro n a w ⟨x,hp,rfl,β,hF⟩;refine xS (c:=body) (round x hp w0 J a w β hF) fun e a' w' ⟨s',aJ,q,f⟩=>?_;cases e with
 | normal =>
  obtain ⟨x',h1,h2,h3⟩:=q;obtain ⟨jL,MN⟩:=h3 _ _ _ _ _ _ f;exact ⟨μ x',h2,x',h1,rfl,jL,MN⟩
 | _ => exact ⟨s', aJ, q, f⟩
theorem FW.join {ι:Type} (dH:ι→ah) (pre:ι→Prop) (h1:FW c x (fun e s'=>e=.normal∧∃ i,pre i∧ar s' (dH i)) s) (h2:∀ i,pre i→FW c y Q (dH i)):FW c x (Mn (FW c y Q) Q) s:=
 h1.mono fun e s' h=>by
  obtain ⟨rfl,i,hp,hle⟩:=h;exact (h2 i hp).le hle
def zt (c:Ctx) (ops:Array Oper) (l:List Oper) (s:ah) (Q:ah→Prop):Prop:=
 ∀ (QQ:Exit→Act→World→Prop) (w0:World) (J:JJ) (a:Act) (w:World) (β:Nat→Option Nat),(∀ s a w β,Q s→FR c.N w0 J s a w β→QQ .normal a w)→FR c.N w0 J s a w β→wpList c.P ops QQ l a w
def zR (c:Ctx) (ops:Array Oper) (l:List Oper) (s:ah) (tr:List Rec) (Q:ah→List Rec→Prop):Prop:=∃ J6 s',sK c ops s l J6 s'∧Q s' (tr++J6)
theorem FW.region {id:Nat} (h:zt c l.toArray l s (Q .normal)):FW c (.region id l.toArray false) Q s:=fun w0 J a w β hF=>
 h (fc fun a' w'=>∃ s' aJ,Q .normal s'∧FR c.N w0 J s' a' w' aJ) w0 J a w β (fun s a w β q f=>⟨s,β,q,f⟩) hF
theorem FW.draw {id:Nat} (h:zR c l.toArray l s [] fun s' tr=>DP l.toArray tr=true∧Q .normal s'):FW c (.region id l.toArray true) Q s:=fun w0 J a w β hF=>by
 obtain ⟨tr,s',hx,e9,hq⟩:=h;exact zl0 (Q:=fc fun a' w'=>∃ s' aJ,Q .normal s'∧FR c.N w0 J s' a' w' aJ) (ops:=l.toArray) (by simpa using hx) (by simpa using e9) (fun a w β f=>⟨s',β,hq,f⟩) hF
end
structure Ey (c:Ctx) (s:ah) (o:Oper) (f:FV) (wr:List (Nat×zE)) (d:Nat):Prop where
 dst:o.dst=some d∨(o.dst=none∧o0 o.op)
 lt:∀ d,o.dst=some d→d<c.N
 SR:aD c s d o.op f wr
section
variable {c:Ctx} {ops:Array Oper} {s:ah} {o:Oper} {rest:List Oper} {f:FV} {wr:List (Nat×zE)} {d:Nat} {tr:List Rec}
theorem zt.nil {Q:ah→Prop} (h:Q s):zt c ops [] s Q:=fun _ _ _ a w β hQ hF=>hQ s a w β h hF
theorem zt.le {Q:ah→Prop} (h:zt c ops l s' Q) (hs:ar s s'):zt c ops l s Q:=fun QQ w0 J a w β hQ hF=>let ⟨aJ,h1⟩:=hs _ _ _ _ _ _ hF;h QQ w0 J a w aJ hQ h1
theorem zR.nil {Q:ah→List Rec→Prop} (h:Q s tr):zR c ops [] s tr Q:=⟨[],s,.nil s,by rw [zT];exact h⟩
theorem zt.cons {Q:ah→Prop} {s' : ah} (h:Ey c s o f wr d) (hw:ZB ops s o true) (hs:s.app o.dst f wr=s') (k:zt c ops rest s' Q):zt c ops (o::rest) s Q:=fun QQ w0 J a w β hQ hF=>by
 unfold wpList;rw [if_pos (hw.model hF)];exact .inl (h.SR.sound hF o rfl h.dst h.lt fun a' w' aJ eW=>k QQ w0 J a' w' aJ hQ (hs▸eW))
theorem zR.cons {Q:ah→List Rec→Prop} {s' : ah} {ft:List Nat} (h:Ey c s o f wr d) (hw:ZB ops s o true) (hs:s.app o.dst f wr=s') (hf:VH s d o.op=ft) (k:zR c ops rest s' (tr++[⟨o,f,wr,ft⟩]) Q):zR c ops (o::rest) s tr Q:=by
 obtain ⟨J6,oh,hx,hq⟩:=k;refine ⟨_,oh,.step hw h.dst h.lt h.SR (hs▸hx),?_⟩;rw [hf];simpa using hq
theorem zt.skip {Q:ah→Prop} {s' : ah} (hw:ZB ops s o false) (hd:∀ d,o.dst=some d→d<c.N) (hs:s.app o.dst (.bd []) []=s') (k:zt c ops rest s' Q):zt c ops (o::rest) s Q:=fun QQ w0 J a w β hQ hF=>by
 unfold wpList;rw [if_neg (by rw [hw.model hF];decide)];refine k QQ w0 J _ w β hQ (hs▸?_);unfold ah.app;cases hdd:o.dst with
 | none => exact hF
 | some d => exact hF.put (hd d hdd) (VR.aX (Rd.bd [] [] rfl zc) rfl) (fun id ae e => by cases e)
theorem zR.skip {Q:ah→List Rec→Prop} {s' : ah} (hw:ZB ops s o false) (hd:∀ d,o.dst=some d→d<c.N) (hs:s.app o.dst (.bd []) []=s') (k:zR c ops rest s' (tr++[⟨o,.bd [],[],[]⟩]) Q):zR c ops (o::rest) s tr Q:=by
 obtain ⟨J6,oh,hx,hq⟩:=k;refine ⟨_,oh,.skip hw hd (hs▸hx),?_⟩;simpa using hq
end
def FV.flat:FV→Bool
 | .int _ _|.bool _|.str _|.nil => true
 | .agg cs => dY cs
 | .bd cs => dY cs
 | .iface _ f => f.flat
 | _ => false
where dY:List FV→Bool
 | [] => true
 | f :: fs => f.flat && dY fs
theorem FV.cQ:∀ {fs:List FV},FV.flat.dY fs=true→∀ (j:Nat) f,fs[j]? = some f→f.flat=true
 | [], _, j, f, h => by simp at h
 | g :: fs, h, 0, f, hf => by simp only [FV.flat.dY, zx] at h; simp at hf; subst hf; exact h.1
 | g :: fs, h, j+1, f, hf => by simp only [FV.flat.dY, zx] at h; simp at hf; exact FV.cQ h.2 j f hf
theorem Rd.flat {v:Value} {f:FV} (h:Rd w I v f):f.flat=true→∀ (w' : World) (I' : Nat→Prop),Rd w' I' v f:=by
 induction h with
 | undef v => intro hf; simp [FV.flat] at hf
 | int k n => exact fun _ _ _ => .int k n
 | bool b => exact fun _ _ _ => .bool b
 | str s => exact fun _ _ _ => .str s
 | nil => exact fun _ _ _ => .nil
 | bR => exact fun _ _ _ => .bR
 | list => intro hf; simp [FV.flat] at hf
 | ax => intro hf; simp [FV.flat] at hf
 | perm => intro hf; simp [FV.flat] at hf
 | jQ => intro hf; simp [FV.flat] at hf
 | smap => intro hf; simp [FV.flat] at hf
 | fn => intro hf; simp [FV.flat] at hf
 | iface t v f hr ih => exact fun hf w' I' => .iface t v f (ih (by simpa [FV.flat] using hf) w' I')
 | agg us fs hl hr ih => exact fun hf w' I' => .agg us fs hl fun j u f hu eh => ih j u f hu eh (FV.cQ hf j f eh) w' I'
 | bd us fs hl hr ih => exact fun hf w' I' => .bd us fs hl fun j u f hu eh => ih j u f hu eh (FV.cQ hf j f eh) w' I'
theorem FV.kp {f:FV} (h:f.flat=true):f.hand=none:=by cases f <;> first|rfl|(simp [FV.flat] at h)
inductive CD (c:Ctx) (s:ah):ResultVar→FV→Prop where
 | tmp (t:Nat) {f:FV} (h:s.get t=f) (hn:f.hand=none):CD c s (.tmp t) f
 | cell (t T:Nat) {bb:Bool} (hk:(c.ty T).k.bD = some bb) {id ae j o:Nat} (h:s.get t=.ptr id ae j o) (hl:s.live id ae) (bK:(s.ob id).ao.row=true) (hj:j<(s.ob id).es.length) (ho:o+(c.ty T).size≤(s.ob id).sz) (eJ : o<(s.ob id).sz) :
   CD c s (.cell t T) (UG (c.ty T) (((s.ob id).es.getD j []).drop o))
inductive sF (c:Ctx) (s:ah):List ResultVar→List FV→Prop where
 | nil:sF c s [] []
 | cons {r:ResultVar} {rs:List ResultVar} {f:FV} {fs:List FV} (h:CD c s r f) (hs:sF c s rs fs):sF c s (r :: rs) (f :: fs)
def Eg:List FV→FV
 | [f] => f
 | fs => .bd fs
def Iz (tmps:Array Value):ResultVar→Sem Value
 | .tmp t => pure (tmps.getD t undef)
 | .cell a t => do loadVar t (← asAddr (tmps.getD a undef))
section
variable {c:Ctx} {w0 w:World} {J:JJ} {s:ah} {a:Act} {β:Nat→Option Nat}
theorem CD.run (hF:FR c.N w0 J s a w β) {r:ResultVar} {f:FV} (h:CD c s r f):∃ v,(Iz a.tmps r).run c.P w=.ok v w∧Rd w (aF J w β s) v f:=by
 cases h with
 | tmp t h hn => exact ⟨_, rfl, hF.bY (x := .tmp t) h hn⟩
 | cell t T hk h hl bK hj ho eJ=>
  obtain ⟨v,w',aJ,h1,h2,h3,h4⟩:=W8 (dst:=none) (ty:=0) (pos:="") (after:=#[]) (g:=none) hF hk (.tmp t) h hl bK hj ho eJ;obtain ⟨wD,b,hb,hv⟩:=hF.dA (x:=.tmp t) h hl.1 hl.2;rename_i id ae j o;obtain ⟨cur,cap,bp,hn,hm,bk,hr,aj⟩:=hF.block hl.1 bK hb;have hw:=((hF.obj id hl.1).bM bK).wide;have hd:=hr.drop (j * (s.ob id).sz+o);rw [HI _ hw j o hj za] at hd;have hlen:(((s.ob id).es.getD j []).drop o).length=(s.ob id).sz - o:=by rw [XZ,Lw hw hj]
  have im:=hd.1;rw [zN,hlen] at im;obtain ⟨v,r1,r2⟩:=Py hk w b (j * (s.ob id).sz+o) ((cur.toList.take ((s.ob id).es.length * (s.ob id).sz)).drop (j * (s.ob id).sz+o)) za (fun _=>by omega) (fun i u hu=>by
   rw [YE,xG] at hu;rw [cell_of_row w b _ cur (s.ob id).E (0,0) bp];split at hu
   ·simpa using hu
   ·cases hu) hd
  rw [Pk za (fun e=>by rw [e] at hlen;simp at hlen;omega)] at r2;have nh : a.tmps.getD t undef=.pointer (some ⟨b,j * (s.ob id).sz+o,none⟩):=hv;refine ⟨v,?_,r2⟩;simp only [Iz,nh,asAddr,xy,Xs,Vg];exact r1
theorem sF.run (hF:FR c.N w0 J s a w β):∀ {rs:List ResultVar} {fs:List FV},sF c s rs fs→∃ vs,(rs.mapM (Iz a.tmps)).run c.P w=.ok vs w∧aS w (aF J w β s) vs fs
 | _, _, .nil => ⟨[], rfl, aS.nil⟩
 | _, _, .cons h hs => by
  obtain ⟨v,h1,h2⟩:=h.run hF;obtain ⟨vs,h3,h4⟩:=sF.run hF hs;exact ⟨v::vs,by simp [h1,h3],aS.cons h2 h4⟩
theorem Vx (hF:FR c.N w0 J s a w β) (fn:Func) {fs:List FV} (h:sF c s fn.results.toList fs):∃ v,(results fn a.tmps).run c.P w=.ok v w∧Rd w (aF J w β s) v (Eg fs):=by
 obtain ⟨vs,h1,h2⟩:=h.run hF;have e:results fn a.tmps=(do let vs ← fn.results.mapM (Iz a.tmps);pure (if h:vs.size=1 then vs[0] else .tuple vs)):=by
  unfold results;congr 1
 have h3:(fn.results.mapM (Iz a.tmps)).run c.P w=.ok vs.toArray w:=by
  rw [Array.mapM_eq_mapM_toList];simp [h1]
 rw [e];refine ⟨if h:vs.toArray.size=1 then vs.toArray[0] else .tuple vs.toArray,by simp [h3],?_⟩;have hl:=h2.1;split
 ·rename_i hs
  match vs,fs,hl,h2 with
  | [v], [f], _, h2 => exact h2.2 0 v f rfl rfl
  | [], _, _, _ => simp at hs
  | _ :: _ :: _, _, _, _ => simp at hs
  | [_], [], hl, _ => simp at hl
  | [_], _ :: _ :: _, hl, _ => simp at hl
 ·rename_i hs;have:Eg fs=.bd fs:=by
   match fs,hl with
   | [], _ => rfl
   | [f], hl => exact absurd (by simpa using hl) hs
   | _ :: _ :: _, _ => rfl
  rw [this];exact .bd vs fs h2.1 h2.2
end
def entry (args:List FV):ah:=⟨args.zipIdx.map fun p=>(p.2,p.1),[]⟩
theorem PY (args:List FV) (d:Nat):(entry args).get d=args.getD d .undef:=by
 have key:∀ (l:List FV) (k d:Nat),look FV.undef ((l.zipIdx k).map fun p=>(p.2,p.1)) d=if k≤d then l.getD (d - k) .undef else .undef:=by
  intro l
  induction l with
  | nil => intro k d; simp [look]
  | cons f l ih=>
   intro k d;rw [List.zipIdx_cons,zZ,zI,ih];by_cases h:k=d
   ·subst h;simp
   ·rw [if_neg h];by_cases hk:k≤d
    ·rw [if_pos za,if_pos hk,show d - k=(d - (k+1))+1 by omega,DE]
    ·rw [if_neg za,if_neg hk]
 have:=key args 0 d;simpa [entry,ah.get] using this
structure Mo (c:Ctx) (f:Nat) (fn:Func) (code:Code):Prop where
 at_:c.P.funcs[f]? = some fn
 b:fn.body=some code
 n:fn.ntmps=c.N
 g:tX c.P f=true
theorem FR.entry {N:Nat} (hI:∀ b,I b→b<w.heap.size) {vs:List Value} {args:List FV} (h:aS w I vs args) (hn:∀ f∈args,f.hand=none) (hl:args.length≤N) :
  FR N w { ok:=fun b=>I b∨w.heap.size≤b } (entry args) { tmps:=vs.toArray++Array.replicate (N - vs.toArray.size) undef,defers:=[] } w (fun _=>none) where
 size:=by have:=h.1;simp;omega
 defers:=rfl
 bB:=Zc _ _
 bP b hb:=.inl (.inr hb)
 slot d:=by
  rw [PY];have FF:∀ b,I b→aF { ok:=fun b=>I b∨w.heap.size≤b } w (fun _=>none) (YtphidhljdcledaaGreat.entry args) b∧w.heap[b]? = w.heap[b]?:=fun b hb=>⟨⟨hI b hb,.inl hb,fun id _=>by simp⟩,rfl⟩
  rcases yg d args.length with hd|hd
  ·have vO : d<vs.length:=by rw [h.1];exact hd
   have e1:args.getD d .undef=args[d]:=by simp [hd]
   have e2:(vs.toArray++Array.replicate (N - vs.toArray.size) undef).getD d undef=vs[d]:=by
    rw [Xo,RV (by simpa using vO)];simp [vO]
   rw [e1,e2];exact VR.aX ((h.2 d _ _ (by simp [vO]) (by simp [hd])).mono FF) (hn _ (xH hd))
  ·have e1:args.getD d .undef=.undef:=by simp [hd]
   rw [e1];exact VR.aX (.undef _) rfl
 bE d id ae hf:=by
  rw [PY] at hf;rcases yg d args.length with hd|hd
  ·have e1:args.getD d .undef=args[d]:=by simp [hd]
   rw [e1] at hf;exact (FV.aV (hn _ (xH hd)) hf).elim
  ·have e1:args.getD d .undef=.undef:=by simp [hd]
   rw [e1] at hf;cases hf
 obj id hl:=absurd rfl hl
 inj id aL b hl:=absurd rfl hl
 kept b hb:=hb.elim
 gh v f hg:=hg.elim
inductive ue (c:Ctx) (fn:Func) (s:ah):ll→FV→Prop where
 | flat {fs:List FV} {f:FV} (h:sF c s fn.results.toList fs) (he:Eg fs=f) (hf:f.flat=true):ue c fn s .fr f
 | sh {fs:List FV} {f:FV} (h:sF c s fn.results.toList fs) (he:Eg fs=f) (hf:f.hand=none):ue c fn s .sh f
 | ow {t id ae n:Nat} (hr:fn.results.toList=[.tmp t]) (h:s.get t=.own id ae 0 n) (hl:(s.ob id).ao=.own) (hv:(s.ob id).ae=ae) (hn:n=(s.ob id).es.length) (hp:0<(s.ob id).sz) (vR:∀ e∈(s.ob id).es,FV.flat.dY e=true) :
   ue c fn s (.ow (s.ob id).E (s.ob id).sz) (.list (s.ob id).sz (s.ob id).es)
 | wN {t:Nat} (E sz:Nat) (hr:fn.results.toList=[.tmp t]) (h:s.get t=.nil):ue c fn s (.ow E sz) (.list sz [])
theorem zjL {es:List (List FV)} (h:∀ e∈es,FV.flat.dY e=true):∀ f∈es.flatten,f.flat=true:=by
 intro f hf;obtain ⟨e,he,th⟩:=yJ.1 hf;obtain ⟨j,hj,rfl⟩:=zU th;exact FV.cQ (h e he) j _ (by simp [hj])
theorem xA.bH {c:Ctx} {f:Nat} {fn:Func} (hf:Mo c f fn code) {args:List FV} {m:ll} {res:FV} (hn:∀ f∈args,f.hand=none) (hl:args.length≤c.N) (hh:res.hand=none)
  (h:FW c code (fun e s=>(e=.ret∨e=.normal)∧ue c fn s m res) (entry args)):xA c.P f args m res where
 go:=hf.g
 hand:=hh
 calls w I vs hI hv:=by
  refine calls_of_wp hf.at_ hf.b ?_;rw [hf.n];refine wp_mono (Uz c.mixed (h w _ _ w _ (FR.entry hI hv hn hl))) ?_;rintro e a' w' ⟨s',aJ,⟨he,hr⟩,hF⟩;have key:a'.defers=[]∧∃ v,(results fn a'.tmps).run c.P w'=.ok v w'∧∃ v',Ending.returned v=.returned v'∧Below w.heap.size w w'∧Cv w w' I m v' res:=by
   refine ⟨hF.defers,?_⟩;cases hr with
   | flat jc he cu =>
    obtain ⟨v,h1,h2⟩:=Vx hF fn jc;rw [he] at h2;exact ⟨v,h1,v,rfl,hF.bB,h2.flat cu _ _⟩
   | sh jc he cu =>
    obtain ⟨v,h1,h2⟩:=Vx hF fn jc;rw [he] at h2;refine ⟨v,h1,v,rfl,hF.bB,h2.mono fun b hb=>⟨?_,rfl⟩⟩;rcases hb.2.1 with h|h
    ·exact .inl h
    ·exact .inr ⟨h,hb.1⟩
   | @ow t id ae n jc hg pF hv hn hp vR=>
    have au:(s'.ob id).ao≠.dead:=by rw [pF];decide
    obtain ⟨A,cc,e1,e2,e3,e4,e5⟩:=(hF.cj (x:=.tmp t) hg au hv).ex;have bK:(s'.ob id).ao.row=true:=by rw [pF];rfl
    obtain ⟨v,us,r1,r2,r3⟩:=((hF.obj id au).bM bK).row;have hw:=((hF.obj id au).bM bK).wide;have bQ:=((hF.obj id au).bM bK).one;have OS:a'.tmps.getD t undef=v:=by
     have lv : a'.tmps.getD t undef=.slice A n cc:=e1;rw [lv];rcases r1.2 with ⟨rfl,h0⟩|⟨b,cap,cur,rfl,_,ec,_,_,bk,_⟩
     ·have jt:aJ id=none:=by rw [← r2];rfl
      obtain ⟨rfl,rfl⟩:=e4 jt;rw [hn,h0]
     ·have jt:aJ id=some b:=by rw [← r2];rfl
      obtain ⟨o',rfl,k2,k3⟩:=e5 b jt;have:=k3 cur ec;rw [bk,yh] at this;have AR:cap=cc:=HD hp this;rw [k2 (.inr rfl),AR,hn];simp
    refine ⟨v,?_,v,rfl,hF.bB,_,us,rfl,hw,bQ,r1,?_⟩
    ·have rO:fn.results=#[.tmp t]:=by apply xU;simpa using jc
     rw [results_tmp rO,OS]
    ·have cu:=zjL vR;exact ⟨r3.1,fun j u f hu hf=>(r3.2 j u f hu hf).flat (cu f (zG hf)) _ _⟩
   | @wN t E sz jc hg =>
    refine ⟨.slice none 0 0,?_,_,rfl,hF.bB,[],[],rfl,by simp,by simp,Wj _ _ _ _,aS.nil⟩;have rO:fn.results=#[.tmp t]:=by apply xU;simpa using jc
    rw [results_tmp rO];have:=hF.fp (x:=.tmp t) hg;have:a'.tmps.getD t undef=.slice none 0 0:=this;rw [this]
  rcases he with rfl|rfl
  ·exact key
  ·exact key
end Go.Proofs.YtphidhljdcledaaGreat
