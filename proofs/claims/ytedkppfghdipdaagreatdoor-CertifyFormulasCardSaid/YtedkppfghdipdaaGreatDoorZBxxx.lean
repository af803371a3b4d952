/-
  Code and functions on plain values.
-/
import Derived.Test.YtedkppfghdipdaaGreatDoorZB
namespace Go.Proofs.YtedkppfghdipdaaGreatDoor
set_option linter.unusedVariables false
set_option maxHeartbeats 16000000
open Go.RowKit
variable {s' : ae} {code x y:Code} {fY:Operand} {l:List Oper} {w:World} {I:Nat→Prop}
def FW (c:Ctx) (code:Code) (Q:Exit→ae→Prop) (s:ae):Prop:=
 ∀ (w0:World) (J:JJ) (a:Act) (w:World) (β:Nat→Option Nat),FR c.N w0 J s a w β→jv c.P code (fun e a' w'=>∃ s' aE,Q e s'∧FR c.N w0 J s' a' w' aE) a w
def au (s s' : ae):Prop:=∀ (N:Nat) (w0:World) (J:JJ) (a:Act) (w:World) (β:Nat→Option Nat),FR N w0 J s a w β→∃ aE,FR N w0 J s' a w aE
theorem au.trans {s kp : ae} (h:au s s') (k:au s' kp):au s kp:=fun N w0 J a w β hF=>let ⟨_,h1⟩:=h N w0 J a w β hF;k N w0 J a w _ h1
def ql (next:ae→Prop) (Q:Exit→ae→Prop):Exit→ae→Prop
 | .normal, s => next s
 | e, s => Q e s
def wJ (id:Nat) (Q:Exit→ae→Prop):Exit→ae→Prop
 | .exit aM, s => if aM=id then Q .normal s else Q (.exit aM) s
 | e, s => Q e s
section
variable {c:Ctx} {Q:Exit→ae→Prop} {s:ae}
theorem FW.le (h:FW c code Q s') (hs:au s s'):FW c code Q s:=fun w0 J a w β hF=>let ⟨aE,h1⟩:=hs _ _ _ _ _ _ hF;h w0 J a w aE h1
theorem FW.mono {Q' : Exit→ae→Prop} (h:FW c code Q s) (hq:∀ e s,Q e s→Q' e s):FW c code Q' s:=fun w0 J a w β hF=>
 xu (h w0 J a w β hF) fun _ _ _ ⟨s',aE,q,f⟩=>⟨s',aE,hq _ _ q,f⟩
theorem FW.skip (h:Q .normal s):FW c .skip Q s:=fun _ _ _ _ β hF=>⟨s,β,h,hF⟩
theorem FW.exit {id:Nat} (h:Q (.exit id) s):FW c (.exit id) Q s:=fun _ _ _ _ β hF=>⟨s,β,h,hF⟩
theorem FW.ret (h:Q .ret s):FW c .ret Q s:=fun _ _ _ _ β hF=>⟨s,β,h,hF⟩
theorem FW.seq (h:FW c x (ql (FW c y Q) Q) s):FW c (.seq x y) Q s:=fun w0 J a w β hF=>
 xu (c:=x) (h w0 J a w β hF) fun e a' w' ⟨s',aE,q,f⟩=>by
  cases e with
  | normal => exact q w0 J a' w' aE f
  | _ => exact ⟨s', aE, q, f⟩
theorem FW.block {id:Nat} (h:FW c x (wJ id Q) s):FW c (.block id x) Q s:=fun w0 J a w β hF=>
 xu (c:=x) (h w0 J a w β hF) fun e a' w' ⟨s',aE,q,f⟩=>by
  cases e with
  | exit aM =>
   simp only [Exit.inBlock];simp only [wJ] at q;split
   ·rename_i e;rw [if_pos e] at q;exact ⟨s',aE,q,f⟩
   ·rename_i e;rw [if_neg e] at q;exact ⟨s',aE,q,f⟩
  | _ => exact ⟨s', aE, q, f⟩
theorem FW.scope (h:FW c x (fun e s'=>match e with|.goto _=>False|e=>Q e s') s):FW c (.scope x) Q s:=fun w0 J a w β hF=>
 xu (c:=x) (h w0 J a w β hF) fun e a' w' ⟨s',aE,q,f⟩=>by
  cases e <;> first|exact ⟨s',aE,q,f⟩|exact q
theorem FW.cond {b:Bool} (hc:s.ev fY=.bool b) (ht:b=true→FW c x Q s) (hf:b=false→FW c y Q s):FW c (.cond fY x y) Q s:=fun w0 J a w β hF=>
 ⟨b,hF.cQ hc,fun e=>ht e w0 J a w β hF,fun e=>hf e w0 J a w β hF⟩
theorem FW.ew (hc:s.ev fY=.bool true) (ht:FW c x Q s):FW c (.cond fY x y) Q s:=FW.cond hc (fun _=>ht) (fun h=>by cases h)
theorem FW.dM (hc:s.ev fY=.bool false) (ht:FW c y Q s):FW c (.cond fY x y) Q s:=FW.cond hc (fun h=>by cases h) (fun _=>ht)
theorem FW.loop {σ:Type} {body:Code} (inv:σ→ae) (pre:σ→Prop) (μ:σ→Nat) (x0:σ) (h0:pre x0) (hs:au s (inv x0))
  (round:∀ x,pre x→FW c body (ql (fun s'=>∃ x',pre x'∧μ x'<μ x∧au s' (inv x')) Q) (inv x)):FW c (.loop body) Q s:=fun w0 J a w β hF=>by
 obtain ⟨Gn,Ab⟩:=hs _ _ _ _ _ _ hF;refine ⟨fun n a w=>∃ x,pre x∧μ x=n∧∃ β,FR c.N w0 J (inv x) a w β,μ x0,⟨x0,h0,rfl,Gn,Ab⟩,?_⟩;rintro n a w ⟨x,hp,rfl,β,hF⟩;refine xu (c:=body) (round x hp w0 J a w β hF) fun e a' w' ⟨s',aE,q,f⟩=>?_;cases e with
 | normal =>
  obtain ⟨x',h1,h2,h3⟩:=q;obtain ⟨hU,qC⟩:=h3 _ _ _ _ _ _ f;exact ⟨μ x',h2,x',h1,rfl,hU,qC⟩
 | _ => exact ⟨s', aE, q, f⟩
theorem FW.join {ι:Type} (nT:ι→ae) (pre:ι→Prop) (h1:FW c x (fun e s'=>e=.normal∧∃ i,pre i∧au s' (nT i)) s) (h2:∀ i,pre i→FW c y Q (nT i)):FW c x (ql (FW c y Q) Q) s:=
 h1.mono fun e s' h=>by
  obtain ⟨rfl,i,hp,hle⟩:=h;exact (h2 i hp).le hle
def zn (c:Ctx) (ops:Array Oper) (l:List Oper) (s:ae) (Q:ae→Prop):Prop:=
 ∀ (QQ:Exit→Act→World→Prop) (w0:World) (J:JJ) (a:Act) (w:World) (β:Nat→Option Nat),(∀ s a w β,Q s→FR c.N w0 J s a w β→QQ .normal a w)→FR c.N w0 J s a w β→wpList c.P ops QQ l a w
def zI (c:Ctx) (ops:Array Oper) (l:List Oper) (s:ae) (tr:List Rec) (Q:ae→List Rec→Prop):Prop:=∃ kN s',iY c ops s l kN s'∧Q s' (tr++kN)
theorem FW.region {id:Nat} (h:zn c l.toArray l s (Q .normal)):FW c (.region id l.toArray false) Q s:=fun w0 J a w β hF=>
 h (iB fun a' w'=>∃ s' aE,Q .normal s'∧FR c.N w0 J s' a' w' aE) w0 J a w β (fun s a w β q f=>⟨s,β,q,f⟩) hF
theorem FW.draw {id:Nat} (h:zI c l.toArray l s [] fun s' tr=>Xn l.toArray tr=true∧Q .normal s'):FW c (.region id l.toArray true) Q s:=fun w0 J a w β hF=>by
 obtain ⟨tr,s',hx,c8,hq⟩:=h;exact Cr (Q:=iB fun a' w'=>∃ s' aE,Q .normal s'∧FR c.N w0 J s' a' w' aE) (ops:=l.toArray) (by simpa using hx) (by simpa using c8) (fun a w β f=>⟨s',β,hq,f⟩) hF
end
structure nN (c:Ctx) (s:ae) (o:Oper) (f:FV) (wr:List (Nat×zL)) (d:Nat):Prop where
 dst:o.dst=some d∨(o.dst=none∧kr o.op)
 lt:∀ d,o.dst=some d→d<c.N
 tk:ax c s d o.op f wr
section
variable {c:Ctx} {ops:Array Oper} {s:ae} {o:Oper} {rest:List Oper} {f:FV} {wr:List (Nat×zL)} {d:Nat} {tr:List Rec}
theorem zn.nil {Q:ae→Prop} (h:Q s):zn c ops [] s Q:=fun _ _ _ a w β hQ hF=>hQ s a w β h hF
theorem zn.le {Q:ae→Prop} (h:zn c ops l s' Q) (hs:au s s'):zn c ops l s Q:=fun QQ w0 J a w β hQ hF=>let ⟨aE,h1⟩:=hs _ _ _ _ _ _ hF;h QQ w0 J a w aE hQ h1
theorem zI.nil {Q:ae→List Rec→Prop} (h:Q s tr):zI c ops [] s tr Q:=⟨[],s,.nil s,by rw [xW];exact h⟩
theorem zn.cons {Q:ae→Prop} {s' : ae} (h:nN c s o f wr d) (hw:ZC ops s o true) (hs:s.app o.dst f wr=s') (k:zn c ops rest s' Q):zn c ops (o::rest) s Q:=fun QQ w0 J a w β hQ hF=>by
 unfold wpList;rw [if_pos (hw.model hF)];exact .inl (h.tk.sound hF o rfl h.dst h.lt fun a' w' aE dZ=>k QQ w0 J a' w' aE hQ (hs▸dZ))
theorem zI.cons {Q:ae→List Rec→Prop} {s' : ae} {ft:List Nat} (h:nN c s o f wr d) (hw:ZC ops s o true) (hs:s.app o.dst f wr=s') (hf:Xa s d o.op=ft) (k:zI c ops rest s' (tr++[⟨o,f,wr,ft⟩]) Q):zI c ops (o::rest) s tr Q:=by
 obtain ⟨kN,kp,hx,hq⟩:=k;refine ⟨_,kp,.step hw h.dst h.lt h.tk (hs▸hx),?_⟩;rw [hf];simpa using hq
theorem zn.skip {Q:ae→Prop} {s' : ae} (hw:ZC ops s o false) (hd:∀ d,o.dst=some d→d<c.N) (hs:s.app o.dst (.bS []) []=s') (k:zn c ops rest s' Q):zn c ops (o::rest) s Q:=fun QQ w0 J a w β hQ hF=>by
 unfold wpList;rw [if_neg (by rw [hw.model hF];decide)];refine k QQ w0 J _ w β hQ (hs▸?_);unfold ae.app;cases hdd:o.dst with
 | none => exact hF
 | some d => exact hF.put (hd d hdd) (VR.bt (Rd.bS [] [] rfl zg) rfl) (fun id aa e => by cases e)
theorem zI.skip {Q:ae→List Rec→Prop} {s' : ae} (hw:ZC ops s o false) (hd:∀ d,o.dst=some d→d<c.N) (hs:s.app o.dst (.bS []) []=s') (k:zI c ops rest s' (tr++[⟨o,.bS [],[],[]⟩]) Q):zI c ops (o::rest) s tr Q:=by
 obtain ⟨kN,kp,hx,hq⟩:=k;refine ⟨_,kp,.skip hw hd (hs▸hx),?_⟩;simpa using hq
end
def FV.flat:FV→Bool
 | .int _ _|.bool _|.str _|.nil => true
 | .agg cs => c5 cs
 | .bS cs => c5 cs
 | .iface _ f => f.flat
 | _ => false
where c5:List FV→Bool
 | [] => true
 | f :: fs => f.flat && c5 fs
theorem FV.cS:∀ {fs:List FV},FV.flat.c5 fs=true→∀ (j:Nat) f,fs[j]? = some f→f.flat=true
 | [], _, j, f, h => by simp at h
 | g :: fs, h, 0, f, hf => by simp only [FV.flat.c5, zU] at h; simp at hf; subst hf; exact h.1
 | g :: fs, h, j+1, f, hf => by simp only [FV.flat.c5, zU] at h; simp at hf; exact FV.cS h.2 j f hf
theorem Rd.flat {v:Value} {f:FV} (h:Rd w I v f):f.flat=true→∀ (w' : World) (I' : Nat→Prop),Rd w' I' v f:=by
 induction h with
 | undef v => intro hf; simp [FV.flat] at hf
 | int k n => exact fun _ _ _ => .int k n
 | bool b => exact fun _ _ _ => .bool b
 | str s => exact fun _ _ _ => .str s
 | nil => exact fun _ _ _ => .nil
 | cm => exact fun _ _ _ => .cm
 | ak => exact fun _ _ _ => .ak
 | list => intro hf; simp [FV.flat] at hf
 | ay => intro hf; simp [FV.flat] at hf
 | perm => intro hf; simp [FV.flat] at hf
 | dP => intro hf; simp [FV.flat] at hf
 | iD => intro hf; simp [FV.flat] at hf
 | smap => intro hf; simp [FV.flat] at hf
 | fn => intro hf; simp [FV.flat] at hf
 | iface t v f hr ih => exact fun hf w' I' => .iface t v f (ih (by simpa [FV.flat] using hf) w' I')
 | agg us fs hl hr ih => exact fun hf w' I' => .agg us fs hl fun j u f hu fN => ih j u f hu fN (FV.cS hf j f fN) w' I'
 | bS us fs hl hr ih => exact fun hf w' I' => .bS us fs hl fun j u f hu fN => ih j u f hu fN (FV.cS hf j f fN) w' I'
theorem FV.iG {f:FV} (h:f.flat=true):f.hand=none:=by cases f <;> first|rfl|(simp [FV.flat] at h)
inductive lK (c:Ctx) (s:ae):ResultVar→FV→Prop where
 | tmp (t:Nat) {f:FV} (h:s.get t=f) (hn:f.hand=none):lK c s (.tmp t) f
 | cell (t T:Nat) {bb:Bool} (hk:(c.ty T).k.aX = some bb) {id aa j o:Nat} (h:s.get t=.ptr id aa j o) (hl:s.live id aa) (bo:(s.ob id).ag.row=true) (hj:j<(s.ob id).es.length) (ho:o+(c.ty T).size≤(s.ob id).sz) (eG : o<(s.ob id).sz) :
   lK c s (.cell t T) (Zl (c.ty T) (((s.ob id).es.getD j []).drop o))
inductive ku (c:Ctx) (s:ae):List ResultVar→List FV→Prop where
 | nil:ku c s [] []
 | cons {r:ResultVar} {rs:List ResultVar} {f:FV} {fs:List FV} (h:lK c s r f) (hs:ku c s rs fs):ku c s (r :: rs) (f :: fs)
def pj:List FV→FV
 | [f] => f
 | fs => .bS fs
def o9 (tmps:Array Value):ResultVar→Sem Value
 | .tmp t => pure (tmps.getD t undef)
 | .cell a t => do loadVar t (← asAddr (tmps.getD a undef))
section
variable {c:Ctx} {w0 w:World} {J:JJ} {s:ae} {a:Act} {β:Nat→Option Nat}
theorem lK.run (hF:FR c.N w0 J s a w β) {r:ResultVar} {f:FV} (h:lK c s r f):∃ v,(o9 a.tmps r).run c.P w=.ok v w∧Rd w (aG J w β s) v f:=by
 cases h with
 | tmp t h hn => exact ⟨_, rfl, hF.bg (x := .tmp t) h hn⟩
 | cell t T hk h hl bo hj ho eG=>
  obtain ⟨v,w',aE,h1,h2,h3,h4⟩:=WO (dst:=none) (ty:=0) (pos:="") (after:=#[]) (g:=none) hF hk (.tmp t) h hl bo hj ho eG;obtain ⟨lq,b,hb,hv⟩:=hF.bV (x:=.tmp t) h hl.1 hl.2;rename_i id aa j o;obtain ⟨cur,cap,a9,hn,hm,bj,hr,aw⟩:=hF.block hl.1 bo hb;have hw:=((hF.obj id hl.1).bA bo).wide;have hd:=hr.drop (j * (s.ob id).sz+o);rw [Xh _ hw j o hj zc] at hd;have hlen:(((s.ob id).es.getD j []).drop o).length=(s.ob id).sz - o:=by rw [Xz,VX hw hj]
  have kJ:=hd.1;rw [yL,hlen] at kJ;obtain ⟨v,r1,r2⟩:=Wp hk w b (j * (s.ob id).sz+o) ((cur.toList.take ((s.ob id).es.length * (s.ob id).sz)).drop (j * (s.ob id).sz+o)) zc (fun _=>by omega) (fun i u hu=>by
   rw [xY,xg] at hu;rw [cell_of_row w b _ cur (s.ob id).E (0,0) a9];split at hu
   ·simpa using hu
   ·cases hu) hd
  rw [Xm zc (fun e=>by rw [e] at hlen;simp at hlen;omega)] at r2;have iw : a.tmps.getD t undef=.pointer (some ⟨b,j * (s.ob id).sz+o,none⟩):=hv;refine ⟨v,?_,r2⟩;simp only [o9,iw,asAddr,Zx,Zy,Yu];exact r1
theorem ku.run (hF:FR c.N w0 J s a w β):∀ {rs:List ResultVar} {fs:List FV},ku c s rs fs→∃ vs,(rs.mapM (o9 a.tmps)).run c.P w=.ok vs w∧aD w (aG J w β s) vs fs
 | _, _, .nil => ⟨[], rfl, aD.nil⟩
 | _, _, .cons h hs => by
  obtain ⟨v,h1,h2⟩:=h.run hF;obtain ⟨vs,h3,h4⟩:=ku.run hF hs;exact ⟨v::vs,by simp [List.mapM_cons,h1,h3],aD.cons h2 h4⟩
theorem YT (hF:FR c.N w0 J s a w β) (fn:Func) {fs:List FV} (h:ku c s fn.results.toList fs):∃ v,(results fn a.tmps).run c.P w=.ok v w∧Rd w (aG J w β s) v (pj fs):=by
 obtain ⟨vs,h1,h2⟩:=h.run hF;have e:results fn a.tmps=(do let vs ← fn.results.mapM (o9 a.tmps);pure (if h:vs.size=1 then vs[0] else .tuple vs)):=by
  unfold results;congr 1
 have h3:(fn.results.mapM (o9 a.tmps)).run c.P w=.ok vs.toArray w:=by
  rw [Array.mapM_eq_mapM_toList];simp [h1]
 rw [e];refine ⟨if h:vs.toArray.size=1 then vs.toArray[0] else .tuple vs.toArray,by simp [h3],?_⟩;have hl:=h2.1;split
 ·rename_i hs
  match vs,fs,hl,h2 with
  | [v], [f], _, h2 => exact h2.2 0 v f rfl rfl
  | [], _, _, _ => simp at hs
  | _ :: _ :: _, _, _, _ => simp at hs
  | [_], [], hl, _ => simp at hl
  | [_], _ :: _ :: _, hl, _ => simp at hl
 ·rename_i hs;have:pj fs=.bS fs:=by
   match fs,hl with
   | [], _ => rfl
   | [f], hl => exact absurd (by simpa using hl) hs
   | _ :: _ :: _, _ => rfl
  rw [this];exact .bS vs fs h2.1 h2.2
end
def entry (args:List FV):ae:=⟨args.zipIdx.map fun p=>(p.2,p.1),[]⟩
theorem Un (args:List FV) (d:Nat):(entry args).get d=args.getD d .undef:=by
 have key:∀ (l:List FV) (k d:Nat),look FV.undef ((l.zipIdx k).map fun p=>(p.2,p.1)) d=if k≤d then l.getD (d - k) .undef else .undef:=by
  intro l
  induction l with
  | nil => intro k d; simp [look]
  | cons f l ih=>
   intro k d;rw [List.zipIdx_cons,zH,zN,ih];by_cases h:k=d
   ·subst h;simp
   ·rw [if_neg h];by_cases hk:k≤d
    ·rw [if_pos zc,if_pos hk,show d - k=(d - (k+1))+1 by omega,List.getD_cons_succ]
    ·rw [if_neg zc,if_neg hk]
 have:=key args 0 d;simpa [entry,ae.get] using this
structure w5 (c:Ctx) (f:Nat) (fn:Func) (code:Code):Prop where
 at_:c.P.funcs[f]? = some fn
 b:fn.body=some code
 n:fn.ntmps=c.N
 g:nK c.P f=true
theorem FR.entry {N:Nat} (hI:∀ b,I b→b<w.heap.size) {vs:List Value} {args:List FV} (h:aD w I vs args) (hn:∀ f∈args,f.hand=none) (hl:args.length≤N) :
  FR N w { ok:=fun b=>I b∨w.heap.size≤b } (entry args) { tmps:=vs.toArray++Array.replicate (N - vs.toArray.size) undef,defers:=[] } w (fun _=>none) where
 size:=by have:=h.1;simp;omega
 defers:=rfl
 bL:=Xv _ _
 cB b hb:=.inl (.inr hb)
 slot d:=by
  rw [Un];have mf:∀ b,I b→aG { ok:=fun b=>I b∨w.heap.size≤b } w (fun _=>none) (YtedkppfghdipdaaGreatDoor.entry args) b∧w.heap[b]? = w.heap[b]?:=fun b hb=>⟨⟨hI b hb,.inl hb,fun id _=>by simp⟩,rfl⟩
  rcases yJ d args.length with hd|hd
  ·have na : d<vs.length:=by rw [h.1];exact hd
   have e1:args.getD d .undef=args[d]:=by simp [hd]
   have e2:(vs.toArray++Array.replicate (N - vs.toArray.size) undef).getD d undef=vs[d]:=by
    rw [YG,wj (by simpa using na)];simp [na]
   rw [e1,e2];exact VR.bt ((h.2 d _ _ (by simp [na]) (by simp [hd])).mono mf) (hn _ (yR hd))
  ·have e1:args.getD d .undef=.undef:=by simp [hd]
   rw [e1];exact VR.bt (.undef _) rfl
 bP d id aa hf:=by
  rw [Un] at hf;rcases yJ d args.length with hd|hd
  ·have e1:args.getD d .undef=args[d]:=by simp [hd]
   rw [e1] at hf;exact (FV.aT (hn _ (yR hd)) hf).elim
  ·have e1:args.getD d .undef=.undef:=by simp [hd]
   rw [e1] at hf;cases hf
 obj id hl:=absurd rfl hl
 inj id aM b hl:=absurd rfl hl
 kept b hb:=hb.elim
 gh v f hg:=hg.elim
inductive jr (c:Ctx) (fn:Func) (s:ae):eW→FV→Prop where
 | flat {fs:List FV} {f:FV} (h:ku c s fn.results.toList fs) (he:pj fs=f) (hf:f.flat=true):jr c fn s .fr f
 | sh {fs:List FV} {f:FV} (h:ku c s fn.results.toList fs) (he:pj fs=f) (hf:f.hand=none):jr c fn s .sh f
 | ow {t id aa n:Nat} (hr:fn.results.toList=[.tmp t]) (h:s.get t=.own id aa 0 n) (hl:(s.ob id).ag=.own) (hv:(s.ob id).aa=aa) (hn:n=(s.ob id).es.length) (hp:0<(s.ob id).sz) (kY:∀ e∈(s.ob id).es,FV.flat.c5 e=true) :
   jr c fn s (.ow (s.ob id).E (s.ob id).sz) (.list (s.ob id).sz (s.ob id).es)
 | oZ {t:Nat} (E sz:Nat) (hr:fn.results.toList=[.tmp t]) (h:s.get t=.nil):jr c fn s (.ow E sz) (.list sz [])
theorem BU {es:List (List FV)} (h:∀ e∈es,FV.flat.c5 e=true):∀ f∈es.flatten,f.flat=true:=by
 intro f hf;obtain ⟨e,he,kh⟩:=xi.1 hf;obtain ⟨j,hj,rfl⟩:=yS kh;exact FV.cS (h e he) j _ (by simp [hj])
theorem zP.eh {c:Ctx} {f:Nat} {fn:Func} (hf:w5 c f fn code) {args:List FV} {m:eW} {res:FV} (hn:∀ f∈args,f.hand=none) (hl:args.length≤c.N) (hh:res.hand=none)
  (h:FW c code (fun e s=>(e=.ret∨e=.normal)∧jr c fn s m res) (entry args)):zP c.P f args m res where
 go:=hf.g
 hand:=hh
 calls w I vs hI hv:=by
  refine calls_of_wp hf.at_ hf.b ?_;rw [hf.n];refine wp_mono (WK c.mixed (h w _ _ w _ (FR.entry hI hv hn hl))) ?_;rintro e a' w' ⟨s',aE,⟨he,hr⟩,hF⟩;have key:a'.defers=[]∧∃ v,(results fn a'.tmps).run c.P w'=.ok v w'∧∃ v',Ending.returned v=.returned v'∧Below w.heap.size w w'∧qi w w' I m v' res:=by
   refine ⟨hF.defers,?_⟩;cases hr with
   | flat mv he bY =>
    obtain ⟨v,h1,h2⟩:=YT hF fn mv;rw [he] at h2;exact ⟨v,h1,v,rfl,hF.bL,h2.flat bY _ _⟩
   | sh mv he bY =>
    obtain ⟨v,h1,h2⟩:=YT hF fn mv;rw [he] at h2;refine ⟨v,h1,v,rfl,hF.bL,h2.mono fun b hb=>⟨?_,rfl⟩⟩;rcases hb.2.1 with h|h
    ·exact .inl h
    ·exact .inr ⟨h,hb.1⟩
   | @ow t id aa n mv hg tR hv hn hp kY=>
    have ah:(s'.ob id).ag≠.dead:=by rw [tR];decide
    obtain ⟨A,cc,e1,e2,e3,e4,e5⟩:=(hF.bE (x:=.tmp t) hg ah hv).ex;have bo:(s'.ob id).ag.row=true:=by rw [tR];rfl
    obtain ⟨v,us,r1,r2,r3⟩:=((hF.obj id ah).bA bo).row;have hw:=((hF.obj id ah).bA bo).wide;have bf:=((hF.obj id ah).bA bo).one;have rB:a'.tmps.getD t undef=v:=by
     have m4 : a'.tmps.getD t undef=.slice A n cc:=e1;rw [m4];rcases r1.2 with ⟨rfl,h0⟩|⟨b,cap,cur,rfl,_,eb,_,_,bj,_⟩
     ·have ig:aE id=none:=by rw [← r2];rfl
      obtain ⟨rfl,rfl⟩:=e4 ig;rw [hn,h0]
     ·have ig:aE id=some b:=by rw [← r2];rfl
      obtain ⟨o',rfl,k2,k3⟩:=e5 b ig;have:=k3 cur eb;rw [bj,yr] at this;have e7:cap=cc:=WA hp this;rw [k2 (.inr rfl),e7,hn];simp
    refine ⟨v,?_,v,rfl,hF.bL,_,us,rfl,hw,bf,r1,?_⟩
    ·have mq:fn.results=#[.tmp t]:=by apply ZP;simpa using mv
     rw [results_tmp mq,rB]
    ·have bY:=BU kY;exact ⟨r3.1,fun j u f hu hf=>(r3.2 j u f hu hf).flat (bY f (zZ hf)) _ _⟩
   | @oZ t E sz mv hg =>
    refine ⟨.slice none 0 0,?_,_,rfl,hF.bL,[],[],rfl,by simp,by simp,WH _ _ _ _,aD.nil⟩;have mq:fn.results=#[.tmp t]:=by apply ZP;simpa using mv
    rw [results_tmp mq];have:=hF.cK (x:=.tmp t) hg;have:a'.tmps.getD t undef=.slice none 0 0:=this;rw [this]
  rcases he with rfl|rfl
  ·exact key
  ·exact key
end Go.Proofs.YtedkppfghdipdaaGreatDoor
