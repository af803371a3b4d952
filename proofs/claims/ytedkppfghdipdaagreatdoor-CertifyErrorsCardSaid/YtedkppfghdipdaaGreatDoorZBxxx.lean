/-
  Code and functions on plain values.
-/
import Derived.Test.YtedkppfghdipdaaGreatDoorZB
namespace Go.Proofs.YtedkppfghdipdaaGreatDoor
set_option linter.unusedVariables false
set_option maxHeartbeats 16000000
open Go.RowKit
variable {s' : ab} {code x y:Code} {fQ:Operand} {l:List Oper} {Q:ab→Prop} {w:World} {I:Nat→Prop}
def FW (c:Ctx) (code:Code) (Q:Exit→ab→Prop) (s:ab):Prop:=
 ∀ (w0:World) (J:JJ) (a:Act) (w:World) (β:Nat→Option Nat),FR c.N w0 J s a w β→kj c.P code (fun e a' w'=>∃ s' aS,Q e s'∧FR c.N w0 J s' a' w' aS) a w
def aL (s s' : ab):Prop:=∀ (N:Nat) (w0:World) (J:JJ) (a:Act) (w:World) (β:Nat→Option Nat),FR N w0 J s a w β→∃ aS,FR N w0 J s' a w aS
theorem aL.trans {s ku : ab} (h:aL s s') (k:aL s' ku):aL s ku:=fun N w0 J a w β hF=>let ⟨_,h1⟩:=h N w0 J a w β hF;k N w0 J a w _ h1
def su (next:ab→Prop) (Q:Exit→ab→Prop):Exit→ab→Prop
 | .normal, s => next s
 | e, s => Q e s
def vk (id:Nat) (Q:Exit→ab→Prop):Exit→ab→Prop
 | .exit ba, s => if ba=id then Q .normal s else Q (.exit ba) s
 | e, s => Q e s
section
variable {c:Ctx} {Q:Exit→ab→Prop} {s:ab}
theorem FW.le (h:FW c code Q s') (hs:aL s s'):FW c code Q s:=fun w0 J a w β hF=>let ⟨aS,h1⟩:=hs _ _ _ _ _ _ hF;h w0 J a w aS h1
theorem FW.mono {Q' : Exit→ab→Prop} (h:FW c code Q s) (hq:∀ e s,Q e s→Q' e s):FW c code Q' s:=fun w0 J a w β hF=>
 xd (h w0 J a w β hF) fun _ _ _ ⟨s',aS,q,f⟩=>⟨s',aS,hq _ _ q,f⟩
theorem FW.skip (h:Q .normal s):FW c .skip Q s:=fun _ _ _ _ β hF=>⟨s,β,h,hF⟩
theorem FW.exit {id:Nat} (h:Q (.exit id) s):FW c (.exit id) Q s:=fun _ _ _ _ β hF=>⟨s,β,h,hF⟩
theorem FW.ret (h:Q .ret s):FW c .ret Q s:=fun _ _ _ _ β hF=>⟨s,β,h,hF⟩
theorem FW.seq (h:FW c x (su (FW c y Q) Q) s):FW c (.seq x y) Q s:=fun w0 J a w β hF=>
 xd (c:=x) (h w0 J a w β hF) fun e a' w' ⟨s',aS,q,f⟩=>by
  cases e with
  | normal => exact q w0 J a' w' aS f
  | _ => exact ⟨s', aS, q, f⟩
theorem FW.block {id:Nat} (h:FW c x (vk id Q) s):FW c (.block id x) Q s:=fun w0 J a w β hF=>
 xd (c:=x) (h w0 J a w β hF) fun e a' w' ⟨s',aS,q,f⟩=>by
  cases e with
  | exit ba =>
   simp only [Exit.inBlock];simp only [vk] at q;split
   ·rename_i e;rw [if_pos e] at q;exact ⟨s',aS,q,f⟩
   ·rename_i e;rw [if_neg e] at q;exact ⟨s',aS,q,f⟩
  | _ => exact ⟨s', aS, q, f⟩
theorem FW.cond {b:Bool} (hc:s.ev fQ=.bool b) (ht:b=true→FW c x Q s) (hf:b=false→FW c y Q s):FW c (.cond fQ x y) Q s:=fun w0 J a w β hF=>
 ⟨b,hF.cL hc,fun e=>ht e w0 J a w β hF,fun e=>hf e w0 J a w β hF⟩
theorem FW.k6 (hc:s.ev fQ=.bool true) (ht:FW c x Q s):FW c (.cond fQ x y) Q s:=FW.cond hc (fun _=>ht) (fun h=>by cases h)
theorem FW.hJ (hc:s.ev fQ=.bool false) (ht:FW c y Q s):FW c (.cond fQ x y) Q s:=FW.cond hc (fun h=>by cases h) (fun _=>ht)
theorem FW.loop {σ:Type} {body:Code} (inv:σ→ab) (pre:σ→Prop) (μ:σ→Nat) (x0:σ) (h0:pre x0) (hs:aL s (inv x0))
  (round:∀ x,pre x→FW c body (su (fun s'=>∃ x',pre x'∧μ x'<μ x∧aL s' (inv x')) Q) (inv x)):FW c (.loop body) Q s:=fun w0 J a w β hF=>by
 obtain ⟨Ex,wj⟩:=hs _ _ _ _ _ _ hF;refine ⟨fun n a w=>∃ x,pre x∧μ x=n∧∃ β,FR c.N w0 J (inv x) a w β,μ x0,⟨x0,h0,rfl,Ex,wj⟩,?_⟩;rintro n a w ⟨x,hp,rfl,β,hF⟩;refine xd (c:=body) (round x hp w0 J a w β hF) fun e a' w' ⟨s',aS,q,f⟩=>?_;cases e with
 | normal =>
  obtain ⟨x',h1,h2,h3⟩:=q;obtain ⟨sC,qd⟩:=h3 _ _ _ _ _ _ f;exact ⟨μ x',h2,x',h1,rfl,sC,qd⟩
 | _ => exact ⟨s', aS, q, f⟩
theorem FW.join {ι:Type} (sR:ι→ab) (pre:ι→Prop) (h1:FW c x (fun e s'=>e=.normal∧∃ i,pre i∧aL s' (sR i)) s) (h2:∀ i,pre i→FW c y Q (sR i)):FW c x (su (FW c y Q) Q) s:=
 h1.mono fun e s' h=>by
  obtain ⟨rfl,i,hp,hle⟩:=h;exact (h2 i hp).le hle
def zx (c:Ctx) (ops:Array Oper) (l:List Oper) (s:ab) (Q:ab→Prop):Prop:=
 ∀ (QQ:Exit→Act→World→Prop) (w0:World) (J:JJ) (a:Act) (w:World) (β:Nat→Option Nat),(∀ s a w β,Q s→FR c.N w0 J s a w β→QQ .normal a w)→FR c.N w0 J s a w β→wpList c.P ops QQ l a w
def zG (c:Ctx) (ops:Array Oper) (l:List Oper) (s:ab) (tr:List Rec) (Q:ab→List Rec→Prop):Prop:=∃ kR s',iT c ops s l kR s'∧Q s' (tr++kR)
theorem FW.region {id:Nat} (h:zx c l.toArray l s (Q .normal)):FW c (.region id l.toArray false) Q s:=fun w0 J a w β hF=>
 h (iw fun a' w'=>∃ s' aS,Q .normal s'∧FR c.N w0 J s' a' w' aS) w0 J a w β (fun s a w β q f=>⟨s,β,q,f⟩) hF
theorem FW.draw {id:Nat} (h:zG c l.toArray l s [] fun s' tr=>Ym l.toArray tr=true∧Q .normal s'):FW c (.region id l.toArray true) Q s:=fun w0 J a w β hF=>by
 obtain ⟨tr,s',hx,cW,hq⟩:=h;exact BA (Q:=iw fun a' w'=>∃ s' aS,Q .normal s'∧FR c.N w0 J s' a' w' aS) (ops:=l.toArray) (by simpa using hx) (by simpa using cW) (fun a w β f=>⟨s',β,hq,f⟩) hF
end
structure nv (c:Ctx) (s:ab) (o:Oper) (f:FV) (wr:List (Nat×yo)) (d:Nat):Prop where
 dst:o.dst=some d∨(o.dst=none∧mO o.op)
 lt:∀ d,o.dst=some d→d<c.N
 sP:ax c s d o.op f wr
section
variable {c:Ctx} {ops:Array Oper} {s:ab} {o:Oper} {rest:List Oper} {f:FV} {wr:List (Nat×yo)} {d:Nat} {tr:List Rec}
theorem zx.nil {Q:ab→Prop} (h:Q s):zx c ops [] s Q:=fun _ _ _ a w β hQ hF=>hQ s a w β h hF
theorem zx.le (h:zx c ops l s' Q) (hs:aL s s'):zx c ops l s Q:=fun QQ w0 J a w β hQ hF=>let ⟨aS,h1⟩:=hs _ _ _ _ _ _ hF;h QQ w0 J a w aS hQ h1
theorem zG.nil {Q:ab→List Rec→Prop} (h:Q s tr):zG c ops [] s tr Q:=⟨[],s,.nil s,by rw [Yu];exact h⟩
theorem zx.cons (h:nv c s o f wr d) (hw:Zf ops s o true) (hs:s.app o.dst f wr=s') (k:zx c ops rest s' Q):zx c ops (o::rest) s Q:=fun QQ w0 J a w β hQ hF=>by
 unfold wpList;rw [if_pos (hw.model hF)];exact .inl (h.sP.sound hF o rfl h.dst h.lt fun a' w' aS iz=>k QQ w0 J a' w' aS hQ (hs▸iz))
theorem zG.cons {Q:ab→List Rec→Prop} {ft:List Nat} (h:nv c s o f wr d) (hw:Zf ops s o true) (hs:s.app o.dst f wr=s') (hf:Xe s d o.op=ft) (k:zG c ops rest s' (tr++[⟨o,f,wr,ft⟩]) Q):zG c ops (o::rest) s tr Q:=by
 obtain ⟨kR,ku,hx,hq⟩:=k;refine ⟨_,ku,.step hw h.dst h.lt h.sP (hs▸hx),?_⟩;rw [hf];simpa using hq
theorem zx.skip {Q:ab→Prop} {s' : ab} (hw:Zf ops s o false) (hd:∀ d,o.dst=some d→d<c.N) (hs:s.app o.dst (.bN []) []=s') (k:zx c ops rest s' Q):zx c ops (o::rest) s Q:=fun QQ w0 J a w β hQ hF=>by
 unfold wpList;rw [if_neg (by rw [hw.model hF];decide)];refine k QQ w0 J _ w β hQ (hs▸?_);unfold ab.app;cases hdd:o.dst with
 | none => exact hF
 | some d => exact hF.put (hd d hdd) (VR.bu (Rd.bN [] [] rfl zd) rfl) (fun id aa e => by cases e)
theorem zG.skip {Q:ab→List Rec→Prop} {s' : ab} (hw:Zf ops s o false) (hd:∀ d,o.dst=some d→d<c.N) (hs:s.app o.dst (.bN []) []=s') (k:zG c ops rest s' (tr++[⟨o,.bN [],[],[]⟩]) Q):zG c ops (o::rest) s tr Q:=by
 obtain ⟨kR,ku,hx,hq⟩:=k;refine ⟨_,ku,.skip hw hd (hs▸hx),?_⟩;simpa using hq
end
def FV.flat:FV→Bool
 | .int _ _|.bool _|.str _|.nil => true
 | .agg cs => cX cs
 | .bN cs => cX cs
 | .iface _ f => f.flat
 | _ => false
where cX:List FV→Bool
 | [] => true
 | f :: fs => f.flat && cX fs
theorem FV.cN:∀ {fs:List FV},FV.flat.cX fs=true→∀ (j:Nat) f,fs[j]? = some f→f.flat=true
 | [], _, j, f, h => by simp at h
 | g :: fs, h, 0, f, hf => by simp only [FV.flat.cX, zA] at h; simp at hf; subst hf; exact h.1
 | g :: fs, h, j+1, f, hf => by simp only [FV.flat.cX, zA] at h; simp at hf; exact FV.cN h.2 j f hf
theorem Rd.flat {v:Value} {f:FV} (h:Rd w I v f):f.flat=true→∀ (w' : World) (I' : Nat→Prop),Rd w' I' v f:=by
 induction h with
 | undef v => intro hf; simp [FV.flat] at hf
 | int k n => exact fun _ _ _ => .int k n
 | bool b => exact fun _ _ _ => .bool b
 | str s => exact fun _ _ _ => .str s
 | nil => exact fun _ _ _ => .nil
 | bW => exact fun _ _ _ => .bW
 | ao => exact fun _ _ _ => .ao
 | list => intro hf; simp [FV.flat] at hf
 | aK => intro hf; simp [FV.flat] at hf
 | perm => intro hf; simp [FV.flat] at hf
 | dW => intro hf; simp [FV.flat] at hf
 | kZ => intro hf; simp [FV.flat] at hf
 | smap => intro hf; simp [FV.flat] at hf
 | fn => intro hf; simp [FV.flat] at hf
 | iface t v f hr ih => exact fun hf w' I' => .iface t v f (ih (by simpa [FV.flat] using hf) w' I')
 | agg us fs hl hr ih => exact fun hf w' I' => .agg us fs hl fun j u f hu nO => ih j u f hu nO (FV.cN hf j f nO) w' I'
 | bN us fs hl hr ih => exact fun hf w' I' => .bN us fs hl fun j u f hu nO => ih j u f hu nO (FV.cN hf j f nO) w' I'
theorem FV.ix {f:FV} (h:f.flat=true):f.hand=none:=by cases f <;> first|rfl|(simp [FV.flat] at h)
inductive nh (c:Ctx) (s:ab):ResultVar→FV→Prop where
 | tmp (t:Nat) {f:FV} (h:s.get t=f) (hn:f.hand=none):nh c s (.tmp t) f
 | cell (t T:Nat) {bb:Bool} (hk:(c.ty T).k.aW = some bb) {id aa j o:Nat} (h:s.get t=.ptr id aa j o) (hl:s.live id aa) (bl:(s.ob id).ag.row=true) (hj:j<(s.ob id).es.length) (ho:o+(c.ty T).size≤(s.ob id).sz) (bX : o<(s.ob id).sz) :
   nh c s (.cell t T) (Zn (c.ty T) (((s.ob id).es.getD j []).drop o))
inductive UG (c:Ctx) (s:ab):List ResultVar→List FV→Prop where
 | nil:UG c s [] []
 | cons {r:ResultVar} {rs:List ResultVar} {f:FV} {fs:List FV} (h:nh c s r f) (hs:UG c s rs fs):UG c s (r :: rs) (f :: fs)
def pJ:List FV→FV
 | [f] => f
 | fs => .bN fs
def oN (tmps:Array Value):ResultVar→Sem Value
 | .tmp t => pure (tmps.getD t undef)
 | .cell a t => do loadVar t (← asAddr (tmps.getD a undef))
section
variable {c:Ctx} {w0 w:World} {J:JJ} {s:ab} {a:Act} {β:Nat→Option Nat}
theorem nh.run (hF:FR c.N w0 J s a w β) {r:ResultVar} {f:FV} (h:nh c s r f):∃ v,(oN a.tmps r).run c.P w=.ok v w∧Rd w (aR J w β s) v f:=by
 cases h with
 | tmp t h hn => exact ⟨_, rfl, hF.a9 (x := .tmp t) h hn⟩
 | cell t T hk h hl bl hj ho bX=>
  obtain ⟨v,w',aS,h1,h2,h3,h4⟩:=XA (dst:=none) (ty:=0) (pos:="") (after:=#[]) (g:=none) hF hk (.tmp t) h hl bl hj ho bX;obtain ⟨lA,b,hb,hv⟩:=hF.cb (x:=.tmp t) h hl.1 hl.2;rename_i id aa j o;obtain ⟨cur,cap,bh,hn,hm,bj,hr,aJ⟩:=hF.block hl.1 bl hb;have hw:=((hF.obj id hl.1).bA bl).wide;have hd:=hr.drop (j * (s.ob id).sz+o);rw [Ye _ hw j o hj za] at hd;have hlen:(((s.ob id).es.getD j []).drop o).length=(s.ob id).sz - o:=by rw [Yx,WL hw hj]
  have kN:=hd.1;rw [zH,hlen] at kN;obtain ⟨v,r1,r2⟩:=Xa hk w b (j * (s.ob id).sz+o) ((cur.toList.take ((s.ob id).es.length * (s.ob id).sz)).drop (j * (s.ob id).sz+o)) za (fun _=>by omega) (fun i u hu=>by
   rw [xx,yD] at hu;rw [cell_of_row w b _ cur (s.ob id).E (0,0) bh];split at hu
   ·simpa using hu
   ·cases hu) hd
  rw [Yl za (fun e=>by rw [e] at hlen;simp at hlen;omega)] at r2;have iq : a.tmps.getD t undef=.pointer (some ⟨b,j * (s.ob id).sz+o,none⟩):=hv;refine ⟨v,?_,r2⟩;simp only [oN,iq,asAddr,yV,yW,xZ];exact r1
theorem UG.run (hF:FR c.N w0 J s a w β):∀ {rs:List ResultVar} {fs:List FV},UG c s rs fs→∃ vs,(rs.mapM (oN a.tmps)).run c.P w=.ok vs w∧ay w (aR J w β s) vs fs
 | _, _, .nil => ⟨[], rfl, ay.nil⟩
 | _, _, .cons h hs => by
  obtain ⟨v,h1,h2⟩:=h.run hF;obtain ⟨vs,h3,h4⟩:=UG.run hF hs;exact ⟨v::vs,by simp [List.mapM_cons,h1,h3],ay.cons h2 h4⟩
theorem Vz (hF:FR c.N w0 J s a w β) (fn:Func) {fs:List FV} (h:UG c s fn.results.toList fs):∃ v,(results fn a.tmps).run c.P w=.ok v w∧Rd w (aR J w β s) v (pJ fs):=by
 obtain ⟨vs,h1,h2⟩:=h.run hF;have e:results fn a.tmps=(do let vs ← fn.results.mapM (oN a.tmps);pure (if h:vs.size=1 then vs[0] else .tuple vs)):=by
  unfold results;congr 1
 have h3:(fn.results.mapM (oN a.tmps)).run c.P w=.ok vs.toArray w:=by
  rw [Array.mapM_eq_mapM_toList];simp [h1]
 rw [e];refine ⟨if h:vs.toArray.size=1 then vs.toArray[0] else .tuple vs.toArray,by simp [h3],?_⟩;have hl:=h2.1;split
 ·rename_i hs
  match vs,fs,hl,h2 with
  | [v], [f], _, h2 => exact h2.2 0 v f rfl rfl
  | [], _, _, _ => simp at hs
  | _ :: _ :: _, _, _, _ => simp at hs
  | [_], [], hl, _ => simp at hl
  | [_], _ :: _ :: _, hl, _ => simp at hl
 ·rename_i hs;have:pJ fs=.bN fs:=by
   match fs,hl with
   | [], _ => rfl
   | [f], hl => exact absurd (by simpa using hl) hs
   | _ :: _ :: _, _ => rfl
  rw [this];exact .bN vs fs h2.1 h2.2
end
def entry (args:List FV):ab:=⟨args.zipIdx.map fun p=>(p.2,p.1),[]⟩
theorem ue (args:List FV) (d:Nat):(entry args).get d=args.getD d .undef:=by
 have key:∀ (l:List FV) (k d:Nat),look FV.undef ((l.zipIdx k).map fun p=>(p.2,p.1)) d=if k≤d then l.getD (d - k) .undef else .undef:=by
  intro l
  induction l with
  | nil => intro k d; simp [look]
  | cons f l ih=>
   intro k d;rw [List.zipIdx_cons,yn,zC,ih];by_cases h:k=d
   ·subst h;simp
   ·rw [if_neg h];by_cases hk:k≤d
    ·rw [if_pos za,if_pos hk,show d - k=(d - (k+1))+1 by omega,List.getD_cons_succ]
    ·rw [if_neg za,if_neg hk]
 have:=key args 0 d;simpa [entry,ab.get] using this
structure El (c:Ctx) (f:Nat) (fn:Func) (code:Code):Prop where
 at_:c.P.funcs[f]? = some fn
 b:fn.body=some code
 n:fn.ntmps=c.N
 g:oX c.P f=true
theorem FR.entry {N:Nat} (hI:∀ b,I b→b<w.heap.size) {vs:List Value} {args:List FV} (h:ay w I vs args) (hn:∀ f∈args,f.hand=none) (hl:args.length≤N) :
  FR N w { ok:=fun b=>I b∨w.heap.size≤b } (entry args) { tmps:=vs.toArray++Array.replicate (N - vs.toArray.size) undef,defers:=[] } w (fun _=>none) where
 size:=by have:=h.1;simp;omega
 defers:=rfl
 bn:=zQ _ _
 dL b hb:=.inl (.inr hb)
 slot d:=by
  rw [ue];have nU:∀ b,I b→aR { ok:=fun b=>I b∨w.heap.size≤b } w (fun _=>none) (YtedkppfghdipdaaGreatDoor.entry args) b∧w.heap[b]? = w.heap[b]?:=fun b hb=>⟨⟨hI b hb,.inl hb,fun id _=>by simp⟩,rfl⟩
  rcases yd d args.length with hd|hd
  ·have qp : d<vs.length:=by rw [h.1];exact hd
   have e1:args.getD d .undef=args[d]:=by simp [hd]
   have e2:(vs.toArray++Array.replicate (N - vs.toArray.size) undef).getD d undef=vs[d]:=by
    rw [YR,Array.getElem?_append_left (by simpa using qp)];simp [qp]
   rw [e1,e2];exact VR.bu ((h.2 d _ _ (by simp [qp]) (by simp [hd])).mono nU) (hn _ (yw hd))
  ·have e1:args.getD d .undef=.undef:=by simp [hd]
   rw [e1];exact VR.bu (.undef _) rfl
 di d id aa hf:=by
  rw [ue] at hf;rcases yd d args.length with hd|hd
  ·have e1:args.getD d .undef=args[d]:=by simp [hd]
   rw [e1] at hf;exact (FV.bf (hn _ (yw hd)) hf).elim
  ·have e1:args.getD d .undef=.undef:=by simp [hd]
   rw [e1] at hf;cases hf
 obj id hl:=absurd rfl hl
 inj id ba b hl:=absurd rfl hl
 kept b hb:=hb.elim
 gh v f hg:=hg.elim
inductive ki (c:Ctx) (fn:Func) (s:ab):fI→FV→Prop where
 | flat {fs:List FV} {f:FV} (h:UG c s fn.results.toList fs) (he:pJ fs=f) (hf:f.flat=true):ki c fn s .fr f
 | sh {fs:List FV} {f:FV} (h:UG c s fn.results.toList fs) (he:pJ fs=f) (hf:f.hand=none):ki c fn s .sh f
 | ow {t id aa n:Nat} (hr:fn.results.toList=[.tmp t]) (h:s.get t=.own id aa 0 n) (hl:(s.ob id).ag=.own) (hv:(s.ob id).aa=aa) (hn:n=(s.ob id).es.length) (hp:0<(s.ob id).sz) (lb:∀ e∈(s.ob id).es,FV.flat.cX e=true) :
   ki c fn s (.ow (s.ob id).E (s.ob id).sz) (.list (s.ob id).sz (s.ob id).es)
 | oJ {t:Nat} (E sz:Nat) (hr:fn.results.toList=[.tmp t]) (h:s.get t=.nil):ki c fn s (.ow E sz) (.list sz [])
theorem AV {es:List (List FV)} (h:∀ e∈es,FV.flat.cX e=true):∀ f∈es.flatten,f.flat=true:=by
 intro f hf;obtain ⟨e,he,kn⟩:=yE.1 hf;obtain ⟨j,hj,rfl⟩:=yr kn;exact FV.cN (h e he) j _ (by simp [hj])
theorem zX.kQ {c:Ctx} {f:Nat} {fn:Func} (hf:El c f fn code) {args:List FV} {m:fI} {res:FV} (hn:∀ f∈args,f.hand=none) (hl:args.length≤c.N) (hh:res.hand=none)
  (h:FW c code (fun e s=>(e=.ret∨e=.normal)∧ki c fn s m res) (entry args)):zX c.P f args m res where
 go:=hf.g
 hand:=hh
 calls w I vs hI hv:=by
  refine calls_of_wp hf.at_ hf.b ?_;rw [hf.n];refine wp_mono (Vb c.mixed (h w _ _ w _ (FR.entry hI hv hn hl))) ?_;rintro e a' w' ⟨s',aS,⟨he,hr⟩,hF⟩;have key:a'.defers=[]∧∃ v,(results fn a'.tmps).run c.P w'=.ok v w'∧∃ v',Ending.returned v=.returned v'∧Below w.heap.size w w'∧oP w w' I m v' res:=by
   refine ⟨hF.defers,?_⟩;cases hr with
   | flat mo he cz =>
    obtain ⟨v,h1,h2⟩:=Vz hF fn mo;rw [he] at h2;exact ⟨v,h1,v,rfl,hF.bn,h2.flat cz _ _⟩
   | sh mo he cz =>
    obtain ⟨v,h1,h2⟩:=Vz hF fn mo;rw [he] at h2;refine ⟨v,h1,v,rfl,hF.bn,h2.mono fun b hb=>⟨?_,rfl⟩⟩;rcases hb.2.1 with h|h
    ·exact .inl h
    ·exact .inr ⟨h,hb.1⟩
   | @ow t id aa n mo hg tB hv hn hp lb=>
    have ak:(s'.ob id).ag≠.dead:=by rw [tB];decide
    obtain ⟨A,cc,e1,e2,e3,e4,e5⟩:=(hF.bx (x:=.tmp t) hg ak hv).ex;have bl:(s'.ob id).ag.row=true:=by rw [tB];rfl
    obtain ⟨v,us,r1,r2,r3⟩:=((hF.obj id ak).bA bl).row;have hw:=((hF.obj id ak).bA bl).wide;have bI:=((hF.obj id ak).bA bl).one;have ri:a'.tmps.getD t undef=v:=by
     have mS : a'.tmps.getD t undef=.slice A n cc:=e1;rw [mS];rcases r1.2 with ⟨rfl,h0⟩|⟨b,cap,cur,rfl,_,dx,_,_,bj,_⟩
     ·have ia:aS id=none:=by rw [← r2];rfl
      obtain ⟨rfl,rfl⟩:=e4 ia;rw [hn,h0]
     ·have ia:aS id=some b:=by rw [← r2];rfl
      obtain ⟨o',rfl,k2,k3⟩:=e5 b ia;have:=k3 cur dx;rw [bj,zM] at this;have ql:cap=cc:=WF hp this;rw [k2 (.inr rfl),ql,hn];simp
    refine ⟨v,?_,v,rfl,hF.bn,_,us,rfl,hw,bI,r1,?_⟩
    ·have qZ:fn.results=#[.tmp t]:=by apply YQ;simpa using mo
     rw [results_tmp qZ,ri]
    ·have cz:=AV lb;exact ⟨r3.1,fun j u f hu hf=>(r3.2 j u f hu hf).flat (cz f (ya hf)) _ _⟩
   | @oJ t E sz mo hg =>
    refine ⟨.slice none 0 0,?_,_,rfl,hF.bn,[],[],rfl,by simp,by simp,yv _ _ _ _,ay.nil⟩;have qZ:fn.results=#[.tmp t]:=by apply YQ;simpa using mo
    rw [results_tmp qZ];have:=hF.cD (x:=.tmp t) hg;have:a'.tmps.getD t undef=.slice none 0 0:=this;rw [this]
  rcases he with rfl|rfl
  ·exact key
  ·exact key
end Go.Proofs.YtedkppfghdipdaaGreatDoor
