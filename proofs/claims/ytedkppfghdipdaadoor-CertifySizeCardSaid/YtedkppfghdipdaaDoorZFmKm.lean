/-
  Lemmas, in parts.
-/
import Derived.Test.YtedkppfghdipdaaDoorZFmKx
import Derived.Test.YtedkppfghdipdaaDoorZFmM
import Derived.Test.YtedkppfghdipdaaDoorZC
import Derived.DeepKeys4
import Derived.Maps.Keyed
namespace Go.Proofs.YtedkppfghdipdaaDoor
set_option linter.unusedVariables false
set_option maxHeartbeats 16000000
variable {o:Oper} {T d ft i off ty aa:Nat} {l:List aF} {R:List (Int×Int×FV)} {a b:Int} {pos:String} {af:Array Edge} {f kf vf:FV} {t:List (Nat×FV)} {ob:List (Nat×zS)} {es aO : List (List FV)} {fs:List (Nat×Nat)} {cs:List FV} {p:Int→Bool}
section
open Go.RowKit
def ab.mp (s:ab) (d aa T:Nat) (es:List (List FV)):ab:=⟨(d,.omap d aa)::s.t,(d,⟨aa,.aR,T,0,es⟩)::s.o⟩
theorem xB (s:ab) (d aa T:Nat) (es:List (List FV)) (k:Nat):(s.mp d aa T es).get k=if d=k then .omap d aa else s.get k:=zp _ _ _ _ _
theorem XI (s:ab) (d aa T:Nat) (es:List (List FV)) (k:Nat):(s.mp d aa T es).ob k=if d=k then ⟨aa,.aR,T,0,es⟩ else s.ob k:=zp _ _ _ _ _
def UF:Op→Bool
 | .insert .. => true
 | _ => false
def j0:Op→Bool
 | .makeMap .. => true
 | _ => false
def Wp (dm:Nat):Op→Bool
 | .move (.tmp t) => t == dm
 | _ => false
def Wq (r:Rec):List (List FV):=bif UF r.o.op then (match r.f with|.agg row=>[row]|_=>[]) else []
def xp (tr:List Rec) (S:Nat→Bool):Nat→List (List FV)
 | 0 => []
 | k+1 => xp tr S k ++ (if S k then Wq (tr.getD k default) else [])
theorem Yp {tr:List Rec} {S:Nat→Bool} {i:Nat} (hS:S i=false):∀ n,i<n→(xp tr (fun k=>k == i || S k) n).Perm (xp tr S n++Wq (tr.getD i default))
 | 0, h => by omega
 | n + 1,h=>by
  unfold xp;by_cases cn:i=n
  ·subst cn;have key:∀ m,m≤i→xp tr (fun k=>k == i || S k) m=xp tr S m:=by
    intro m
    induction m with
    | zero => intro _; rfl
    | succ m ih =>
     intro hm;unfold xp;have:(m == i)=false:=by simp;omega
     rw [ih zc,this];rfl
   rw [key i (zi _),hS];simp
  ·have ih:=Yp (tr:=tr) hS n zc;have:(n == i)=false:=by simp;omega
   rw [this,yI];refine (ih.append_right _).trans ?_;rw [zw,zw];exact List.Perm.append_left _ List.perm_append_comm
theorem Uc {tr:List Rec} {S S' : Nat→Bool} (h:∀ k,S k=true→S' k=true):∀ n,(xp tr S n).Sublist (xp tr S' n)
 | 0 => List.Sublist.refl _
 | n+1 => by
  unfold xp;refine (Uc h n).append ?_;by_cases hS:S n=true
  ·rw [if_pos hS,if_pos (h n hS)];exact List.Sublist.refl _
  ·rw [if_neg hS];exact List.nil_sublist _
theorem Ww {tr:List Rec} {S:Nat→Bool}:∀ n,(∀ k,k<n→S k=false)→xp tr S n=[]
 | 0, _ => rfl
 | n+1, h => by
  unfold xp;rw [Ww n (fun k hk=>h k zc),h n zc];rfl
theorem Ub {tr:List Rec} {S S' : Nat→Bool}:∀ n,(∀ k,k<n→S k=S' k)→xp tr S n=xp tr S' n
 | 0, _ => rfl
 | n+1, h => by
  unfold xp;rw [Ub n (fun k hk=>h k zc),h n zc]
theorem m6 {y:Nat→Option Bool} (hg:o.guard=none):Region.wanted o y=true:=by simp only [Region.wanted,hg]
def oG (c:Ctx) (ops:Array Oper) (dm T k aa:Nat) (s:ab) (r:Rec):Prop:=
 (UF r.o.op=false∧j0 r.o.op=false∧Wp dm r.o.op=false∧Wb c ops s r)∨
 (∃ d ty pos af,r=⟨⟨some d,.move (.tmp dm),ty,pos,af,none⟩,.omap dm aa,[],[]⟩∧d≠dm∧d<c.N)∨
 (∃ ty pos af,r=⟨⟨some dm,.makeMap T none,ty,pos,af,none⟩,.undef,[],[dm]⟩)∨
 (∃ y z kf vf ty pos af,r=⟨⟨none,.insert T (.tmp dm) y z,ty,pos,af,none⟩,.agg [kf,vf],[],[]⟩∧Zs c.P k kf∧y≠.tmp dm∧z≠.tmp dm∧s.ev y=kf∧s.ev z=vf∧vf.hand=none)
inductive WA (c:Ctx) (ops:Array Oper) (dm T k aa:Nat):ab→List Oper→List Rec→ab→Prop where
 | nil (s:ab):WA c ops dm T k aa s [] [] s
 | one {o:Oper} {rest:List Oper} {s s1 s2:ab} {lq gG:List Rec} (hi:UF o.op=false) (hm:j0 o.op=false) (hh:Wp dm o.op=false) (h:fu c ops s [o] lq s1) (hs:WA c ops dm T k aa s1 rest gG s2):WA c ops dm T k aa s (o :: rest) (lq ++ gG) s2
 | spec {r:Rec} {rest:List Oper} {s s2:ab} {gG:List Rec} (hr:oG c ops dm T k aa s r) (hs:WA c ops dm T k aa (s.fG r) rest gG s2):WA c ops dm T k aa s (r.o :: rest) (r :: gG) s2
theorem fu.single {c:Ctx} {ops:Array Oper} {s s' : ab} {tr:List Rec} (h:fu c ops s [o] tr s'):∃ r,tr=[r]∧s'=s.fG r∧r.o=o∧Wb c ops s r:=by
 obtain ⟨h1,h2,h3⟩:=h.at;rcases tr with _|⟨r,tr⟩
 ·cases h1
 ·rcases tr with _|⟨r2,tr⟩
  ·obtain ⟨k1,k2⟩:=h3 0 Nat.one_pos;exact ⟨r,rfl,h2,k1,k2⟩
  ·cases h1
theorem WA.at {c:Ctx} {ops:Array Oper} {dm k:Nat} {s:ab} {l:List Oper} {tr:List Rec} {s' : ab} (h:WA c ops dm T k aa s l tr s'):tr.length=l.length∧s'=sig tr s (fun _=>true) tr.length∧
  ∀ j,j<l.length→(tr.getD j default).o=l.getD j default∧oG c ops dm T k aa (sig tr s (fun _=>true) j) (tr.getD j default):=by
 induction h with
 | nil s => exact ⟨rfl, rfl, fun k hk => by simp at hk⟩
 | @one o rest s s1 s2 lq gG hi hm hh h hs ih=>
  obtain ⟨r,rfl,rfl,ho,hr⟩:=h.single;obtain ⟨h1,h2,h3⟩:=ih;refine ⟨by simp [h1],?_,fun j hj=>?_⟩
  ·rw [List.singleton_append,yK,xe];exact h2
  ·rw [List.singleton_append];cases j with
   | zero => exact ⟨ho, .inl ⟨by rw [ZR, ho]; exact hi, by rw [ZR, ho]; exact hm, by rw [ZR, ho]; exact hh, hr⟩⟩
   | succ j =>
    rw [xe];exact h3 j (by simpa using hj)
 | @spec r rest s s2 gG hr hs ih=>
  obtain ⟨h1,h2,h3⟩:=ih;refine ⟨by simp [h1],?_,fun j hj=>?_⟩
  ·rw [yK,xe];exact h2
  ·cases j with
   | zero => exact ⟨rfl, hr⟩
   | succ j =>
    rw [xe];exact h3 j (by simpa using hj)
def mS (ops:Array Oper) (dm:Nat) (r:Rec):Bool:=r.o.dst != some dm && !(r.o.looksAt ops).contains dm && !r.ft.contains dm && !(r.wr.map (·.1)).contains dm
def mL (ops:Array Oper) (dm mk:Nat) (tr:List Rec):Bool:=
 j0 (tr.getD mk default).o.op && (List.range tr.length).all fun i=>bif UF (tr.getD i default).o.op || Wp dm (tr.getD i default).o.op then (tr.getD i default).o.after.toList.any (fun e=>Region.binds .any e && e.on == mk) else bif j0 (tr.getD i default).o.op then i == mk else mS ops dm (tr.getD i default)
section
variable {c:Ctx} {w0:World} {J:JJ} {ops:Array Oper} {Q:Exit→Act→World→Prop}
theorem qt {s0 s' : ab} {tr:List Rec} {dm k e mk:Nat} {R:List (List FV)} (hT:(c.ty T).k=.map k e) (K:Maps.Keyed c.P k) (fR:dm<c.N) (hx:WA c ops dm T k aa s0 ops.toList tr s') (dC:Za ops tr=true) (jf:mL ops dm mk tr=true)
  (az:(s0.ob dm).aa+1=aa) (hR:xp tr (fun _=>true) tr.length=R) (cJ:∀ row∈R,∀ kf,row.head? = some kf→Zs c.P k kf) (hd:R.Pairwise fun a b=>a.head?≠b.head?) (pd:mk<tr.length)
  (hQ:∀ es a w β,es.Perm R→FR c.N w0 J (s'.mp dm aa T es) a w β→Q .normal a w) {a:Act} {w:World} {β:Nat→Option Nat} (hF:FR c.N w0 J s0 a w β) :
  wpAny c.P .any ops Q ops.size (Array.replicate ops.size false) a { w with drawn:=w.drawn+1 }:=by
 obtain ⟨fZ,la,eA⟩:=hx.at;have hlen:tr.length=ops.size:=by rw [fZ];simp
 rw [WL] at eA;unfold mL at jf;rw [zD,zC] at jf;obtain ⟨gf,bz⟩:=jf;have dD:∀ S,(xp tr S ops.size).Sublist R:=fun S=>by rw [← hR,hlen];exact Uc (fun _ _=>rfl) _
 have gv:∀ k,(Array.replicate ops.size false).getD k false=false:=fun k=>by
  rw [ZC];cases h:(Array.replicate ops.size false)[k]? with
  | none => rfl
  | some b => rw [Us] at h; split at h <;> simp_all
 have hD:FR c.N w0 J s0 a { w with drawn:=w.drawn+1 } β:=hF.grow ⟨rfl,rfl,rfl,zi _,fun _ _=>rfl⟩;refine UL (c:=c) (Q:=Q) (s0:=s0) (tr:=tr) (fun S s a w=>if S mk=true then ∃ es β,es.Perm (xp tr S ops.size)∧FR c.N w0 J (s.mp dm aa T es) a w β else (∃ β,FR c.N w0 J s a w β)∧(s.ob dm).aa+1=aa∧xp tr S ops.size=[])
  hlen (fun j hj=>(eA j hj).1) dC ?_ ?_ ?_ ops.size _ a _ zd (fun i hi hS=>by rw [gv] at hS;cases hS) ?_ ?_
 ·-- states that read alike
  intro S s s2 a w hg ho hh;by_cases hS:S mk=true
  ·rw [if_pos hS] at hh ⊢;obtain ⟨es,β,h1,h2⟩:=hh;exact ⟨es,β,h1,h2.ext (fun t=>by rw [xB,xB,hg]) (fun t=>by rw [XI,XI,ho])⟩
  ·rw [if_neg hS] at hh ⊢;obtain ⟨⟨β,h1⟩,h2,h3⟩:=hh;exact ⟨⟨β,h1.ext hg ho⟩,by rw [ho];exact h2,h3⟩
 ·-- a step
  intro S s a w i o iZ jH fN cz fg hh K' hK;have hi:i<ops.size:=(yC.1 iZ).1;have je:ops.toList.getD i default=o:=by simp [yj,iZ]
  obtain ⟨eB,pA⟩:=eA i hi;rw [je] at eB;have hb:=bz i (by rw [hlen];simpa using hi);have eY:∀ {X:List (List FV)},X.Perm (xp tr S ops.size++Wq (tr.getD i default))→X.Perm (xp tr (fun k=>k == i || S k) ops.size):=fun h=>h.trans (Yp (tr:=tr) jH ops.size hi).symm;generalize iw:tr.getD i default=r at *;rcases pA with ⟨cn,nN,o4,nQ⟩|⟨d,ty,pos,af,rfl,hdd,aT⟩|⟨ty,pos,af,rfl⟩|⟨y,z,kf,vf,ty,pos,af,rfl,bP,pj,pk,hy,hz,pN⟩
  ·-- a plain one
   rw [cn,nN,o4] at hb;have hb:mS ops dm r=true:=hb;unfold mS at hb;simp only [zD,bne_iff_ne,ne_eq,WD,WF,decide_eq_false_iff_not] at hb;obtain ⟨⟨⟨kX,fP⟩,lN⟩,kY⟩:=hb;have aB:Wq r=[]:=by unfold Wq;rw [cn];rfl
   have nM:yE r.wr dm=none:=by
    cases hl:yE r.wr dm with
    | none => rfl
    | some b => exact absurd (yU (l := r.wr) (id := dm) (by rw [hl]; rfl)) kY
   have bK:i≠mk:=fun e=>by subst e;rw [iw] at gf;rw [nN] at gf;cases gf
   have iu:(mk == i)=false:=by simpa using fun e=>bK e.symm
   by_cases hS:S mk=true
   ·rw [if_pos hS] at hh;obtain ⟨es,β,h1,h2⟩:=hh;have jg : Wb c ops (s.mp dm aa T es) r:=nQ.loc (fun t ht=>by rw [xB,if_neg (fun e:dm=t=>fP (by rw [e];exact ht))];exact cz t (by rw [← eB];exact ht)) (fun id hid=>by rw [XI,if_neg (fun e:dm=id=>lN (by rw [e];exact hid))];exact fg id hid);refine jg.wpOp h2 (by rw [eB];exact iZ) (fun a' w' aJ eK=>hK a' w' ?_);rw [if_pos (by show (mk == i || S mk)=true;rw [iu,hS];rfl)];refine ⟨es,aJ,eY (by rw [aB,Zf];exact h1),eK.ext (fun t=>?_) (fun id=>?_)⟩
    ·rw [xB,Zd,Zd,xB];by_cases e:dm=t
     ·subst e;have:Vm r dm=none:=by unfold Vm;rw [if_neg kX]
      rw [this];simp
     ·rw [if_neg e,if_neg e]
    ·rw [XI,Ym,Ym,XI];by_cases e:dm=id
     ·subst e;rw [nM];simp
     ·rw [if_neg e,if_neg e]
   ·rw [if_neg hS] at hh;obtain ⟨⟨β,h1⟩,h2,h3⟩:=hh;have jg : Wb c ops s r:=nQ.loc (fun t ht=>cz t (by rw [← eB];exact ht)) fg;refine jg.wpOp h1 (by rw [eB];exact iZ) (fun a' w' aJ eK=>hK a' w' ?_);rw [if_neg (by show ¬ (mk == i || S mk)=true;rw [iu];simpa using hS)];refine ⟨⟨aJ,eK⟩,by rw [Ym,nM];exact h2,?_⟩;have:=Yp (tr:=tr) jH ops.size hi;rw [iw,aB,h3] at this;exact this.eq_nil
  ·-- its name is copied
   have hb:(af.toList.any fun e=>Region.binds .any e && e.on == mk)=true:=by simpa [UF,Wp] using hb
   rw [ZQ] at hb;obtain ⟨ed,lW,eX⟩:=hb;rw [zD,beq_iff_eq] at eX;have hS:S mk=true:=eX.2▸fN ed (by rw [← eB];exact lW) eX.1;rw [if_pos hS] at hh;obtain ⟨es,β,h1,h2⟩:=hh;have bK:i≠mk:=fun e=>by subst e;rw [jH] at hS;cases hS
   have iX:(s.mp dm aa T es).ev (.tmp dm)=.omap dm aa:=by show (s.mp dm aa T es).get dm=_;rw [xB,if_pos rfl]
   have hE:=aq.move (c:=c) (s:=s.mp dm aa T es) (d:=d) (.tmp dm);rw [iX] at hE;unfold wpOp;rw [iZ];simp only;rw [← eB,if_pos (m6 rfl)];refine .inl (hE.sound h2 ⟨some d,.move (.tmp dm),ty,pos,af,none⟩ rfl (.inl rfl) (fun d' h=>by injection h with h;subst h;exact aT) (fun a' w' aJ eK=>hK a' w' ?_));have iu:(mk == i)=false:=by simpa using fun e=>bK e.symm
   rw [if_pos (by show (mk == i || S mk)=true;rw [iu,hS];rfl)];refine ⟨es,aJ,eY (by show es.Perm (_++[]);rw [Zf];exact h1),eK.ext (fun t=>?_) (fun id=>?_)⟩
   ·rw [xB,Zd];show _=((s.mp dm aa T es).put d _).get t;rw [ab.c8,xB];unfold Vm;by_cases e:dm=t
    ·rw [if_pos e,if_pos e,if_neg (fun q=>hdd (q.trans e.symm))]
    ·rw [if_neg e,if_neg e];by_cases e2:d=t
     ·rw [if_pos e2,if_pos (by rw [e2])];rfl
     ·rw [if_neg e2,if_neg (fun q=>e2 (by injection q))];rfl
   ·rw [XI,Ym];show _=(s.mp dm aa T es).ob id;rw [XI];rfl
  ·-- the map is made
   have iu:i=mk:=by simpa [UF,j0,Wp] using hb
   subst iu;rw [if_neg (by rw [jH];decide)] at hh;obtain ⟨⟨β,h1⟩,h2,h3⟩:=hh;unfold wpOp;rw [iZ];simp only;rw [← eB,if_pos (m6 rfl)];refine .inl ((YE (ty:=ty) (pos:=pos) (after:=af) (g:=none) h1 dm T).wp (fun d hd=>by injection hd with hd;subst hd;exact fR) (fun a' w' aJ eK=>hK a' w' ?_));rw [if_pos zd];refine ⟨[],aJ,eY (by rw [h3];exact List.Perm.refl _),eK.ext (fun t=>?_) (fun id=>?_)⟩
   ·rw [xB,Zd];show _=((s.wr _).put dm _).get t;rw [ab.c8,ab.bS];by_cases e:dm=t
    ·rw [if_pos e,if_pos e,h2]
    ·rw [if_neg e,if_neg e];have:Vm ⟨⟨some dm,.makeMap T none,ty,pos,af,none⟩,.undef,[],[dm]⟩ t=none:=by unfold Vm;rw [if_neg (fun q=>e (by injection q))]
     rw [this];rfl
   ·rw [XI,Ym];show _=(ab.wr s _).ob id;rw [kO];unfold yE;by_cases e:dm=id
    ·rw [if_pos e,if_pos e,← h2];rfl
    ·rw [if_neg e,if_neg e];rfl
  ·-- an entry
   have hb:(af.toList.any fun e=>Region.binds .any e && e.on == mk)=true:=hb;rw [ZQ] at hb;obtain ⟨ed,lW,eX⟩:=hb;rw [zD,beq_iff_eq] at eX;have hS:S mk=true:=eX.2▸fN ed (by rw [← eB];exact lW) eX.1;rw [if_pos hS] at hh;obtain ⟨es,β,h1,h2⟩:=hh;have bK:i≠mk:=fun e=>by subst e;rw [jH] at hS;cases hS
   have iX:∀ x,x≠.tmp dm→x∈[y,z]→(s.mp dm aa T es).ev x=(sig tr s0 (fun _=>true) i).ev x:=fun x hx hm=>by
    cases x with
    | tmp t =>
     show (s.mp dm aa T es).get t=(sig tr s0 (fun _=>true) i).get t;rw [xB,if_neg (fun e=>hx (by rw [e]))];refine cz t ?_;rw [← eB];refine List.mem_append_left _ (xF.2 ⟨.tmp t,?_,rfl⟩);show _∈[Operand.tmp dm,y,z];exact YV _ hm
    | const v => rfl
    | global g => rfl
    | func f => rfl
   have cy:(s.mp dm aa T es).ob dm=⟨aa,.aR,T,0,es⟩:=by rw [XI,if_pos rfl]
   have aB:Wq ⟨⟨none,.insert T (.tmp dm) y z,ty,pos,af,none⟩,.agg [kf,vf],[],[]⟩=[[kf,vf]]:=rfl;have cL:∀ row∈es,row∈R:=fun row hm=>(dD S).subset (h1.mem_iff.1 hm);have eQ:kR es kf vf (es++[[kf,vf]]):=by
    refine .inr ⟨fun row hm e=>?_,rfl⟩;have p1:=hd.sublist (dD (fun k=>k == i || S k));have p2:=(Yp (tr:=tr) jH ops.size hi).pairwise p1 (fun h e=>h e.symm);rw [iw,aB,List.pairwise_append] at p2;exact p2.2.2 row (h1.mem_iff.1 hm) [kf,vf] zd (by rw [e];rfl)
   obtain ⟨W,g1,g2⟩:=XC (dst:=none) (ty:=ty) (pos:=pos) (after:=af) (g:=none) h2 hT K (.tmp dm) y z (id:=dm) (aa:=aa) (kf:=kf) (vf:=vf) (aO:=es++[[kf,vf]]) (by show (s.mp dm aa T es).get dm=_;rw [xB,if_pos rfl]) (by rw [cy]) (by rw [cy])
    (by rw [iX y pj zd,hy]) (by rw [iX z pk zd,hz]) (by rw [cy];exact fun row hm=>cJ row (cL row hm)) bP pN (by rw [cy];exact eQ)
   unfold wpOp;rw [iZ];simp only;rw [← eB,if_pos (m6 rfl)];refine .inl ?_;unfold Oper.wp;rw [show (execOp a.eval ⟨none,.insert T (.tmp dm) y z,ty,pos,af,none⟩).run c.P w=.ok .skip W from g1,xx];refine hK _ _ ?_;have iu:(mk == i)=false:=by simpa using fun e=>bK e.symm
   rw [if_pos (by show (mk == i || S mk)=true;rw [iu,hS];rfl)];rw [cy] at g2;refine ⟨es++[[kf,vf]],β,eY (by rw [aB];exact h1.append_right _),g2.ext (fun t=>?_) (fun id=>?_)⟩
   ·show _=(ab.wr (s.mp dm aa T es) _).get t;rw [ab.bS,xB,xB,Zd];rfl
   ·rw [XI,Ym];show _=(ab.wr (s.mp dm aa T es) _).ob id;rw [kO,XI];unfold yE;by_cases e:dm=id
    ·rw [if_pos e,if_pos e];rfl
    ·rw [if_neg e,if_neg e,if_neg e];rfl
 ·-- the end
  intro S a w bz hh;rw [if_pos (bz mk (hlen▸pd))] at hh;obtain ⟨es,β,h1,h2⟩:=hh;refine hQ es a w β (h1.trans ?_) (by rw [la,hlen];exact h2);rw [← hR,hlen,Ub (S:=S) (S':=fun _=>true) _ bz]
 ·have key:∀ n,Uw (fun k=>(Array.replicate ops.size false).getD k false) n≤n:=by
   intro n
   induction n with
   | zero => exact zi _
   | succ n ih => unfold Uw; split <;> omega
  exact key _
 ·rw [if_neg (by simp only [gv];decide)];have pB:∀ t,(sig tr s0 (fun k=>(Array.replicate ops.size false).getD k false) ops.size).get t=s0.get t:=fun t=>by
   have key:=yA (fun k=>Vm (tr.getD k default) t) (fun k=>(Array.replicate ops.size false).getD k false) (s0.get t) 0 ops.size (fun k _ hk hS=>by rw [gv] at hS;cases hS);rw [zY] at key;rw [ye,key];rfl
  have nU:∀ id,(sig tr s0 (fun k=>(Array.replicate ops.size false).getD k false) ops.size).ob id=s0.ob id:=fun id=>by
   have key:=yA (fun k=>yE (tr.getD k default).wr id) (fun k=>(Array.replicate ops.size false).getD k false) (s0.ob id) 0 ops.size (fun k _ hk hS=>by rw [gv] at hS;cases hS);rw [zY] at key;rw [yX,key];rfl
  exact ⟨⟨β,hD.ext pB nU⟩,by rw [nU];exact az,Ww _ (fun k _=>gv k)⟩
def zJ (c:Ctx) (ops:Array Oper) (dm T k aa:Nat) (l:List Oper) (s:ab) (tr:List Rec) (Q:ab→List Rec→Prop):Prop:=∃ g8 s',WA c ops dm T k aa s l g8 s'∧Q s' (tr++g8)
variable {dm T k aa:Nat} {rest:List Oper} {s:ab} {tr:List Rec} {t:List (Nat×FV)} {ob:List (Nat×zS)} {QM:ab→List Rec→Prop}
theorem zJ.nil (h:QM s tr):zJ c ops dm T k aa [] s tr QM:=⟨[],s,.nil s,by rw [Zf];exact h⟩
theorem zJ.one {o:Oper} (hi:UF o.op=false) (hm:j0 o.op=false) (hh:Wp dm o.op=false) (h:zA c ops [o] s tr fun s' g8=>zJ c ops dm T k aa rest s' g8 QM):zJ c ops dm T k aa (o::rest) s tr QM:=by
 obtain ⟨lq,s1,h1,gG,s2,h2,h3⟩:=h;exact ⟨_,s2,.one hi hm hh h1 h2,by rw [← zw];exact h3⟩
theorem zJ.mk (h:zJ c ops dm T k aa rest ⟨(dm,.undef)::t,ob⟩ (tr++[⟨⟨some dm,.makeMap T none,ty,pos,af,none⟩,.undef,[],[dm]⟩]) QM) :
  zJ c ops dm T k aa ((⟨some dm,.makeMap T none,ty,pos,af,none⟩:Oper)::rest) ⟨t,ob⟩ tr QM:=by
 obtain ⟨gG,s2,h2,h3⟩:=h;exact ⟨_,s2,.spec (r:=⟨⟨some dm,.makeMap T none,ty,pos,af,none⟩,.undef,[],[dm]⟩) (.inr (.inr (.inl ⟨ty,pos,af,rfl⟩))) h2,by rw [zw] at h3;exact h3⟩
theorem zJ.ins {y z:Operand} (bP:Zs c.P k kf) (hy:(⟨t,ob⟩:ab).ev y=kf) (hz:(⟨t,ob⟩:ab).ev z=vf) (pT:y≠.tmp dm) (pV:z≠.tmp dm) (hn:vf.hand=none)
  (h:zJ c ops dm T k aa rest ⟨t,ob⟩ (tr++[⟨⟨none,.insert T (.tmp dm) y z,ty,pos,af,none⟩,.agg [kf,vf],[],[]⟩]) QM) :
  zJ c ops dm T k aa ((⟨none,.insert T (.tmp dm) y z,ty,pos,af,none⟩:Oper)::rest) ⟨t,ob⟩ tr QM:=by
 obtain ⟨gG,s2,h2,h3⟩:=h;exact ⟨_,s2,.spec (r:=⟨⟨none,.insert T (.tmp dm) y z,ty,pos,af,none⟩,.agg [kf,vf],[],[]⟩) (.inr (.inr (.inr ⟨y,z,kf,vf,ty,pos,af,rfl,bP,pT,pV,hy,hz,hn⟩))) h2,by rw [zw] at h3;exact h3⟩
theorem zJ.hold (hd:d≠dm) (hN:Nat.blt d c.N=true) (h:zJ c ops dm T k aa rest ⟨(d,.omap dm aa)::t,ob⟩ (tr++[⟨⟨some d,.move (.tmp dm),ty,pos,af,none⟩,.omap dm aa,[],[]⟩]) QM) :
  zJ c ops dm T k aa ((⟨some d,.move (.tmp dm),ty,pos,af,none⟩:Oper)::rest) ⟨t,ob⟩ tr QM:=by
 obtain ⟨gG,s2,h2,h3⟩:=h;exact ⟨_,s2,.spec (r:=⟨⟨some d,.move (.tmp dm),ty,pos,af,none⟩,.omap dm aa,[],[]⟩) (.inr (.inl ⟨d,ty,pos,af,rfl,hd,by simpa [Nat.blt_eq] using hN⟩)) h2,by rw [zw] at h3;exact h3⟩
theorem FW.j6 {id e mk aa:Nat} {l:List Oper} {s:ab} {Q:Exit→ab→Prop} (dm T:Nat) (R:List (List FV)) (hT:(c.ty T).k=.map k e) (K:Maps.Keyed c.P k) (fR:Nat.blt dm c.N=true) (az:(s.ob dm).aa+1=aa) (cJ:∀ row∈R,∀ kf,row.head? = some kf→Zs c.P k kf) (hd:R.Pairwise fun a b=>a.head?≠b.head?)
  (h:zJ c l.toArray dm T k aa l s [] fun s' tr=>(Za l.toArray tr && mL l.toArray dm mk tr && Nat.blt mk tr.length)=true∧xp tr (fun _=>true) tr.length=R∧∀ es,es.Perm R→Q .normal (s'.mp dm aa T es)):FW c (.region id l.toArray true) Q s:=fun w0 J a w β hF=>by
 obtain ⟨tr,s',hx,dC,hR,hq⟩:=h;rw [WJ,zD,zD] at dC;exact qt (Q:=UR fun a' w'=>∃ s' aJ,Q .normal s'∧FR c.N w0 J s' a' w' aJ) (ops:=l.toArray) hT K (by simpa [Nat.blt_eq] using fR) (by simpa using hx) dC.1.1 dC.1.2 az (by simpa using hR) cJ hd (by simpa [Nat.blt_eq] using dC.2) (fun es a w β hp f=>⟨_,β,hq es hp,f⟩) hF
end
end
section
open Go.RowKit Go.Maps
theorem aI.jy (d:Nat) {f' : FV} (h:look .undef t d=f) (hn:f.hand=none) (jM : f'.hand=none) (hr:∀ (w:World) (I:Nat→Prop) (v:Value),Rd w I v f→Rd w I v f'):aI ⟨t,ob⟩ ⟨(d,f')::t,ob⟩:=by
 intro N w0 J a w β hF;refine ⟨β,?_⟩;refine hF.step (C:=fun _=>False) hF.size hF.defers hF.bF (fun b hb=>⟨hb,rfl⟩) (fun k=>?_) (fun id _=>⟨rfl,rfl,fun _ _ _=>rfl⟩) (fun _ h=>h.elim) (fun _ h=>h.elim) (fun _ h=>h.elim) hF.inj (fun b _ hn=>⟨rfl,hn⟩);show (_∧look .undef ((d,_)::t) k=look .undef t k)∨_;by_cases eG:d=k
 ·subst eG;right;have:(⟨(d,f')::t,ob⟩:ab).get d=f':=by show look _ _ _=_;rw [zp,if_pos rfl]
  rw [this];refine ⟨VR.a9 ?_ jM,fun id aa e=>(FV.aS jM e).elim⟩;have h1:=hF.slot d;rw [show (⟨t,ob⟩:ab).get d=f from h] at h1;exact (hr _ _ _ (VR.rd h1 hn)).mono fun b hb=>⟨hb,rfl⟩
 ·left;refine ⟨rfl,?_⟩;rw [zp,if_neg eG]
theorem aI.c4 (d:Nat) (h:look .undef t d=.smap aO) (hp:aO.Perm es):aI ⟨t,ob⟩ ⟨(d,.perm 0 es)::t,ob⟩:=
 aI.jy d h rfl rfl fun _ _ v hr=>.c4 v es aO hp hr
section
variable {c:Ctx} {w0 w:World} {J:JJ} {s:ab} {a:Act} {β:Nat→Option Nat}
theorem FR.p9 (h:FR c.N w0 J s a w β) {x:Operand} (ex:s.ev x=.perm 0 es) (bK:es.any (fun r=>r.length != 0)=true):∃ b clock ai aO,a.eval x=.map (some b)∧aO.Perm es∧Mp w (aH J w β s) b clock ai aO:=by
 have hr:=h.aP ex rfl;generalize a.eval x=v at hr;cases hr with
 | perm v sz es aO hp hr=>
  rw [ZQ] at bK;obtain ⟨r,h1,h2⟩:=bK;cases hr with
  | list A n c sz es us hn hc he ho hA hl hr =>
   have:=he r (hp.mem_iff.2 h1);rw [this] at h2;cases h2
 | c4 v es aO hp hr =>
  cases hr with
  | smap b clock ai es hI hb bA hl hk hr => exact ⟨b, clock, ai, aO, rfl, hp, hb, bA, hl, hk, hr⟩
theorem XZ.perm {z:FV} {b:Bool} (hp:aO.Perm es) (h:XZ es kf z vf b):XZ aO kf z vf b:=by
 rcases h with ⟨h1,h2⟩|⟨h1,h2,h3⟩
 ·exact .inl ⟨h1,hp.mem_iff.2 h2⟩
 ·exact .inr ⟨h1,h2,fun row hr=>h3 row (hp.mem_iff.1 hr)⟩
theorem aq.jq {k e:Nat} (hT:(c.ty T).k=.map k e) {bb:Bool} (he:(c.ty e).k.aM = some bb) (K:Keyed c.P k) (x y:Operand) (bK:es.any (fun r=>r.length != 0)=true) (ex:s.ev x=.perm 0 es)
(ey:s.ev y=kf) (hk:∀ row∈es,∀ kf,row.head? = some kf→Zs c.P k kf) (bP:Zs c.P k kf) {found:Bool} (hl:XZ es kf (c.ty e).hJ vf found) (hn:vf.hand=none):aq c s d (.lookup T x y true) (.bw [vf,.bool found]) []:=by
 refine .ext rfl (fun h=>by rcases h with ⟨_,_,_,h⟩|⟨_,_,_,_,h⟩ <;> cases h) fun s' h1 _ w0 J a w β ty pos after g aT hF K' Q hK=>?_;obtain ⟨b,clock,ai,aO,hx,hp,hm⟩:=hF.p9 (x:=x) (by rw [h1 x zg];exact ex) bK;have gO : ∀ row∈aO,∀ kf,row.head? = some kf→Zs c.P k kf:=fun row hr=>hk row (hp.mem_iff.1 hr);have hy:a.eval y=kf.val:=(hF.aP (x:=y) (by rw [h1 y zg];exact ey) (by have:=bP.1;cases kf <;> first|rfl|(simp [FV.simple,FV.ay] at this))).bE bP.1;obtain ⟨v,g1,g2⟩:=Uh (w:=w) hT he K hm gO bP true (hl.perm hp);have hG:yh c w0 J s' a ⟨some d,.lookup T x y true,ty,pos,after,g⟩ w (.bw [vf,.bool found]) []:=.rd hF (v:=v) (by simp [execOp,hx,hy,g1]) (by simpa using g2) rfl;exact hG.wp (fun d' h=>by injection h with h;subst h;exact aT) hK
variable {ops:Array Oper} {rest:List Oper} {t:List (Nat×FV)} {ob:List (Nat×zS)} {ty:TypeId} {pos:String} {af:Array Edge} {g:Option (Nat×Bool)} {d:Nat} {tr:List Rec} {Q:ab→Prop} {QD:ab→List Rec→Prop}
theorem VT {T k e:Nat} {bb found:Bool} {x y:Operand} {kf vf:FV} {es:List (List FV)} (K:Maps.Keyed c.P k) (bK:es.any (fun r=>r.length != 0)=true) (eH:∀ row∈es,∀ kf,row.head? = some kf→Zs c.P k kf) (bP:Zs c.P k kf) (ma:XZ es kf (c.ty e).hJ vf found) (hx:(⟨t,ob⟩:ab).ev x=.perm 0 es) (hy:(⟨t,ob⟩:ab).ev y=kf) (hT:(c.ty T).k=.map k e) (he:(c.ty e).k.aM = some bb) (hn:vf.hand=none) (hd:Nat.blt d c.N=true) (hw:xn ops ⟨t,ob⟩ ⟨some d,.lookup T x y true,ty,pos,af,g⟩ true) (k:zA c ops rest ⟨((d,(.bw [vf,.bool found]))::t),ob⟩ (tr++[⟨⟨some d,.lookup T x y true,ty,pos,af,g⟩,(.bw [vf,.bool found]),[],Yf ⟨t,ob⟩ d (.lookup T x y true)⟩]) QD):zA c ops (⟨some d,.lookup T x y true,ty,pos,af,g⟩::rest) ⟨t,ob⟩ tr QD:=
 zA.cons (f:=(.bw [vf,.bool found])) (wr:=[]) (d:=d) (XV hd (aq.jq hT he K x y bK hx hy eH bP ma hn)) hw rfl rfl k
end
end
section
open Go.RowKit
theorem VI {P:Program} {k i:TypeId} {fs:Array Field} (hu:P.underlying k=some (.struct fs)) (hf:fs.toList.map (fun f=>(f.type,f.offset))=[(i,0),(i,1)]) (hn:fs.all (·.name != "_")=true)
  (hi:P.underlying i=some (.int .i64)) (c1:P.cellsOf i=1) (c2:P.cellsOf k=2) (hk:P.keyType k=true) (n:Nat) (ht:P.types.size=n+1) (ha:(Lit.int .i64 a).wf=true) (hb:(Lit.int .i64 b).wf=true) :
  ∃ l,keyOf P k (.agg #[.int .i64 a,.int .i64 b])=some l:=by
 have fx:∃ f g,fs.toList=[f,g]∧f.type=i∧f.offset=0∧g.type=i∧g.offset=1:=by
  generalize fs.toList=l at hf;rcases l with _|⟨f,_|⟨g,_|⟨h,t⟩⟩⟩ <;> simp at hf
  exact ⟨f,g,rfl,hf.1.1,hf.1.2,hf.2.1,hf.2.2⟩
 obtain ⟨f,g,hl,f1,f2,g1,g2⟩:=fx;have one:∀ x,(Lit.int .i64 x).wf=true→P.keyLits (n+1) i [.int .i64 x]=some [.int .i64 x]:=fun x hx=>by
  unfold Program.keyLits;rw [hi];simp [hx]
 have two:P.keyLits (P.types.size+1) k [.int .i64 a,.int .i64 b]=some [.int .i64 a,.int .i64 b]:=by
  unfold Program.keyLits;rw [hu];have bz:(fs.toList.all fun x=>x.name != "_")=true:=by
   rw [Array.all_toList];exact hn
  simp only;rw [if_pos ⟨by rw [c2];rfl,by simpa using hn⟩,hl,ht];simp [f1,f2,g1,g2,c1,one a ha,one b hb]
 unfold keyOf;rw [hu];refine ⟨.string (keyBytes [.int .i64 a,.int .i64 b]),?_⟩;have oX:(Value.agg #[.int .i64 a,.int .i64 b]).formed P k=true:=by simp [Value.formed,hu,c2]
 simp only [hk,oX,Bool.and_self,if_true];rw [show (Value.agg #[.int .i64 a,.int .i64 b]).cells.toList=[.int .i64 a,.int .i64 b] from rfl,two];rfl
theorem oe:laidOutB Tryd.prog=true:=by kernel_rfl
def oa (P:Program) (k:TypeId):Array Field:=match P.underlying k with|some (.struct fs)=>fs|_=>#[]
def UG (a b:Int):FV:=.agg [.int .i64 a,.int .i64 b]
theorem VL (h:bx a):(Lit.int .i64 a).wf=true:=by
 have h1:IntKind.i64.min = -9223372036854775808:=by kernel_rfl
 have h2:IntKind.i64.max=9223372036854775807:=by kernel_rfl
 unfold bx at h;simp [Lit.wf,h1,h2,h]
theorem Vc {c d:Int} (h:UG a b=UG c d):a=c∧b=d:=by
 unfold UG at h;injection h with h
 injection h with h1 h2
 injection h2 with h2 _
 injection h1 with _ h1
 injection h2 with _ h2
 exact ⟨h1,h2⟩
def vc (f:FV):FV:=.aC 1 [[f]] 0 0
def fq (o g:Int):FV:=.fn 46 [vc (.int .i64 o),vc (.int .i64 g)]
def jT (o:Int):FV:=.fn 57 [vc (.int .i64 o)]
def lD (o:Int):FV:=.fn 74 [vc (.int .i64 o)]
def lp (f:FV):FV:=.fn 72 [vc f]
def mJ (es:List (List FV)):FV:=.fn 68 [vc (.list 1 es)]
theorem zE (o g:Int):zV Tryd.prog 15 [.int .i64 o,.int .i64 g] .sh (fq o g):=by
 refine zs 6 Tryd.func15 Tryd.ntmps15 rfl ?_;change FW _ _ _ ⟨[(0,.int .i64 o),(1,.int .i64 g)],[]⟩;refine xU ?_;refine zq.le ?_ (aI.bk 2 rfl rfl);refine zq.le ?_ (aI.bk 3 rfl rfl);refine zb ?_;exact FW.ret ⟨.inl rfl,.sh (.cons (.tmp 4 rfl rfl) .nil) rfl rfl⟩
theorem Zc (o:Int):zV Tryd.prog 21 [.int .i64 o] .sh (jT o):=by
 refine zs 4 Tryd.func21 Tryd.ntmps21 rfl ?_;change FW _ _ _ ⟨[(0,.int .i64 o)],[]⟩;refine xU ?_;refine zq.le ?_ (aI.bk 1 rfl rfl);refine zb ?_;exact FW.ret ⟨.inl rfl,.sh (.cons (.tmp 2 rfl rfl) .nil) rfl rfl⟩
theorem YD (o:Int):zV Tryd.prog 38 [.int .i64 o] .sh (lD o):=by
 refine zs 4 Tryd.func38 Tryd.ntmps38 rfl ?_;change FW _ _ _ ⟨[(0,.int .i64 o)],[]⟩;refine xU ?_;refine zq.le ?_ (aI.bk 1 rfl rfl);refine zb ?_;exact FW.ret ⟨.inl rfl,.sh (.cons (.tmp 2 rfl rfl) .nil) rfl rfl⟩
theorem XM (f:Nat):zV Tryd.prog 31 [.fn f []] .sh (lp (.fn f [])):=by
 refine zs 4 Tryd.func31 Tryd.ntmps31 rfl ?_;change FW _ _ _ ⟨[(0,.fn f [])],[]⟩;refine xU ?_;refine zq.le ?_ (aI.bk 1 rfl rfl);refine zb ?_;exact FW.ret ⟨.inl rfl,.sh (.cons (.tmp 2 rfl rfl) .nil) rfl rfl⟩
theorem VO (es:List (List FV)):zV Tryd.prog 28 [.list 1 es] .sh (mJ es):=by
 refine zs 4 Tryd.func28 Tryd.ntmps28 rfl ?_;change FW _ _ _ ⟨[(0,.list 1 es)],[]⟩;refine xU ?_;refine zq.le ?_ (aI.bk 1 rfl rfl);refine zb ?_;exact FW.ret ⟨.inl rfl,.sh (.cons (.tmp 2 rfl rfl) .nil) rfl rfl⟩
theorem Zw:Maps.Keyed Tryd.prog 59:=Maps.Keyed.of_law (deep_law_laid oe (m:=2) zc (of_decide_eq_true zm) zm zm)
theorem yy (ha:bx a) (hb:bx b):Zs Tryd.prog 59 (UG a b):=
 ⟨rfl,VI (i:=3) (fs:=oa Tryd.prog 59) zm zm zm zm zm zm zm (Tryd.prog.types.size - 1) zm (VL ha) (VL hb)⟩
def Yv (p:Int×Int×FV):List FV:=[UG p.1 p.2.1,p.2.2]
theorem xl (hp:es.Perm (R.map Yv)) (h:∀ p∈R,¬ (p.1=a∧p.2.1=b)):kR es (UG a b) vf (es++[Yv (a,b,vf)]):=by
 refine .inr ⟨fun row hr e=>?_,rfl⟩;obtain ⟨p,hp,rfl⟩:=zK.1 (hp.mem_iff.1 hr);injection e with e
 exact h p hp (Vc e)
theorem m3 (h:∀ p∈R,bx p.1∧bx p.2.1):∀ row∈R.map Yv,∀ kf,row.head? = some kf→Zs Tryd.prog 59 kf:=fun row hr kf e=>by
 obtain ⟨p,hp,rfl⟩:=zK.1 hr;injection e with e
 subst e;exact yy (h p hp).1 (h p hp).2
theorem XG (hp:es.Perm (R.map Yv)) (h:∀ p∈R,bx p.1∧bx p.2.1):∀ row∈es,∀ kf,row.head? = some kf→Zs Tryd.prog 59 kf:=fun row hr=>m3 h row (hp.mem_iff.1 hr)
instance (x:Int):Decidable (bx x):=by unfold bx;infer_instance
def XP:List (Int×Int×FV):=[
 (1,0,.agg [fq 0 0,.fn 16 []]),
 (1,1,.agg [fq 1 0,.fn 17 []]),
 (2,3,.agg [fq 2 0,.fn 18 []]),
 (2,4,.agg [.fn 19 [],.fn 20 []]),
 (3,5,.agg [jT 0,.fn 22 []]),
 (4,5,.agg [jT 0,.fn 22 []]),
 (5,0,.agg [.fn 23 [],.fn 24 []]),
 (5,6,.agg [jT 0,.fn 25 []]),
 (5,7,.agg [jT 3,.fn 26 []]),
 (5,8,.agg [jT 2,.fn 27 []]),
 (6,0,.agg [fq 0 0,mJ [[.fn 29 []],[.fn 30 []]]]),
 (6,9,.agg [fq 2 0,lp (.fn 29 [])]),
 (6,10,.agg [fq 2 0,lp (.fn 30 [])]),
 (7,0,.agg [fq 0 0,mJ [[.fn 32 []],[.fn 33 []],[.fn 34 []]]]),
 (7,11,.agg [fq 2 0,lp (.fn 32 [])]),
 (7,12,.agg [.fn 35 [],.fn 36 []]),
 (8,0,.agg [fq 1 0,lD 0]),
 (8,13,.agg [fq 1 0,lD 13]),
 (8,14,.agg [fq 0 0,.fn 39 []])]
def YP (c:Int):Int×Int×FV:=(c,0,.agg [.fn 23 [],.fn 40 []])
def Yq (c:Int):Int×Int×FV:=(c,2,.agg [fq 1 0,.fn 37 []])
def xN:List (Int×Int×FV):=XP++[2,3,4].map YP++[2,3,4,5].map Yq
set_option maxRecDepth 20000 in
theorem UM:(XP.map Yv).Pairwise fun a b=>a.head?≠b.head?:=by
 refine List.pairwise_map.2 ((show XP.Pairwise fun p q=>¬ (p.1=q.1∧p.2.1=q.2.1) by decide).imp fun {p q} h e=>h ?_);injection e with e
 exact Vc e
set_option maxRecDepth 20000 in
theorem qz:∀ p∈XP,bx p.1∧bx p.2.1:=by decide
set_option maxRecDepth 20000 in
theorem Ue:∀ p∈xN,bx p.1∧bx p.2.1:=by decide
theorem xm {R' : List (Int×Int×FV)} {r:Int×Int×FV} (hp:es.Perm (R.map Yv)) (h:R++[r]=R'):(es++[Yv r]).Perm (R'.map Yv):=by
 rw [← h,Zl];exact hp.append_right _
set_option maxRecDepth 20000 in
theorem qA:zV Tryd.prog 10 [] .sh (.perm 0 (xN.map Yv)):=by
 refine zs 95 Tryd.func10 Tryd.ntmps10 rfl ?_;change FW _ _ _ ⟨[],[]⟩;refine zb ?_;refine FW.j6 (c:=(lz Tryd.prog Vk Xh 95)) (k:=59) (mk:=0) (aa:=1) (s:=⟨[(0,.bG)],[]⟩) 6 56 (XP.map Yv) rfl Zw rfl rfl (m3 qz) UM ?_;refine zJ.mk ?_;refine zJ.one rfl rfl rfl ?_;refine zn ?_;refine zJ.one rfl rfl rfl ?_;refine zy (zE 0 0) (by repeat (first|exact zf.nil|refine zf.cons zh ?_)) rfl rfl ?_;refine zA.nil ?_;refine zJ.one rfl rfl rfl ?_;refine zn ?_;refine zJ.ins (yy (a:=1) (b:=0) za za) rfl rfl (fun h=>by injection h with h;exact absurd h za) (fun h=>by injection h with h;exact absurd h za) rfl ?_;refine zJ.one rfl rfl rfl ?_;refine zn ?_;refine zJ.one rfl rfl rfl ?_;refine zy (zE 1 0) (by repeat (first|exact zf.nil|refine zf.cons zh ?_)) rfl rfl ?_;refine zA.nil ?_;refine zJ.one rfl rfl rfl ?_;refine zn ?_;refine zJ.ins (yy (a:=1) (b:=1) za za) rfl rfl (fun h=>by injection h with h;exact absurd h za) (fun h=>by injection h with h;exact absurd h za) rfl ?_;refine zJ.one rfl rfl rfl ?_;refine zn ?_;refine zJ.one rfl rfl rfl ?_;refine zy (zE 2 0) (by repeat (first|exact zf.nil|refine zf.cons zh ?_)) rfl rfl ?_;refine zA.nil ?_;refine zJ.one rfl rfl rfl ?_;refine zn ?_;refine zJ.ins (yy (a:=2) (b:=3) za za) rfl rfl (fun h=>by injection h with h;exact absurd h za) (fun h=>by injection h with h;exact absurd h za) rfl ?_;refine zJ.one rfl rfl rfl ?_;refine zn ?_;refine zJ.one rfl rfl rfl ?_;refine zn ?_;refine zJ.ins (yy (a:=2) (b:=4) za za) rfl rfl (fun h=>by injection h with h;exact absurd h za) (fun h=>by injection h with h;exact absurd h za) rfl ?_;refine zJ.one rfl rfl rfl ?_;refine zn ?_;refine zJ.one rfl rfl rfl ?_;refine zy (Zc 0) (by repeat (first|exact zf.nil|refine zf.cons zh ?_)) rfl rfl ?_;refine zA.nil ?_;refine zJ.one rfl rfl rfl ?_;refine zn ?_;refine zJ.ins (yy (a:=3) (b:=5) za za) rfl rfl (fun h=>by injection h with h;exact absurd h za) (fun h=>by injection h with h;exact absurd h za) rfl ?_;refine zJ.one rfl rfl rfl ?_;refine zn ?_;refine zJ.one rfl rfl rfl ?_;refine zy (Zc 0) (by repeat (first|exact zf.nil|refine zf.cons zh ?_)) rfl rfl ?_;refine zA.nil ?_;refine zJ.one rfl rfl rfl ?_;refine zn ?_;refine zJ.ins (yy (a:=4) (b:=5) za za) rfl rfl (fun h=>by injection h with h;exact absurd h za) (fun h=>by injection h with h;exact absurd h za) rfl ?_;refine zJ.one rfl rfl rfl ?_;refine zn ?_;refine zJ.one rfl rfl rfl ?_;refine zn ?_;refine zJ.ins (yy (a:=5) (b:=0) za za) rfl rfl (fun h=>by injection h with h;exact absurd h za) (fun h=>by injection h with h;exact absurd h za) rfl ?_;refine zJ.one rfl rfl rfl ?_;refine zn ?_;refine zJ.one rfl rfl rfl ?_;refine zy (Zc 0) (by repeat (first|exact zf.nil|refine zf.cons zh ?_)) rfl rfl ?_;refine zA.nil ?_;refine zJ.one rfl rfl rfl ?_;refine zn ?_;refine zJ.ins (yy (a:=5) (b:=6) za za) rfl rfl (fun h=>by injection h with h;exact absurd h za) (fun h=>by injection h with h;exact absurd h za) rfl ?_;refine zJ.one rfl rfl rfl ?_;refine zn ?_;refine zJ.one rfl rfl rfl ?_;refine zy (Zc 3) (by repeat (first|exact zf.nil|refine zf.cons zh ?_)) rfl rfl ?_;refine zA.nil ?_;refine zJ.one rfl rfl rfl ?_;refine zn ?_;refine zJ.ins (yy (a:=5) (b:=7) za za) rfl rfl (fun h=>by injection h with h;exact absurd h za) (fun h=>by injection h with h;exact absurd h za) rfl ?_;refine zJ.one rfl rfl rfl ?_;refine zn ?_;refine zJ.one rfl rfl rfl ?_;refine zy (Zc 2) (by repeat (first|exact zf.nil|refine zf.cons zh ?_)) rfl rfl ?_;refine zA.nil ?_;refine zJ.one rfl rfl rfl ?_;refine zn ?_;refine zJ.ins (yy (a:=5) (b:=8) za za) rfl rfl (fun h=>by injection h with h;exact absurd h za) (fun h=>by injection h with h;exact absurd h za) rfl ?_;refine zJ.one rfl rfl rfl ?_;refine zn ?_;refine zJ.one rfl rfl rfl ?_;refine zy (zE 0 0) (by repeat (first|exact zf.nil|refine zf.cons zh ?_)) rfl rfl ?_;refine zA.nil ?_;refine zJ.one rfl rfl rfl ?_;refine Wt (es:=[[.fn 29 []],[.fn 30 []]]) rfl rfl rfl (by refine yf.one rfl rfl rfl rfl ?_;refine yf.one rfl rfl rfl rfl ?_;exact yf.nil) rfl rfl rfl rfl rfl ?_;refine zA.nil ?_;refine zJ.one rfl rfl rfl ?_;refine zy (VO [[.fn 29 []],[.fn 30 []]]) (by repeat (first|exact zf.nil|refine zf.cons zh ?_)) rfl rfl ?_;refine zA.nil ?_;refine zJ.one rfl rfl rfl ?_;refine zn ?_;refine zJ.ins (yy (a:=6) (b:=0) za za) rfl rfl (fun h=>by injection h with h;exact absurd h za) (fun h=>by injection h with h;exact absurd h za) rfl ?_;refine zJ.one rfl rfl rfl ?_;refine zn ?_;refine zJ.one rfl rfl rfl ?_;refine zy (zE 2 0) (by repeat (first|exact zf.nil|refine zf.cons zh ?_)) rfl rfl ?_;refine zA.nil ?_;refine zJ.one rfl rfl rfl ?_;refine zy (XM 29) (by repeat (first|exact zf.nil|refine zf.cons zh ?_)) rfl rfl ?_;refine zA.nil ?_;refine zJ.one rfl rfl rfl ?_;refine zn ?_;refine zJ.ins (yy (a:=6) (b:=9) za za) rfl rfl (fun h=>by injection h with h;exact absurd h za) (fun h=>by injection h with h;exact absurd h za) rfl ?_;refine zJ.one rfl rfl rfl ?_;refine zn ?_;refine zJ.one rfl rfl rfl ?_;refine zy (zE 2 0) (by repeat (first|exact zf.nil|refine zf.cons zh ?_)) rfl rfl ?_;refine zA.nil ?_;refine zJ.one rfl rfl rfl ?_;refine zy (XM 30) (by repeat (first|exact zf.nil|refine zf.cons zh ?_)) rfl rfl ?_;refine zA.nil ?_;refine zJ.one rfl rfl rfl ?_;refine zn ?_;refine zJ.ins (yy (a:=6) (b:=10) za za) rfl rfl (fun h=>by injection h with h;exact absurd h za) (fun h=>by injection h with h;exact absurd h za) rfl ?_;refine zJ.one rfl rfl rfl ?_;refine zn ?_;refine zJ.one rfl rfl rfl ?_;refine zy (zE 0 0) (by repeat (first|exact zf.nil|refine zf.cons zh ?_)) rfl rfl ?_;refine zA.nil ?_;refine zJ.one rfl rfl rfl ?_;refine Wt (es:=[[.fn 32 []],[.fn 33 []],[.fn 34 []]]) rfl rfl rfl (by refine yf.one rfl rfl rfl rfl ?_;refine yf.one rfl rfl rfl rfl ?_;refine yf.one rfl rfl rfl rfl ?_;exact yf.nil) rfl rfl rfl rfl rfl ?_;refine zA.nil ?_;refine zJ.one rfl rfl rfl ?_;refine zy (VO [[.fn 32 []],[.fn 33 []],[.fn 34 []]]) (by repeat (first|exact zf.nil|refine zf.cons zh ?_)) rfl rfl ?_;refine zA.nil ?_;refine zJ.one rfl rfl rfl ?_;refine zn ?_;refine zJ.ins (yy (a:=7) (b:=0) za za) rfl rfl (fun h=>by injection h with h;exact absurd h za) (fun h=>by injection h with h;exact absurd h za) rfl ?_;refine zJ.one rfl rfl rfl ?_;refine zn ?_;refine zJ.one rfl rfl rfl ?_;refine zy (zE 2 0) (by repeat (first|exact zf.nil|refine zf.cons zh ?_)) rfl rfl ?_;refine zA.nil ?_;refine zJ.one rfl rfl rfl ?_;refine zy (XM 32) (by repeat (first|exact zf.nil|refine zf.cons zh ?_)) rfl rfl ?_;refine zA.nil ?_;refine zJ.one rfl rfl rfl ?_;refine zn ?_;refine zJ.ins (yy (a:=7) (b:=11) za za) rfl rfl (fun h=>by injection h with h;exact absurd h za) (fun h=>by injection h with h;exact absurd h za) rfl ?_;refine zJ.one rfl rfl rfl ?_;refine zn ?_;refine zJ.one rfl rfl rfl ?_;refine zn ?_;refine zJ.ins (yy (a:=7) (b:=12) za za) rfl rfl (fun h=>by injection h with h;exact absurd h za) (fun h=>by injection h with h;exact absurd h za) rfl ?_;refine zJ.one rfl rfl rfl ?_;refine zn ?_;refine zJ.one rfl rfl rfl ?_;refine zy (zE 1 0) (by repeat (first|exact zf.nil|refine zf.cons zh ?_)) rfl rfl ?_;refine zA.nil ?_;refine zJ.one rfl rfl rfl ?_;refine zy (YD 0) (by repeat (first|exact zf.nil|refine zf.cons zh ?_)) rfl rfl ?_;refine zA.nil ?_;refine zJ.one rfl rfl rfl ?_;refine zn ?_;refine zJ.ins (yy (a:=8) (b:=0) za za) rfl rfl (fun h=>by injection h with h;exact absurd h za) (fun h=>by injection h with h;exact absurd h za) rfl ?_;refine zJ.one rfl rfl rfl ?_;refine zn ?_;refine zJ.one rfl rfl rfl ?_;refine zy (zE 1 0) (by repeat (first|exact zf.nil|refine zf.cons zh ?_)) rfl rfl ?_;refine zA.nil ?_;refine zJ.one rfl rfl rfl ?_;refine zy (YD 13) (by repeat (first|exact zf.nil|refine zf.cons zh ?_)) rfl rfl ?_;refine zA.nil ?_;refine zJ.one rfl rfl rfl ?_;refine zn ?_;refine zJ.ins (yy (a:=8) (b:=13) za za) rfl rfl (fun h=>by injection h with h;exact absurd h za) (fun h=>by injection h with h;exact absurd h za) rfl ?_;refine zJ.one rfl rfl rfl ?_;refine zn ?_;refine zJ.one rfl rfl rfl ?_;refine zy (zE 0 0) (by repeat (first|exact zf.nil|refine zf.cons zh ?_)) rfl rfl ?_;refine zA.nil ?_;refine zJ.one rfl rfl rfl ?_;refine zn ?_;refine zJ.ins (yy (a:=8) (b:=14) za za) rfl rfl (fun h=>by injection h with h;exact absurd h za) (fun h=>by injection h with h;exact absurd h za) rfl ?_;refine zJ.hold za rfl ?_;refine zJ.one rfl rfl rfl ?_;refine zn ?_;refine zJ.nil ⟨by kernel_rfl,rfl,fun es hp=>?_⟩;unfold ab.mp;refine FW.le (s':=⟨[(1,.omap 100 0)],[(100,⟨0,.aR,56,0,es⟩)]⟩) ?_ (aI.cv [⟨100,some 6,1,⟨0,.aR,56,0,es⟩⟩] zt zu);refine zb ?_;refine zI (es:=[[.int .i64 2],[.int .i64 3],[.int .i64 4]]) rfl rfl rfl (by refine yf.int rfl rfl ?_;refine yf.int rfl rfl ?_;refine yf.int rfl rfl ?_;exact yf.nil) rfl rfl rfl rfl rfl ?_;refine zb ?_;refine FW.loop (fun p:Nat×List (List FV)=>⟨[(1,.omap 100 0),(71,.list 1 [[.int .i64 2],[.int .i64 3],[.int .i64 4]]),(72,.int .i64 3),(73,.int .i64 (p.1:Nat))],[(100,⟨0,.aR,56,0,p.2⟩)]⟩) (fun p=>p.1≤3∧p.2.Perm ((XP++(([2,3,4]:List Int).take p.1).map YP).map Yv)) (fun p=>3 - p.1) (0,es) ⟨xd _,by simpa using hp⟩ ?_ ?_
 ·exact (aI.cv [⟨100,some 100,0,⟨0,.aR,56,0,es⟩⟩] zt zu)
 clear hp es;rintro ⟨i,es⟩ ⟨hi,hp⟩;replace hi:i≤3:=hi;dsimp only at hp;obtain rfl|rfl|rfl|rfl:i=0∨i=1∨i=2∨i=3:=by omega
 ·refine zb ?_;refine yz Zw (XG hp za) (yy (a:=2) (b:=0) za za) (xl (vf:=(YP 2).2.2) hp za) rfl rfl rfl rfl rfl rfl rfl ?_;refine zb ?_;refine ⟨(1,es++[Yv (YP 2)]),⟨(by show 1≤3;decide),xm hp (by rw [zw];rfl)⟩,(by show 3 - 1<3 - 0;decide),?_⟩;exact (aI.cv [⟨100,some 100,0,⟨0,.aR,56,0,es++[Yv (YP 2)]⟩⟩] zt zu)
 ·refine zb ?_;refine yz Zw (XG hp za) (yy (a:=3) (b:=0) za za) (xl (vf:=(YP 3).2.2) hp za) rfl rfl rfl rfl rfl rfl rfl ?_;refine zb ?_;refine ⟨(2,es++[Yv (YP 3)]),⟨(by show 2≤3;decide),xm hp (by rw [zw];rfl)⟩,(by show 3 - 2<3 - 1;decide),?_⟩;exact (aI.cv [⟨100,some 100,0,⟨0,.aR,56,0,es++[Yv (YP 3)]⟩⟩] zt zu)
 ·refine zb ?_;refine yz Zw (XG hp za) (yy (a:=4) (b:=0) za za) (xl (vf:=(YP 4).2.2) hp za) rfl rfl rfl rfl rfl rfl rfl ?_;refine zb ?_;refine ⟨(3,es++[Yv (YP 4)]),⟨(by show 3≤3;decide),xm hp (by rw [zw];rfl)⟩,(by show 3 - 3<3 - 2;decide),?_⟩;exact (aI.cv [⟨100,some 100,0,⟨0,.aR,56,0,es++[Yv (YP 4)]⟩⟩] zt zu)
 refine zb ?_;refine zI (es:=[[.int .i64 2],[.int .i64 3],[.int .i64 4],[.int .i64 5]]) rfl rfl rfl (by refine yf.int rfl rfl ?_;refine yf.int rfl rfl ?_;refine yf.int rfl rfl ?_;refine yf.int rfl rfl ?_;exact yf.nil) rfl rfl rfl rfl rfl ?_;refine zb ?_;refine FW.loop (fun p:Nat×List (List FV)=>⟨[(1,.omap 100 0),(82,.list 1 [[.int .i64 2],[.int .i64 3],[.int .i64 4],[.int .i64 5]]),(83,.int .i64 4),(84,.int .i64 (p.1:Nat))],[(100,⟨0,.aR,56,0,p.2⟩)]⟩) (fun p=>p.1≤4∧p.2.Perm ((XP++([2,3,4]:List Int).map YP++(([2,3,4,5]:List Int).take p.1).map Yq).map Yv)) (fun p=>4 - p.1) (0,es) ⟨xd _,by simpa using hp⟩ ?_ ?_
 ·exact (aI.cv [⟨100,some 100,0,⟨0,.aR,56,0,es⟩⟩] zt zu)
 clear hp es;rintro ⟨i,es⟩ ⟨hi,hp⟩;replace hi:i≤4:=hi;dsimp only at hp;obtain rfl|rfl|rfl|rfl|rfl:i=0∨i=1∨i=2∨i=3∨i=4:=by omega
 ·refine zb ?_;refine Yn (zE 1 0) (by repeat (first|exact zf.nil|refine zf.cons zh ?_)) rfl rfl ?_;refine zb ?_;refine yz Zw (XG hp za) (yy (a:=2) (b:=2) za za) (xl (vf:=(Yq 2).2.2) hp za) rfl rfl rfl rfl rfl rfl rfl ?_;refine zb ?_;refine ⟨(1,es++[Yv (Yq 2)]),⟨(by show 1≤4;decide),xm hp (by rw [zw];rfl)⟩,(by show 4 - 1<4 - 0;decide),?_⟩;exact (aI.cv [⟨100,some 100,0,⟨0,.aR,56,0,es++[Yv (Yq 2)]⟩⟩] zt zu)
 ·refine zb ?_;refine Yn (zE 1 0) (by repeat (first|exact zf.nil|refine zf.cons zh ?_)) rfl rfl ?_;refine zb ?_;refine yz Zw (XG hp za) (yy (a:=3) (b:=2) za za) (xl (vf:=(Yq 3).2.2) hp za) rfl rfl rfl rfl rfl rfl rfl ?_;refine zb ?_;refine ⟨(2,es++[Yv (Yq 3)]),⟨(by show 2≤4;decide),xm hp (by rw [zw];rfl)⟩,(by show 4 - 2<4 - 1;decide),?_⟩;exact (aI.cv [⟨100,some 100,0,⟨0,.aR,56,0,es++[Yv (Yq 3)]⟩⟩] zt zu)
 ·refine zb ?_;refine Yn (zE 1 0) (by repeat (first|exact zf.nil|refine zf.cons zh ?_)) rfl rfl ?_;refine zb ?_;refine yz Zw (XG hp za) (yy (a:=4) (b:=2) za za) (xl (vf:=(Yq 4).2.2) hp za) rfl rfl rfl rfl rfl rfl rfl ?_;refine zb ?_;refine ⟨(3,es++[Yv (Yq 4)]),⟨(by show 3≤4;decide),xm hp (by rw [zw];rfl)⟩,(by show 4 - 3<4 - 2;decide),?_⟩;exact (aI.cv [⟨100,some 100,0,⟨0,.aR,56,0,es++[Yv (Yq 4)]⟩⟩] zt zu)
 ·refine zb ?_;refine Yn (zE 1 0) (by repeat (first|exact zf.nil|refine zf.cons zh ?_)) rfl rfl ?_;refine zb ?_;refine yz Zw (XG hp za) (yy (a:=5) (b:=2) za za) (xl (vf:=(Yq 5).2.2) hp za) rfl rfl rfl rfl rfl rfl rfl ?_;refine zb ?_;refine ⟨(4,es++[Yv (Yq 5)]),⟨(by show 4≤4;decide),xm hp (by rw [zw];rfl)⟩,(by show 4 - 4<4 - 3;decide),?_⟩;exact (aI.cv [⟨100,some 100,0,⟨0,.aR,56,0,es++[Yv (Yq 5)]⟩⟩] zt zu)
 refine zb ?_;refine FW.le ?_ (aI.gF 0 rfl rfl);refine FW.le ?_ (aI.c4 0 rfl hp);exact FW.ret ⟨.inl rfl,.sh (.cons (.tmp 0 rfl rfl) .nil) rfl rfl⟩
end
section
open Go.RowKit Go.Maps
section
variable {c:Ctx} {w0 w:World} {J:JJ} {s:ab} {a:Act} {β:Nat→Option Nat}
theorem qB {dst:Option Nat} {ty:TypeId} {g:Option (Nat×Bool)} (hT:(c.ty T).k=.ao fs) (hf:fs[i]? = some (off,ft)) (dr:(c.ty ft).k.aM = some false) (x:Operand) {us:List Value} {u:Value}
  (ex:a.eval x=.agg us.toArray) (hu:us[off]? = some u):(execOp a.eval ⟨dst,.field T x i,ty,pos,af,g⟩).run c.P w=.ok (.value u) w:=by
 obtain ⟨d,ii,z,ht⟩:=c.get hT zd;have hd:=ht.k;rw [hT] at hd;obtain ⟨gs,rfl,fx,_⟩:=Zq hd;rw [fx,yZ] at hf;cases hg:gs.toList[i]? with
 | none => rw [hg] at hf; cases hf
 | some fl =>
  rw [hg] at hf;simp only [yQ,zB,zU] at hf;obtain ⟨rfl,rfl⟩:=hf;have lZ : gs[i]? = some fl:=by simpa using hg
  have ha:=Yr (c:=c) dr w;simp [execOp,Instr.field,run_underlying ht.u,lZ,ex,asAgg,part,ha,hu,Result.andThen]
theorem aq.fK (hT:(c.ty T).k=.ao fs) (hf:fs[i]? = some (off,ft)) (dr:(c.ty ft).k.aM = some false) (x:Operand) (ex:s.ev x=.agg cs) (hc:cs[off]? = some f) (hn:f.hand=none):aq c s d (.field T x i) f []:=by
 refine .ext rfl (fun h=>by rcases h with ⟨_,_,_,h⟩|⟨_,_,_,_,h⟩ <;> cases h) fun s' h1 _ w0 J a w β ty pos after g aT hF K' Q hK=>?_;have oQ : s'.ev x=.agg cs:=(h1 x zg).trans ex;have hr:=hF.aP oQ rfl;generalize hx:a.eval x=v at hr;cases hr with
 | agg us fs hl hr =>
  have aK:off<us.length:=by rw [hl];exact (zP.1 hc).1
  have hu:us[off]? = some us[off]:=by simp [aK]
  have hG:yh c w0 J s' a ⟨some d,.field T x i,ty,pos,after,g⟩ w f []:=.rd hF (qB hT hf dr x hx hu) (hr off _ _ hu hc) hn;exact hG.wp (fun d' h=>by injection h with h;subst h;exact aT) hK
variable {ops:Array Oper} {rest:List Oper} {t:List (Nat×FV)} {ob:List (Nat×zS)} {ty:TypeId} {pos:String} {af:Array Edge} {g:Option (Nat×Bool)} {d:Nat} {tr:List Rec} {Q:ab→Prop} {QD:ab→List Rec→Prop}
theorem ry {x:Operand} (hx:(⟨t,ob⟩:ab).ev x=.agg cs) (hT:(c.ty T).k=.ao fs) (hf:fs[i]? = some (off,ft)) (dr:(c.ty ft).k.aM = some false) (hc:cs[off]? = some f) (hn:f.hand=none) (hd:Nat.blt d c.N=true)
  (hw:xn ops ⟨t,ob⟩ ⟨some d,.field T x i,ty,pos,af,g⟩ true) (k:zq c ops rest ⟨(d,f)::t,ob⟩ Q):zq c ops (⟨some d,.field T x i,ty,pos,af,g⟩::rest) ⟨t,ob⟩ Q:=
 zq.cons (f:=f) (wr:=[]) (d:=d) (XV hd (aq.fK hT hf dr x hx hc hn)) hw rfl k
theorem rp {x:Operand} (hx:(⟨t,ob⟩:ab).ev x=.agg cs) (hT:(c.ty T).k=.ao fs) (hf:fs[i]? = some (off,ft)) (dr:(c.ty ft).k.aM = some false) (hc:cs[off]? = some f) (hn:f.hand=none) (hd:Nat.blt d c.N=true)
  (hw:xn ops ⟨t,ob⟩ ⟨some d,.field T x i,ty,pos,af,g⟩ true) (k:zA c ops rest ⟨(d,f)::t,ob⟩ (tr++[⟨⟨some d,.field T x i,ty,pos,af,g⟩,f,[],Yf ⟨t,ob⟩ d (.field T x i)⟩]) QD):zA c ops (⟨some d,.field T x i,ty,pos,af,g⟩::rest) ⟨t,ob⟩ tr QD:=
 zA.cons (f:=f) (wr:=[]) (d:=d) (XV hd (aq.fK hT hf dr x hx hc hn)) hw rfl rfl k
end
end
section
open Go.RowKit
theorem oI {α:Type} [Inhabited α] {l:List α} {f:α→Bool}:l.any f=true↔∃ i,i<l.length∧f (nth l i)=true:=by
 rw [ZQ];constructor
 ·rintro ⟨x,hx,h⟩;obtain ⟨i,hi,rfl⟩:=yl hx;exact ⟨i,hi,by rw [Zx hi];exact h⟩
 ·rintro ⟨i,hi,h⟩;exact ⟨_,XK hi,h⟩
def iD (p:Int→Bool) (l:List Int):Int:=if l.any p=true then (l.findIdx p:Nat) else -1
theorem ov {l:List Int} (aK:i<l.length) (h:p (nth l i)=true) (hf:∀ j,j<i→p (nth l j)=false):iD p l=i:=by
 unfold iD;rw [if_pos (oI.2 ⟨i,aK,h⟩),(List.findIdx_eq aK).2 ⟨by rw [← Zx aK];exact h,fun j hj=>by rw [← Zx (show j<l.length by omega)];exact hf j hj⟩]
theorem oy {l:List Int} (hf:∀ j,j<l.length→p (nth l j)=false):iD p l = -1:=by
 unfold iD;rw [if_neg];intro h;obtain ⟨j,h1,h2⟩:=oI.1 h;rw [hf j h1] at h2;cases h2
theorem ox {l:List Int}:decide (iD p l≥0)=l.any p:=by
 unfold iD;cases h:l.any p with
 | true => rw [if_pos rfl]; exact decide_eq_true (Int.natCast_nonneg _)
 | false => rw [if_neg za]; rfl
theorem XE (l:List Int) (cf:Nat) (aE:List FV) (p:Int→Bool) (hl:l.length≤1000000000) (hp:∀ o∈l,zV Tryd.prog cf ([.int .i64 o]++aE) .fr (.bool (p o))):zV Tryd.prog 80 [.list 1 (l.map ZL),.fn cf aE] .fr (.int .i64 (iD p l)):=by
 refine zs 19 Tryd.func80 Tryd.ntmps80 rfl ?_;change FW _ _ _ ⟨[(0,.list 1 (l.map ZL)),(1,.fn cf aE)],[]⟩;refine zb ?_;refine FW.loop (fun i:Nat=>⟨[(0,.list 1 (l.map ZL)),(1,.fn cf aE),(7,.int .i64 l.length),(8,.int .i64 i)],[]⟩) (fun i=>i≤l.length∧∀ j,j<i→p (nth l j)=false) (fun i=>l.length - i) 0 ⟨xd _,fun j hj=>by omega⟩ (aI.cv [] Xo zu) ?_;rintro i ⟨hi,hf⟩;refine zb ?_;refine FW.cond rfl (fun h=>?_) (fun h=>?_)
 ·have aK:i<l.length:=by simpa using h
  clear h;refine zb ?_;refine Yo rfl (hp (nth l i) (XK aK)) (by repeat (first|exact zf.nil|refine zf.cons zh ?_)) rfl rfl ?_;refine zb ?_;refine FW.cond rfl (fun h=>?_) (fun h=>?_)
  ·refine zb ?_;exact FW.ret ⟨.inl rfl,zj rfl rfl (congrArg (FV.int .i64) (ov aK h hf).symm) rfl⟩
  ·refine zb ?_;refine ⟨i+1,⟨by omega,fun j hj=>?_⟩,by omega,(aI.cv [] Xo zu)⟩;rcases xb j i with h1|h1
   ·exact hf j h1
   ·have:j=i:=by omega
    subst this;exact h
 ·obtain rfl:i=l.length:=by simp at h;omega
  refine zb ?_;exact FW.ret ⟨.inl rfl,zj rfl rfl (by rw [oy hf];rfl) rfl⟩
theorem yM (l:List Int) (cf:Nat) (aE:List FV) (p:Int→Bool) (hl:l.length≤1000000000) (hp:∀ o∈l,zV Tryd.prog cf ([.int .i64 o]++aE) .fr (.bool (p o))):zV Tryd.prog 42 [.list 1 (l.map ZL),.fn cf aE] .fr (.bool (l.any p)):=by
 refine zs 9 Tryd.func42 Tryd.ntmps42 rfl ?_;change FW _ _ _ ⟨[(0,.list 1 (l.map ZL)),(1,.fn cf aE)],[]⟩;refine zb ?_;refine zx (XE l cf aE p hl hp) (by repeat (first|exact zf.nil|refine zf.cons zh ?_)) rfl rfl ?_;refine zb ?_;exact FW.ret ⟨.inl rfl,zj rfl rfl (congrArg FV.bool ox) rfl⟩
theorem UE (l:List Int) (v:Int) (hl:l.length≤1000000):zV Tryd.prog 45 [.list 1 (l.map ZL),.int .i64 v] .fr (.int .i64 (iD (fun x=>decide (v=x)) l)):=by
 refine zs 19 Tryd.func45 Tryd.ntmps45 rfl ?_;change FW _ _ _ ⟨[(0,.list 1 (l.map ZL)),(1,.int .i64 v)],[]⟩;refine zb ?_;refine FW.loop (fun j:Nat=>⟨[(0,.list 1 (l.map ZL)),(1,.int .i64 v),(4,.int .i64 0),(7,.int .i64 l.length),(8,.int .i64 j)],[]⟩) (fun j=>j≤l.length∧∀ i,i<j→decide (v=nth l i)=false) (fun j=>l.length - j) 0 ⟨xd _,fun j hj=>by omega⟩ (aI.cv [] Xo zu) ?_;rintro j ⟨hj,hf⟩;refine zb ?_;refine FW.cond rfl (fun h=>?_) (fun h=>?_)
 ·have aK:j<l.length:=by simpa using h
  clear h;have nH:=ov (p:=fun x=>decide (v=x)) aK;obtain ⟨x,hx⟩:∃ x,nth l j=x:=⟨_,rfl⟩
  rw [hx] at nH;refine zb ?_;rw [hx];skip;refine FW.cond rfl (fun h2=>?_) (fun h2=>?_)
  ·refine zb ?_;exact FW.ret ⟨.inl rfl,zj rfl rfl (congrArg (FV.int .i64) (nH h2 hf).symm) rfl⟩
  ·refine zb ?_;refine ⟨j+1,⟨by omega,fun i hi=>?_⟩,by omega,(aI.cv [] Xo zu)⟩;rcases xb i j with h1|h1
   ·exact hf i h1
   ·have:i=j:=by omega
    subst this;rw [hx];exact h2
 ·obtain rfl:j=l.length:=by simp at h;omega
  refine zb ?_;exact FW.ret ⟨.inl rfl,zj rfl rfl (by rw [oy hf];rfl) rfl⟩
theorem Wc (l:List Int) (v:Int) (hl:l.length≤1000000):zV Tryd.prog 13 [.list 1 (l.map ZL),.int .i64 v] .fr (.bool (l.any fun x=>decide (v=x))):=by
 refine zs 9 Tryd.func13 Tryd.ntmps13 rfl ?_;change FW _ _ _ ⟨[(0,.list 1 (l.map ZL)),(1,.int .i64 v)],[]⟩;refine zb ?_;refine zx (UE l v hl) (by repeat (first|exact zf.nil|refine zf.cons zh ?_)) rfl rfl ?_;refine zb ?_;exact FW.ret ⟨.inl rfl,zj rfl rfl (congrArg FV.bool ox) rfl⟩
def gI (k:Int):List Int:=if k=2∨k=5∨k=6 then [0,1] else if k=3∨k=4 then [0,2] else if k=7 then [3,4] else []
def kT (k:Int):FV:=if gI k=[] then .nil else .list 1 ((gI k).map ZL)
theorem Xr (k:Int) (h1:1≤k) (h2:k≤8):zV Tryd.prog 8 [.int .i64 k] .sh (kT k):=by
 obtain rfl|rfl|rfl|rfl|rfl|rfl|rfl|rfl:k=1∨k=2∨k=3∨k=4∨k=5∨k=6∨k=7∨k=8:=by omega
 ·change zV Tryd.prog 8 [.int .i64 1] .sh .nil;refine zs 16 Tryd.func8 Tryd.ntmps8 rfl ?_;change FW _ _ _ ⟨[(0,.int .i64 1)],[]⟩;refine zb ?_;exact FW.ret ⟨.inl rfl,.sh (.cons (.tmp 2 rfl rfl) .nil) rfl rfl⟩
 ·change zV Tryd.prog 8 [.int .i64 2] .sh (.list 1 [[.int .i64 0],[.int .i64 1]]);refine zs 16 Tryd.func8 Tryd.ntmps8 rfl ?_;change FW _ _ _ ⟨[(0,.int .i64 2)],[]⟩;refine zb ?_;refine zI (es:=[[.int .i64 0],[.int .i64 1]]) rfl rfl rfl (by refine yf.int rfl rfl ?_;refine yf.int rfl rfl ?_;exact yf.nil) rfl rfl rfl rfl rfl ?_;refine zb ?_;exact FW.ret ⟨.inl rfl,.sh (.cons (.tmp 2 rfl rfl) .nil) rfl rfl⟩
 ·change zV Tryd.prog 8 [.int .i64 3] .sh (.list 1 [[.int .i64 0],[.int .i64 2]]);refine zs 16 Tryd.func8 Tryd.ntmps8 rfl ?_;change FW _ _ _ ⟨[(0,.int .i64 3)],[]⟩;refine zb ?_;refine zI (es:=[[.int .i64 0],[.int .i64 2]]) rfl rfl rfl (by refine yf.int rfl rfl ?_;refine yf.int rfl rfl ?_;exact yf.nil) rfl rfl rfl rfl rfl ?_;refine zb ?_;exact FW.ret ⟨.inl rfl,.sh (.cons (.tmp 2 rfl rfl) .nil) rfl rfl⟩
 ·change zV Tryd.prog 8 [.int .i64 4] .sh (.list 1 [[.int .i64 0],[.int .i64 2]]);refine zs 16 Tryd.func8 Tryd.ntmps8 rfl ?_;change FW _ _ _ ⟨[(0,.int .i64 4)],[]⟩;refine zb ?_;refine zI (es:=[[.int .i64 0],[.int .i64 2]]) rfl rfl rfl (by refine yf.int rfl rfl ?_;refine yf.int rfl rfl ?_;exact yf.nil) rfl rfl rfl rfl rfl ?_;refine zb ?_;exact FW.ret ⟨.inl rfl,.sh (.cons (.tmp 2 rfl rfl) .nil) rfl rfl⟩
 ·change zV Tryd.prog 8 [.int .i64 5] .sh (.list 1 [[.int .i64 0],[.int .i64 1]]);refine zs 16 Tryd.func8 Tryd.ntmps8 rfl ?_;change FW _ _ _ ⟨[(0,.int .i64 5)],[]⟩;refine zb ?_;refine zI (es:=[[.int .i64 0],[.int .i64 1]]) rfl rfl rfl (by refine yf.int rfl rfl ?_;refine yf.int rfl rfl ?_;exact yf.nil) rfl rfl rfl rfl rfl ?_;refine zb ?_;exact FW.ret ⟨.inl rfl,.sh (.cons (.tmp 2 rfl rfl) .nil) rfl rfl⟩
 ·change zV Tryd.prog 8 [.int .i64 6] .sh (.list 1 [[.int .i64 0],[.int .i64 1]]);refine zs 16 Tryd.func8 Tryd.ntmps8 rfl ?_;change FW _ _ _ ⟨[(0,.int .i64 6)],[]⟩;refine zb ?_;refine zI (es:=[[.int .i64 0],[.int .i64 1]]) rfl rfl rfl (by refine yf.int rfl rfl ?_;refine yf.int rfl rfl ?_;exact yf.nil) rfl rfl rfl rfl rfl ?_;refine zb ?_;exact FW.ret ⟨.inl rfl,.sh (.cons (.tmp 2 rfl rfl) .nil) rfl rfl⟩
 ·change zV Tryd.prog 8 [.int .i64 7] .sh (.list 1 [[.int .i64 3],[.int .i64 4]]);refine zs 16 Tryd.func8 Tryd.ntmps8 rfl ?_;change FW _ _ _ ⟨[(0,.int .i64 7)],[]⟩;refine zb ?_;refine zI (es:=[[.int .i64 3],[.int .i64 4]]) rfl rfl rfl (by refine yf.int rfl rfl ?_;refine yf.int rfl rfl ?_;exact yf.nil) rfl rfl rfl rfl rfl ?_;refine zb ?_;exact FW.ret ⟨.inl rfl,.sh (.cons (.tmp 2 rfl rfl) .nil) rfl rfl⟩
 ·change zV Tryd.prog 8 [.int .i64 8] .sh .nil;refine zs 16 Tryd.func8 Tryd.ntmps8 rfl ?_;change FW _ _ _ ⟨[(0,.int .i64 8)],[]⟩;refine zb ?_;exact FW.ret ⟨.inl rfl,.sh (.cons (.tmp 2 rfl rfl) .nil) rfl rfl⟩
def iH (o:aF):Bool:=decide (o.k=1) || decide (o.k=2) || decide (o.k=3)
def nY (o:aF):Bool:=o.done && (decide (o.k=0) || decide (o.k=2) || decide (o.k=4))
theorem ZK (o:aF):zV Tryd.prog 14 [.agg o.fv] .fr (.bool (iH o)):=by
 obtain ⟨p,k,ke,ar,re,ca,rt,dn⟩:=o;refine zs 16 Tryd.func14 Tryd.ntmps14 rfl ?_;change FW _ _ _ ⟨[(0,.agg (aF.fv ⟨p,k,ke,ar,re,ca,rt,dn⟩))],[]⟩;unfold iH aF.fv;dsimp only;refine zb ?_;refine yG (fun h1=>?_) (fun h1=>?_)
 ·rw [h1];refine zb ?_;exact FW.ret ⟨.inl rfl,zj rfl rfl rfl rfl⟩
 ·rw [h1];refine zb ?_;refine yG (fun h2=>?_) (fun h2=>?_)
  ·rw [h2];refine zb ?_;exact FW.ret ⟨.inl rfl,zj rfl rfl rfl rfl⟩
  ·rw [h2];refine zb ?_;exact FW.ret ⟨.inl rfl,zj rfl rfl rfl rfl⟩
theorem xM (o:aF):zV Tryd.prog 52 [.agg o.fv] .fr (.bool (nY o)):=by
 obtain ⟨p,k,ke,ar,re,ca,rt,dn⟩:=o;refine zs 20 Tryd.func52 Tryd.ntmps52 rfl ?_;change FW _ _ _ ⟨[(0,.agg (aF.fv ⟨p,k,ke,ar,re,ca,rt,dn⟩))],[]⟩;unfold nY aF.fv;dsimp only;refine zb ?_;refine yG (fun h1=>?_) (fun h1=>?_)
 ·subst h1;refine zb ?_;refine yG (fun h2=>?_) (fun h2=>?_)
  ·rw [h2];refine zb ?_;exact FW.ret ⟨.inl rfl,zj rfl rfl rfl rfl⟩
  ·rw [h2];refine zb ?_;refine yG (fun h3=>?_) (fun h3=>?_)
   ·rw [h3];refine zb ?_;exact FW.ret ⟨.inl rfl,zj rfl rfl rfl rfl⟩
   ·rw [h3];refine zb ?_;exact FW.ret ⟨.inl rfl,zj rfl rfl rfl rfl⟩
 ·subst h1;refine zb ?_;exact FW.ret ⟨.inl rfl,zj rfl rfl rfl rfl⟩
theorem oA:Maps.Keyed Tryd.prog 65:=Maps.Keyed.of_law (deep_law_laid oe (m:=2) zc (of_decide_eq_true zm) zm zm)
theorem m0 (ha:bx a) (hb:bx b):Zs Tryd.prog 65 (UG a b):=
 ⟨rfl,VI (i:=3) (fs:=oa Tryd.prog 65) zm zm zm zm zm zm zm (Tryd.prog.types.size - 1) zm (VL ha) (VL hb)⟩
def Zy (l:List aF) (i:Nat):List (Int×Int):=((l.take i).filter iH).map fun o=>(o.key,o.arg)
def Vi (l:List aF) (i:Nat):List (List FV):=(Zy l i).map fun p=>[UG p.1 p.2,.bool true]
theorem UK (hi:i<l.length):Zy l (i+1)=Zy l i++if iH (nth l i)=true then [((nth l i).key,(nth l i).arg)] else []:=by
 unfold Zy;rw [ZV hi,List.filter_append,Zl,← Zx hi];congr 1;by_cases h:iH (nth l i)=true <;> simp [h]
theorem qy (hi:i<l.length):Vi l (i+1)=Vi l i++if iH (nth l i)=true then [[UG (nth l i).key (nth l i).arg,.bool true]] else []:=by
 unfold Vi;rw [UK hi,Zl];congr 1;split <;> rfl
theorem rk (cn:∀ o∈l,jB o) {p:Int×Int} (hp:p∈Zy l i):bx p.1∧bx p.2:=by
 obtain ⟨o,ho,rfl⟩:=zK.1 hp;have:=cn o (yx (List.mem_filter.1 ho).1);exact ⟨this.2.2.1,this.2.2.2.1⟩
theorem rz (cn:∀ o∈l,jB o):∀ row∈Vi l i,∀ kf,row.head? = some kf→Zs Tryd.prog 65 kf:=fun row hr kf hk=>by
 obtain ⟨p,hp,rfl⟩:=zK.1 hr;have ho:=rk cn hp;injection hk with hk
 subst hk;exact m0 ho.1 ho.2
theorem Wv (h:(a,b)∉Zy l i):∀ row∈Vi l i,row.head?≠some (UG a b):=fun row hr he=>by
 obtain ⟨p,hp,rfl⟩:=zK.1 hr;injection he with he
 unfold UG at he;injection he with he
 injection he with h1 h2
 injection h1 with _ h1
 injection h2 with h2 _
 injection h2 with _ h2
 obtain ⟨x,y⟩:=p;dsimp only at h1 h2;rw [h1,h2] at hp;exact h hp
theorem sL {B:Bool} (hB:decide ((a,b)∈Zy l i)=B):XZ (Vi l i) (UG a b) (.bool false) (.bool B) B:=by
 by_cases h:(a,b)∈Zy l i
 ·rw [decide_eq_true h] at hB;subst hB;exact .inl ⟨rfl,zK.2 ⟨(a,b),h,rfl⟩⟩
 ·rw [decide_eq_false h] at hB;subst hB;exact .inr ⟨rfl,rfl,Wv h⟩
def iF (K:List Int) (l:List aF) (i:Nat):Bool:=(K.any fun x=>decide ((nth l i).k=x)) && (!iH (nth l i) || (!decide ((nth l i).arg=0) && !decide (((nth l i).key,(nth l i).arg)∈Zy l i)))
def iJ (K:List Int) (l:List aF):Bool:=decide (Yj l=0) && (List.range l.length).all (iF K l)
theorem sJ {K:List Int} (hi:i<l.length) (h:iF K l i=false):iJ K l=false:=by
 cases hd:iJ K l with
 | false => rfl
 | true =>
  unfold iJ at hd;rw [zD,zC] at hd;rw [hd.2 i (by simpa using hi)] at h;cases h
theorem Vq (k:Int) (h1:2≤k) (h2:k≤7):zV Tryd.prog 8 [.int .i64 k] .sh (.list 1 ((gI k).map ZL)):=by
 have h3:kT k=.list 1 ((gI k).map ZL):=by
  unfold kT;rw [if_neg];obtain rfl|rfl|rfl|rfl|rfl|rfl:k=2∨k=3∨k=4∨k=5∨k=6∨k=7:=by omega
  all_goals decide
 rw [← h3];exact Xr k zc zc
theorem WY (k:Int) (h1:2≤k) (h2:k≤7) (l:List aF) (hl:l.length≤1000000) (cn:∀ o∈l,jB o):zV Tryd.prog 9 [.int .i64 k,.list 8 (l.map aF.fv)] .fr (.bool (iJ (gI k) l)):=by
 have fS:=Vq k h1 h2;have hlen:(gI k).length≤1000000:=by
  unfold gI;split
  ·decide
  ·split
   ·decide
   ·split <;> decide
 generalize gI k=K at fS hlen;have nD:=UD l cn zc;obtain ⟨E,hE⟩:∃ E,iJ K l=E:=⟨_,rfl⟩
 rw [hE];have gL:Yj l≠0→E=false:=fun h=>by rw [← hE];unfold iJ;rw [decide_eq_false h];rfl
 have nw:Yj l=0→(∀ j,j<l.length→iF K l j=true)→E=true:=fun h hd=>by
  rw [← hE];unfold iJ;rw [decide_eq_true h,Bool.true_and,zC];exact fun j hj=>hd j (by simpa using hj)
 have oS:∀ i,i<l.length→iF K l i=false→E=false:=fun i hi h=>by rw [← hE];exact sJ hi h
 generalize Yj l=C at nD gL nw;refine zs 46 Tryd.func9 Tryd.ntmps9 rfl ?_;change FW _ _ _ ⟨[(0,.int .i64 k),(1,.list 8 (l.map aF.fv))],[]⟩;refine zb ?_;refine zx nD (by repeat (first|exact zf.nil|refine zf.cons zh ?_)) rfl rfl ?_;refine zb ?_;refine FW.cond rfl (fun h=>?_) (fun h=>?_)
 ·obtain rfl:=gL (by simpa using h);refine zb ?_;exact FW.ret ⟨.inl rfl,zj rfl rfl rfl rfl⟩
 have h0:C=0:=by simpa using h
 refine zb ?_;refine FW.loop (fun i:Nat=>⟨[(0,.int .i64 k),(5,.omap 100 0),(12,.list 8 (l.map aF.fv)),(13,.int .i64 l.length),(14,.int .i64 i)],[(100,⟨0,.aR,61,0,Vi l i⟩)]⟩) (fun i=>i≤l.length∧∀ j,j<i→iF K l j=true) (fun i=>l.length - i) 0 ⟨xd _,fun j hj=>absurd hj zc⟩ ?_ ?_
 ·exact (aI.cv [⟨100,some 11,1,⟨0,.aR,61,0,[]⟩⟩] zt zu)
 rintro i ⟨hi,dC⟩;refine zb ?_;refine FW.cond rfl (fun h=>?_) (fun h=>?_)
 ·have aK:i<l.length:=by simpa using h
  clear h;have step:iF K l i=true→∀ j,j<i+1→iF K l j=true:=fun h0 j hj=>by
   rcases xb j i with h1|h1
   ·exact dC j h1
   ·have:j=i:=by omega
    subst this;exact h0
  have bad:=oS i aK;have ho:=cn _ (XK aK);have hw:=ZK (nth l i);have jm:=qy aK;obtain ⟨o,nO⟩:∃ o,nth l i=o:=⟨_,rfl⟩
  unfold iF at step bad;rw [nO] at step bad ho jm hw;have eO:=rz (i:=i) cn;have kc:=Wc K o.k hlen;obtain ⟨B,hB⟩:∃ B,decide ((o.key,o.arg)∈Zy l i)=B:=⟨_,rfl⟩
  have ir:=sL hB;have dH:B=false→∀ row∈Vi l i,row.head?≠some (UG o.key o.arg):=fun h=>Wv (of_decide_eq_false (hB.trans h));rw [hB] at step bad;generalize Vi l i=R at jm eO ir dH;generalize (K.any fun x=>decide (o.k=x))=KB at kc step bad;generalize iH o=WB at hw step bad jm;refine zb ?_;rw [nO];refine xh ?_;refine zy fS (by repeat (first|exact zf.nil|refine zf.cons zh ?_)) rfl rfl ?_;refine zn ?_;refine YA kc (by repeat (first|exact zf.nil|refine zf.cons zh ?_)) rfl rfl ?_;refine zn ?_;refine ⟨by kernel_rfl,?_⟩;skip;refine FW.cond rfl (fun h=>?_) (fun h=>?_)
  ·obtain rfl:KB=false:=by simpa using h
   obtain rfl:=bad rfl;refine zb ?_;exact FW.ret ⟨.inl rfl,zj rfl rfl rfl rfl⟩
  obtain rfl:KB=true:=by simpa using h
  refine zb ?_;refine zx hw (by repeat (first|exact zf.nil|refine zf.cons zh ?_)) rfl rfl ?_;refine zb ?_;refine FW.cond rfl (fun h3=>?_) (fun h3=>?_)
  ·obtain rfl:WB=false:=by simpa using h3
   rw [if_neg za,Zf] at jm;refine zb ?_;refine ⟨i+1,⟨by omega,step rfl⟩,by omega,?_⟩;rw [jm];exact (aI.cv [⟨100,some 100,0,⟨0,.aR,61,0,R⟩⟩] zt zu)
  obtain rfl:WB=true:=by simpa using h3
  refine zb ?_;refine yG (fun h4=>?_) (fun h4=>?_)
  ·obtain rfl:=bad (by rw [h4];rfl);refine zb ?_;exact FW.ret ⟨.inl rfl,zj rfl rfl rfl rfl⟩
  refine zb ?_;refine Ua (e:=4) oA eO (m0 ho.2.2.1 ho.2.2.2.1) ir rfl rfl za rfl rfl rfl rfl rfl ⟨_,_,rfl,rfl,rfl⟩ ?_;refine zb ?_;refine FW.cond rfl (fun h5=>?_) (fun h5=>?_)
  ·obtain rfl:B=true:=h5;obtain rfl:=bad (by rw [h4];rfl);refine zb ?_;exact FW.ret ⟨.inl rfl,zj rfl rfl rfl rfl⟩
  obtain rfl:B=false:=h5;refine zb ?_;refine yz oA eO (m0 ho.2.2.1 ho.2.2.2.1) (.inr ⟨dH rfl,rfl⟩) rfl rfl rfl rfl rfl rfl rfl ?_;refine zb ?_;rw [if_pos rfl] at jm;refine ⟨i+1,⟨by omega,step (by rw [h4];rfl)⟩,by omega,?_⟩;rw [jm];exact (aI.cv [⟨100,some 100,0,⟨0,.aR,61,0,R++[[UG o.key o.arg,.bool true]]⟩⟩] zt zu)
 ·obtain rfl:i=l.length:=by simp at h;omega
  obtain rfl:=nw h0 dC;refine zb ?_;exact FW.ret ⟨.inl rfl,zj rfl rfl rfl rfl⟩
structure bN where
 k:Int
 nd:Int:=0
 fk:Int:=0
 fa:Int:=0
 fb:Int:=0
 fn:Int:=0
 kids:List (List FV):=[]
 ops:List (List FV):=[]
 tr:List (List FV):=[]
 fl:List (List FV):=[]
 cl:Int:=0
 ar:Int:=0
 ed:List (List FV):=[]
def bN.c (x:bN):FV:=.agg [.int .i64 x.k,.int .i64 x.nd,.int .i64 x.fk,.int .i64 x.fa,.int .i64 x.fb,.int .i64 x.fn,.list 5 x.kids]
def bN.e (x:bN):FV:=.agg [.list 8 x.ops,.list 1 x.tr,.list 4 x.fl]
def bN.v (x:bN) (od:FV):FV:=.agg [.int .i64 x.k,.int .i64 x.cl,.int .i64 x.ar,od,.list 3 x.ed]
def bN.x (x:bN) (od:FV):FV:=.agg [.int .i64 x.k,.int .i64 x.nd,.int .i64 x.fk,.int .i64 x.fa,.int .i64 x.fb,.int .i64 x.fn,.list 5 x.kids,.list 8 x.ops,.list 1 x.tr,.list 4 x.fl,.int .i64 x.k,.int .i64 x.cl,.int .i64 x.ar,od,.list 3 x.ed]
def kS (od:FV):Prop:=od.one=true
theorem YH:∀ row∈xN.map Yv,∀ kf,row.head? = some kf→Zs Tryd.prog 59 kf:=m3 Ue
theorem UN {k cl:Int} (h:∀ p∈xN,¬ (p.1=k∧p.2.1=cl)):∀ row∈xN.map Yv,row.head?≠some (UG k cl):=fun row hr e=>by
 obtain ⟨p,hp,rfl⟩:=zK.1 hr;injection e with e
 exact h p hp (Vc e)
theorem Xk (x:bN) (od:FV) (eb:kS od) (hk:1≤x.k∧x.k≤8) (cm:bx x.cl) (bd:Bool) (fS:(kT x.k=.nil∧bd=true)∨(kT x.k=.list 1 ((gI x.k).map ZL)∧gI x.k≠[]∧zV Tryd.prog 9 [.int .i64 x.k,.list 8 x.ops] .fr (.bool bd)))
  (known:Bool) (dB:known=false→∀ p∈xN,¬ (p.1=x.k∧p.2.1=x.cl)) (sf pf:Nat) (sc pc:List FV) (jn:known=true→(x.k,x.cl,.agg [.fn sf sc,.fn pf pc])∈xN) (bs bi bp:Bool)
  (hs:known=true→zV Tryd.prog sf ([x.x od]++sc) .fr (.bool bs)) (hi:known=true→bs=true→zV Tryd.prog 11 [x.x od] .fr (.bool bi)) (hp:known=true→bs=true→bi=true→zV Tryd.prog pf ([x.x od]++pc) .fr (.bool bp))
  (E:Int) (nv:bd=false→E=22) (gL:bd=true→E=if known && (bs && bi) then (if bp then 0 else 31) else 30):zV Tryd.prog 7 [x.c,x.e,x.v od] .fr (.int .i64 E):=by
 have fR:=Xr x.k hk.1 hk.2;obtain ⟨k,nd,fk,fa,fb,fn,kids,ops,tr,fl,cl,ar,ed⟩:=x;obtain ⟨h1,h2⟩:=hk;have eH:bx k:=⟨by dsimp only at h1;omega,by dsimp only at h2;omega⟩
 unfold bN.c bN.e bN.v;unfold bN.x at hs hi hp;dsimp only at h1 h2 cm fS dB jn hs hi hp fR ⊢;have lK:[FV.int .i64 k,.int .i64 cl,.int .i64 ar,od,.list 3 ed].all FV.one=true:=by simp only [ZP,List.all_nil,show od.one=true from eb];rfl
 have j7:[FV.int .i64 k,.int .i64 nd,.int .i64 fk,.int .i64 fa,.int .i64 fb,.int .i64 fn,.list 5 kids,.list 8 ops,.list 1 tr,.list 4 fl,.int .i64 k,.int .i64 cl,.int .i64 ar,od,.list 3 ed].all FV.one=true:=by simp only [ZP,List.all_nil,show od.one=true from eb];rfl
 rcases fS with ⟨hd,rfl⟩|⟨hd,bK,ie⟩
 all_goals rw [hd] at fR
 all_goals (
  refine zs 72 Tryd.func7 Tryd.ntmps7 rfl ?_;change FW _ _ _ ⟨[(0,_),(1,_),(2,_)],[]⟩;refine zb ?_;refine zq.bW (xV rfl rfl lK rfl rfl) rfl rfl ?_;refine zb ?_;refine yG (fun h=>absurd (of_decide_eq_true h) zc) (fun h3=>?_);rw [h3];refine zb ?_;refine yG (fun h=>absurd (of_decide_eq_true h) zc) (fun h4=>?_);rw [h4];refine zb ?_;refine FW.cond rfl (fun h=>absurd (of_decide_eq_true h) zd) (fun h5=>?_);refine zb ?_;refine Yn fR (by repeat (first|exact zf.nil|refine zf.cons zh ?_)) rfl rfl ?_
  first
  | (
    refine zq.ak (rK rfl rfl rfl (by simpa using bK)) rfl rfl ?_;refine zb ?_;refine zx ie (by repeat (first|exact zf.nil|refine zf.cons zh ?_)) rfl ⟨_,_,rfl,rfl,rfl⟩ ?_;refine zb ?_;refine FW.cond rfl (fun h=>?_) (fun h=>?_)
    (·
      obtain rfl:bd=false:=by simpa using h
      obtain rfl:=nv rfl;refine zb ?_;exact FW.ret ⟨.inl rfl,zj rfl rfl rfl rfl⟩)
    obtain rfl:bd=true:=by simpa using h
    refine zb ?_)
  | refine zb ?_
  refine xw.agg rfl rfl lK rfl (WE _ _) rfl ?_;refine xw.nil ?_;show zq _ _ _ ⟨(40,.agg [.int .i64 k,.int .i64 nd,.int .i64 fk,.int .i64 fa,.int .i64 fb,.int .i64 fn,.list 5 kids,.list 8 ops,.list 1 tr,.list 4 fl,.int .i64 k,.int .i64 cl,.int .i64 ar,od,.list 3 ed])::_,_⟩ _
  (repeat (first|refine zq.bW (ZZ rfl rfl rfl rfl rfl) rfl rfl ?_))
  refine zq.er (Zo rfl rfl j7 rfl rfl rfl rfl rfl) rfl ?_;refine zb ?_;have gL:=gL rfl;clear lK j7 hd fR h3 h4 h5 nv;refine FW.le (s':=⟨[(3,.ptr 103 0 0 0),(5,.ptr 105 0 0 0),(7,.ptr 107 0 0 0)],[(103,⟨0,.own,39,7,[[.int .i64 k,.int .i64 nd,.int .i64 fk,.int .i64 fa,.int .i64 fb,.int .i64 fn,.list 5 kids]]⟩),(105,⟨0,.own,28,5,[[.int .i64 k,.int .i64 cl,.int .i64 ar,od,.list 3 ed]]⟩),(107,⟨0,.own,51,15,[[.int .i64 k,.int .i64 nd,.int .i64 fk,.int .i64 fa,.int .i64 fb,.int .i64 fn,.list 5 kids,.list 8 ops,.list 1 tr,.list 4 fl,.int .i64 k,.int .i64 cl,.int .i64 ar,od,.list 3 ed]]⟩)]⟩) ?_ (aI.cv [⟨103,some 3,1,⟨0,.own,39,7,[[.int .i64 k,.int .i64 nd,.int .i64 fk,.int .i64 fa,.int .i64 fb,.int .i64 fn,.list 5 kids]]⟩⟩,⟨105,some 5,1,⟨0,.own,28,5,[[.int .i64 k,.int .i64 cl,.int .i64 ar,od,.list 3 ed]]⟩⟩,⟨107,some 7,1,⟨0,.own,51,15,[[.int .i64 k,.int .i64 nd,.int .i64 fk,.int .i64 fa,.int .i64 fb,.int .i64 fn,.list 5 kids,.list 8 ops,.list 1 tr,.list 4 fl,.int .i64 k,.int .i64 cl,.int .i64 ar,od,.list 3 ed]]⟩⟩] zt zu);refine xh ?_;refine zy qA (by repeat (first|exact zf.nil)) rfl rfl ?_;refine zn ?_;cases known
  (·
    obtain rfl:=gL;refine VT (e:=54) Zw rfl YH (yy eH cm) (.inr ⟨rfl,rfl,UN (dB rfl)⟩) rfl rfl rfl rfl rfl rfl rfl ?_;refine zn ?_;refine ⟨by kernel_rfl,?_⟩;refine FW.le (s':=⟨[(9,.bool false)],[]⟩) ?_ (aI.cv [] Xo zu);refine zb ?_;exact FW.ret ⟨.inl rfl,zj rfl rfl rfl rfl⟩)
  refine VT (e:=54) Zw rfl YH (yy eH cm) (.inl ⟨rfl,zK.2 ⟨_,jn rfl,rfl⟩⟩) rfl rfl rfl rfl rfl rfl rfl ?_;refine zn ?_;refine ⟨by kernel_rfl,?_⟩;refine FW.le (s':=⟨[(7,.ptr 107 0 0 0),(8,.ptr 108 0 0 0),(9,.bool true)],[(107,⟨0,.own,51,15,[[.int .i64 k,.int .i64 nd,.int .i64 fk,.int .i64 fa,.int .i64 fb,.int .i64 fn,.list 5 kids,.list 8 ops,.list 1 tr,.list 4 fl,.int .i64 k,.int .i64 cl,.int .i64 ar,od,.list 3 ed]]⟩),(108,⟨0,.own,54,2,[[.fn sf sc,.fn pf pc]]⟩)]⟩) ?_ (aI.cv [⟨107,some 107,0,⟨0,.own,51,15,[[.int .i64 k,.int .i64 nd,.int .i64 fk,.int .i64 fa,.int .i64 fb,.int .i64 fn,.list 5 kids,.list 8 ops,.list 1 tr,.list 4 fl,.int .i64 k,.int .i64 cl,.int .i64 ar,od,.list 3 ed]]⟩⟩,⟨108,some 8,1,⟨0,.own,54,2,[[.fn sf sc,.fn pf pc]]⟩⟩] zt zu);have hs:=hs rfl;have hi:=hi rfl;have hp:=hp rfl;clear jn dB;refine zb ?_;refine Yo rfl hs (by repeat (first|exact zf.nil|refine zf.cons zh ?_)) rfl ⟨_,_,rfl,rfl,rfl⟩ ?_;cases bs
  (·
    obtain rfl:=gL;refine zb ?_;exact FW.ret ⟨.inl rfl,zj rfl rfl rfl rfl⟩)
  refine zb ?_;refine zx (hi rfl) (by repeat (first|exact zf.nil|refine zf.cons zh ?_)) rfl ⟨_,_,rfl,rfl,rfl⟩ ?_;cases bi
  (·
    obtain rfl:=gL;refine zb ?_;exact FW.ret ⟨.inl rfl,zj rfl rfl rfl rfl⟩)
  refine zb ?_;refine Yo rfl (hp rfl rfl) (by repeat (first|exact zf.nil|refine zf.cons zh ?_)) rfl rfl ?_;cases bp
  (·
    obtain rfl:=gL;refine zb ?_;exact FW.ret ⟨.inl rfl,zj rfl rfl rfl rfl⟩)
  obtain rfl:=gL;refine zb ?_;exact FW.ret ⟨.inl rfl,zj rfl rfl rfl rfl⟩)
theorem bN.one (x:bN) {od:FV} (h:od.one=true):[FV.int .i64 x.k,.int .i64 x.nd,.int .i64 x.fk,.int .i64 x.fa,.int .i64 x.fb,.int .i64 x.fn,.list 5 x.kids,.list 8 x.ops,.list 1 x.tr,.list 4 x.fl,.int .i64 x.k,.int .i64 x.cl,.int .i64 x.ar,od,.list 3 x.ed].all FV.one=true:=by
 simp only [ZP,List.all_nil,h];rfl
def oN (od:FV) (n:Nat):Prop:=(od=.nil∧n=0)∨∃ es,od=.list 1 es∧es.length=n
theorem UP (x:bN) (od:FV) (n:Nat) (eb:oN od n) (o g:Int):zV Tryd.prog 46 ([x.x od]++[vc (.int .i64 o),vc (.int .i64 g)]) .fr (.bool (decide ((n:Int)=o) && decide ((x.ed.length:Int)=g))):=by
 obtain ⟨m,hm⟩:∃ m,x.ed.length=m:=⟨_,rfl⟩
 rw [hm];unfold bN.x vc;rcases eb with ⟨rfl,rfl⟩|⟨es,rfl,rfl⟩
 all_goals (
  refine zs 21 Tryd.func46 Tryd.ntmps46 rfl ?_;change FW _ _ _ ⟨[(0,_),(1,_),(2,_)],[]⟩;refine zb ?_;refine yG (fun h=>?_) (fun h=>?_)
  (·
    rw [h];refine zb ?_;rw [hm];exact FW.ret ⟨.inl rfl,zj rfl rfl (congrArg FV.bool (by simp at h;simp [h])) rfl⟩)
  rw [h];refine zb ?_;exact FW.ret ⟨.inl rfl,zj rfl rfl (congrArg FV.bool (by simp at h;simp [h])) rfl⟩)
theorem xK (lo hi i:Int):zV Tryd.prog 43 ([.int .i64 i]++[vc (.int .i64 lo),vc (.int .i64 hi)]) .fr (.bool (decide (i<lo) || decide (i > hi))):=by
 unfold vc;refine zs 13 Tryd.func43 Tryd.ntmps43 rfl ?_;change FW _ _ _ ⟨[(0,_),(1,_),(2,_)],[]⟩;refine zb ?_;refine yG (fun h=>?_) (fun h=>?_)
 ·rw [h];refine zb ?_;exact FW.ret ⟨.inl rfl,zj rfl rfl rfl rfl⟩
 ·rw [h];refine zb ?_;exact FW.ret ⟨.inl rfl,zj rfl rfl rfl rfl⟩
theorem ZD (l:List Int) (hl:l≠[]) (hlen:l.length≤1000000):zV Tryd.prog 41 [.list 1 (l.map ZL)] (.ow 3 1) (.list 1 (l.map ZL)):=by
 refine zs 8 Tryd.func41 Tryd.ntmps41 rfl ?_;change FW _ _ _ ⟨[(0,.list 1 (l.map ZL))],[]⟩;refine zb ?_;refine zq.ak (qe rfl rfl rfl (by simpa using hl)) rfl rfl ?_;refine zb ?_;refine FW.ret ⟨.inl rfl,sK rfl rfl rfl zd za rfl (fun e he=>by obtain ⟨b,_,rfl⟩:=zK.1 he;rfl)⟩
theorem ZE:zV Tryd.prog 41 [.nil] .fr .nil:=by
 refine zs 8 Tryd.func41 Tryd.ntmps41 rfl ?_;change FW _ _ _ ⟨[(0,.nil)],[]⟩;refine zb ?_;exact FW.ret ⟨.inl rfl,zj rfl rfl rfl rfl⟩
theorem Uj (a b c:Int) (os es:List (List FV)) (h1:os.length≤1000000) (h2:es.length≤1000000):zV Tryd.prog 5 [.agg [.int .i64 a,.int .i64 b,.int .i64 c,.list 1 os,.list 3 es]] .fr (.int .i64 ((os.length:Int)+es.length)):=by
 refine zs 12 Tryd.func5 Tryd.ntmps5 rfl ?_;change FW _ _ _ ⟨[(0,_)],[]⟩;refine zb ?_;exact FW.ret ⟨.inl rfl,zj rfl rfl rfl rfl⟩
def ll (x:bN):Int:=if x.k=8 then -1 else 0
def k7 (x:bN):Int:=if x.k=1 then (x.fl.length:Int) - 1 else if x.k=8 then (x.tr.length:Int) - 1 else (x.ops.length:Int) - 1
def gV (x:bN) (i:Int):Bool:=decide (i<ll x) || decide (i > k7 x)
def jt (O:List Int):FV:=if O=[] then .nil else .list 1 (O.map ZL)
def cU (E:List (Int×Int×Int)):List Int:=E.flatMap fun e=>[e.1,e.2.1]
def jA (e:Int×Int×Int):List FV:=[.int .i64 e.1,.int .i64 e.2.1,.int .i64 e.2.2]
theorem WP {E:List (Int×Int×Int)} (hi:i<E.length):cU (E.take (i+1))=cU (E.take i)++[(nth E i).1,(nth E i).2.1]:=by
 unfold cU;rw [ZV hi,List.flatMap_append,Zx hi];simp
theorem Ux (E:List (Int×Int×Int)):(cU E).length=2 * E.length:=by
 unfold cU
 induction E with
 | nil => rfl
 | cons e E ih => rw [YT, zT, ih]; simp; omega
theorem WZ (x:bN) (O:List Int) (E:List (Int×Int×Int)) (hE:x.ed=E.map jA) (hO:O.length≤100000) (jG:E.length≤100000) (h1:x.fl.length≤1000000) (h2:x.tr.length≤1000000) (h3:x.ops.length≤1000000) (cR:x.k=1):zV Tryd.prog 11 [x.x (jt O)] .fr (.bool (!((O++cU E).any (gV x)))):=by
 have gp:gV x=fun i=>decide (i<0) || decide (i > (x.fl.length:Int) - 1):=by
  funext i;unfold gV ll k7;simp [cR]
 rw [gp];have cn:=xK (0) ((x.fl.length:Int) - 1);generalize cd:(x.fl.length:Int) - 1=mx at cn ⊢;obtain ⟨A,hA⟩:∃ A:Nat→List Int,A=fun i=>O++cU (E.take i):=⟨_,rfl⟩
 have c9:A 0=O:=by rw [hA];simp [cU]
 have eJ:∀ i,i<E.length→A (i+1)=A i++[(nth E i).1,(nth E i).2.1]:=fun i hi=>by rw [hA];show O++cU (E.take (i+1))=_;rw [WP hi,← zw]
 have ia:O++cU E=A E.length:=by rw [hA];show _=O++cU (E.take E.length);rw [YZ]
 have ib:∀ i,i≤E.length→(A i).length=O.length+2 * i:=fun i hi=>by rw [hA];show (O++cU (E.take i)).length=_;rw [zT,Ux,zW,xc hi]
 rw [ia];clear hA ia;have kd:=yM (A E.length) 43 [vc (.int .i64 0),vc (.int .i64 mx)] _ (by rw [ib _ (zi _)];omega) (fun o _=>cn o);unfold bN.x jt;rw [hE];rw [cR];by_cases fL:O=[]
 all_goals simp only [fL,if_true,if_false]
 all_goals (
  refine zs 56 Tryd.func11 Tryd.ntmps11 rfl ?_;change FW _ _ _ ⟨[(0,_)],[]⟩;refine xh ?_;refine ⟨by kernel_rfl,?_⟩;refine zb ?_
  first
  | refine Vg (ZD O fL zc) (by repeat (first|exact zf.nil|refine zf.cons zh ?_)) (zR _) rfl rfl rfl ?_
  | refine zx ZE (by repeat (first|exact zf.nil|refine zf.cons zh ?_)) rfl rfl ?_
  refine zb ?_;rw [cd];refine FW.loop (fun i:Nat=>⟨[(3,.ptr 103 0 0 0),(4,.ptr 104 0 0 0),(5,.own 100 0 0 (A i).length),(38,.list 3 (E.map jA)),(39,.int .i64 E.length),(40,.int .i64 i)],[(100,⟨0,.own,3,1,(A i).map ZL⟩),(103,⟨0,.own,3,1,[[.int .i64 0]]⟩),(104,⟨0,.own,3,1,[[.int .i64 mx]]⟩)]⟩) (fun i=>i≤E.length) (fun i=>E.length - i) 0 (xd _) ?_ ?_
  (·
    dsimp only;rw [c9]
    first
    | (rw [fL]; exact (aI.cv [⟨100, none, 0, ⟨0, .own, 3, 1, []⟩⟩, ⟨103, some 3, 1, ⟨0, .own, 3, 1, [[.int .i64 0]]⟩⟩, ⟨104, some 4, 1, ⟨0, .own, 3, 1, [[.int .i64 mx]]⟩⟩] zt zu))
    | exact (aI.cv [⟨100, some 34, 1, ⟨0, .own, 3, 1, O.map ZL⟩⟩, ⟨103, some 3, 1, ⟨0, .own, 3, 1, [[.int .i64 0]]⟩⟩, ⟨104, some 4, 1, ⟨0, .own, 3, 1, [[.int .i64 mx]]⟩⟩] zt zu))
  intro i hi;have nu:=ib i hi;refine zb ?_;refine FW.cond rfl (fun h=>?_) (fun h=>?_)
  (·
    have aK:i<E.length:=by simpa using h
    clear h;have eJ:=eJ i aK;obtain ⟨e,he⟩:∃ e,nth E i=e:=⟨_,rfl⟩
    rw [he] at eJ;obtain ⟨e1,e2,e3⟩:=e;refine zb ?_;rw [he];skip;refine zI (es:=[[.int .i64 e1],[.int .i64 e2]]) rfl rfl rfl (by refine yf.int rfl rfl ?_;refine yf.int rfl rfl ?_;exact yf.nil) rfl rfl rfl rfl rfl ?_;refine zb ?_;refine ⟨i+1,by omega,by omega,?_⟩;dsimp only;rw [eJ,Zl];exact (aI.cv [⟨100,some 50,0+1,⟨0,.own,3,1,(A i).map ZL++[e1,e2].map ZL⟩⟩,⟨103,some 103,0,⟨0,.own,3,1,[[.int .i64 0]]⟩⟩,⟨104,some 104,0,⟨0,.own,3,1,[[.int .i64 mx]]⟩⟩] zt zu))
  obtain rfl:i=E.length:=by simp at h;omega
  refine xU ?_;refine zq.le ?_ (aI.bk 3 rfl rfl);refine zq.le ?_ (aI.bk 4 rfl rfl);refine zb ?_;refine zx kd Xf rfl rfl ?_;refine zb ?_;exact FW.ret ⟨.inl rfl,zj rfl rfl rfl rfl⟩)
theorem Va (x:bN) (O:List Int) (E:List (Int×Int×Int)) (hE:x.ed=E.map jA) (hO:O.length≤100000) (jG:E.length≤100000) (h1:x.fl.length≤1000000) (h2:x.tr.length≤1000000) (h3:x.ops.length≤1000000) (il:x.k=8):zV Tryd.prog 11 [x.x (jt O)] .fr (.bool (!((O++cU E).any (gV x)))):=by
 have gp:gV x=fun i=>decide (i < -1) || decide (i > (x.tr.length:Int) - 1):=by
  funext i;unfold gV ll k7;simp [il]
 rw [gp];have cn:=xK (-1) ((x.tr.length:Int) - 1);obtain ⟨lo,cK⟩:∃ lo:Int,(-1)=lo:=⟨_,rfl⟩
 rw [cK] at cn ⊢;generalize cd:(x.tr.length:Int) - 1=mx at cn ⊢;obtain ⟨A,hA⟩:∃ A:Nat→List Int,A=fun i=>O++cU (E.take i):=⟨_,rfl⟩
 have c9:A 0=O:=by rw [hA];simp [cU]
 have eJ:∀ i,i<E.length→A (i+1)=A i++[(nth E i).1,(nth E i).2.1]:=fun i hi=>by rw [hA];show O++cU (E.take (i+1))=_;rw [WP hi,← zw]
 have ia:O++cU E=A E.length:=by rw [hA];show _=O++cU (E.take E.length);rw [YZ]
 have ib:∀ i,i≤E.length→(A i).length=O.length+2 * i:=fun i hi=>by rw [hA];show (O++cU (E.take i)).length=_;rw [zT,Ux,zW,xc hi]
 rw [ia];clear hA ia;have kd:=yM (A E.length) 43 [vc (.int .i64 lo),vc (.int .i64 mx)] _ (by rw [ib _ (zi _)];omega) (fun o _=>cn o);unfold bN.x jt;rw [hE];rw [il];by_cases fL:O=[]
 all_goals simp only [fL,if_true,if_false]
 all_goals (
  refine zs 56 Tryd.func11 Tryd.ntmps11 rfl ?_;change FW _ _ _ ⟨[(0,_)],[]⟩;refine xh ?_;refine ⟨by kernel_rfl,?_⟩;refine zb ?_;refine xh ?_;refine ⟨by kernel_rfl,?_⟩;refine zb ?_
  first
  | refine Vg (ZD O fL zc) (by repeat (first|exact zf.nil|refine zf.cons zh ?_)) (zR _) rfl rfl rfl ?_
  | refine zx ZE (by repeat (first|exact zf.nil|refine zf.cons zh ?_)) rfl rfl ?_
  refine zb ?_;rw [cd];rw [cK];refine FW.loop (fun i:Nat=>⟨[(3,.ptr 103 0 0 0),(4,.ptr 104 0 0 0),(5,.own 100 0 0 (A i).length),(38,.list 3 (E.map jA)),(39,.int .i64 E.length),(40,.int .i64 i)],[(100,⟨0,.own,3,1,(A i).map ZL⟩),(103,⟨0,.own,3,1,[[.int .i64 lo]]⟩),(104,⟨0,.own,3,1,[[.int .i64 mx]]⟩)]⟩) (fun i=>i≤E.length) (fun i=>E.length - i) 0 (xd _) ?_ ?_
  (·
    dsimp only;rw [c9]
    first
    | (rw [fL]; exact (aI.cv [⟨100, none, 0, ⟨0, .own, 3, 1, []⟩⟩, ⟨103, some 3, 1, ⟨0, .own, 3, 1, [[.int .i64 lo]]⟩⟩, ⟨104, some 4, 1, ⟨0, .own, 3, 1, [[.int .i64 mx]]⟩⟩] zt zu))
    | exact (aI.cv [⟨100, some 34, 1, ⟨0, .own, 3, 1, O.map ZL⟩⟩, ⟨103, some 3, 1, ⟨0, .own, 3, 1, [[.int .i64 lo]]⟩⟩, ⟨104, some 4, 1, ⟨0, .own, 3, 1, [[.int .i64 mx]]⟩⟩] zt zu))
  intro i hi;have nu:=ib i hi;refine zb ?_;refine FW.cond rfl (fun h=>?_) (fun h=>?_)
  (·
    have aK:i<E.length:=by simpa using h
    clear h;have eJ:=eJ i aK;obtain ⟨e,he⟩:∃ e,nth E i=e:=⟨_,rfl⟩
    rw [he] at eJ;obtain ⟨e1,e2,e3⟩:=e;refine zb ?_;rw [he];skip;refine zI (es:=[[.int .i64 e1],[.int .i64 e2]]) rfl rfl rfl (by refine yf.int rfl rfl ?_;refine yf.int rfl rfl ?_;exact yf.nil) rfl rfl rfl rfl rfl ?_;refine zb ?_;refine ⟨i+1,by omega,by omega,?_⟩;dsimp only;rw [eJ,Zl];exact (aI.cv [⟨100,some 50,0+1,⟨0,.own,3,1,(A i).map ZL++[e1,e2].map ZL⟩⟩,⟨103,some 103,0,⟨0,.own,3,1,[[.int .i64 lo]]⟩⟩,⟨104,some 104,0,⟨0,.own,3,1,[[.int .i64 mx]]⟩⟩] zt zu))
  obtain rfl:i=E.length:=by simp at h;omega
  refine xU ?_;refine zq.le ?_ (aI.bk 3 rfl rfl);refine zq.le ?_ (aI.bk 4 rfl rfl);refine zb ?_;refine zx kd Xf rfl rfl ?_;refine zb ?_;exact FW.ret ⟨.inl rfl,zj rfl rfl rfl rfl⟩)
theorem Vb (x:bN) (O:List Int) (E:List (Int×Int×Int)) (hE:x.ed=E.map jA) (hO:O.length≤100000) (jG:E.length≤100000) (h1:x.fl.length≤1000000) (h2:x.tr.length≤1000000) (h3:x.ops.length≤1000000) (cR:x.k≠1) (il:x.k≠8):zV Tryd.prog 11 [x.x (jt O)] .fr (.bool (!((O++cU E).any (gV x)))):=by
 have gp:gV x=fun i=>decide (i<0) || decide (i > (x.ops.length:Int) - 1):=by
  funext i;unfold gV ll k7;simp [cR,il]
 rw [gp];have cn:=xK (0) ((x.ops.length:Int) - 1);generalize cd:(x.ops.length:Int) - 1=mx at cn ⊢;obtain ⟨A,hA⟩:∃ A:Nat→List Int,A=fun i=>O++cU (E.take i):=⟨_,rfl⟩
 have c9:A 0=O:=by rw [hA];simp [cU]
 have eJ:∀ i,i<E.length→A (i+1)=A i++[(nth E i).1,(nth E i).2.1]:=fun i hi=>by rw [hA];show O++cU (E.take (i+1))=_;rw [WP hi,← zw]
 have ia:O++cU E=A E.length:=by rw [hA];show _=O++cU (E.take E.length);rw [YZ]
 have ib:∀ i,i≤E.length→(A i).length=O.length+2 * i:=fun i hi=>by rw [hA];show (O++cU (E.take i)).length=_;rw [zT,Ux,zW,xc hi]
 rw [ia];clear hA ia;have kd:=yM (A E.length) 43 [vc (.int .i64 0),vc (.int .i64 mx)] _ (by rw [ib _ (zi _)];omega) (fun o _=>cn o);unfold bN.x jt;rw [hE];by_cases fL:O=[]
 all_goals simp only [fL,if_true,if_false]
 all_goals (
  refine zs 56 Tryd.func11 Tryd.ntmps11 rfl ?_;change FW _ _ _ ⟨[(0,_)],[]⟩;refine xh ?_;refine ⟨by kernel_rfl,?_⟩;refine zb ?_;refine FW.eT (by show FV.bool (decide (x.k=1))=_;rw [decide_eq_false cR]) ?_;refine zb ?_;refine FW.eT (by show FV.bool (decide (x.k=8))=_;rw [decide_eq_false il]) ?_;refine zb ?_
  first
  | refine Vg (ZD O fL zc) (by repeat (first|exact zf.nil|refine zf.cons zh ?_)) (zR _) rfl rfl rfl ?_
  | refine zx ZE (by repeat (first|exact zf.nil|refine zf.cons zh ?_)) rfl rfl ?_
  refine zb ?_;rw [cd];refine FW.loop (fun i:Nat=>⟨[(3,.ptr 103 0 0 0),(4,.ptr 104 0 0 0),(5,.own 100 0 0 (A i).length),(38,.list 3 (E.map jA)),(39,.int .i64 E.length),(40,.int .i64 i)],[(100,⟨0,.own,3,1,(A i).map ZL⟩),(103,⟨0,.own,3,1,[[.int .i64 0]]⟩),(104,⟨0,.own,3,1,[[.int .i64 mx]]⟩)]⟩) (fun i=>i≤E.length) (fun i=>E.length - i) 0 (xd _) ?_ ?_
  (·
    dsimp only;rw [c9]
    first
    | (rw [fL]; exact (aI.cv [⟨100, none, 0, ⟨0, .own, 3, 1, []⟩⟩, ⟨103, some 3, 1, ⟨0, .own, 3, 1, [[.int .i64 0]]⟩⟩, ⟨104, some 4, 1, ⟨0, .own, 3, 1, [[.int .i64 mx]]⟩⟩] zt zu))
    | exact (aI.cv [⟨100, some 34, 1, ⟨0, .own, 3, 1, O.map ZL⟩⟩, ⟨103, some 3, 1, ⟨0, .own, 3, 1, [[.int .i64 0]]⟩⟩, ⟨104, some 4, 1, ⟨0, .own, 3, 1, [[.int .i64 mx]]⟩⟩] zt zu))
  intro i hi;have nu:=ib i hi;refine zb ?_;refine FW.cond rfl (fun h=>?_) (fun h=>?_)
  (·
    have aK:i<E.length:=by simpa using h
    clear h;have eJ:=eJ i aK;obtain ⟨e,he⟩:∃ e,nth E i=e:=⟨_,rfl⟩
    rw [he] at eJ;obtain ⟨e1,e2,e3⟩:=e;refine zb ?_;rw [he];skip;refine zI (es:=[[.int .i64 e1],[.int .i64 e2]]) rfl rfl rfl (by refine yf.int rfl rfl ?_;refine yf.int rfl rfl ?_;exact yf.nil) rfl rfl rfl rfl rfl ?_;refine zb ?_;refine ⟨i+1,by omega,by omega,?_⟩;dsimp only;rw [eJ,Zl];exact (aI.cv [⟨100,some 50,0+1,⟨0,.own,3,1,(A i).map ZL++[e1,e2].map ZL⟩⟩,⟨103,some 103,0,⟨0,.own,3,1,[[.int .i64 0]]⟩⟩,⟨104,some 104,0,⟨0,.own,3,1,[[.int .i64 mx]]⟩⟩] zt zu))
  obtain rfl:i=E.length:=by simp at h;omega
  refine xU ?_;refine zq.le ?_ (aI.bk 3 rfl rfl);refine zq.le ?_ (aI.bk 4 rfl rfl);refine zb ?_;refine zx kd Xf rfl rfl ?_;refine zb ?_;exact FW.ret ⟨.inl rfl,zj rfl rfl rfl rfl⟩)
theorem YF (x:bN) (O:List Int) (E:List (Int×Int×Int)) (hE:x.ed=E.map jA) (hO:O.length≤100000) (jG:E.length≤100000) (h1:x.fl.length≤1000000) (h2:x.tr.length≤1000000) (h3:x.ops.length≤1000000):zV Tryd.prog 11 [x.x (jt O)] .fr (.bool (!((O++cU E).any (gV x)))):=by
 by_cases cR:x.k=1
 ·exact WZ x O E hE hO jG h1 h2 h3 cR
 ·by_cases il:x.k=8
  ·exact Va x O E hE hO jG h1 h2 h3 il
  ·exact Vb x O E hE hO jG h1 h2 h3 cR il
def j5 (l:List aF) (i k:Nat):Bool:=(nth l i).done && decide ((nth l i).ret<(nth l k).call)
theorem VH (l:List aF) (i k:Nat) (hi:i<l.length) (hk:k<l.length):zV Tryd.prog 82 [.list 8 (l.map aF.fv),.int .i64 i,.int .i64 k] .fr (.bool (j5 l i k)):=by
 refine zs 37 Tryd.func82 Tryd.ntmps82 rfl ?_;change FW _ _ _ ⟨[(0,.list 8 (l.map aF.fv)),(1,.int .i64 i),(2,.int .i64 k)],[]⟩;refine zb ?_;refine yG (fun h=>?_) (fun h=>?_)
 ·exfalso;simp at h;omega
 ·refine zb ?_;refine FW.cond rfl (fun h=>?_) (fun h=>?_)
  ·exfalso;simp at h;omega
  refine xh ?_;refine sq (fun h=>?_) (fun h=>?_)
  ·refine zn ?_;refine ⟨by kernel_rfl,?_⟩;skip;refine FW.ret ⟨.inl rfl,zj rfl rfl ?_ rfl⟩;simp [j5,h];rfl
  ·refine zn ?_;refine ⟨by kernel_rfl,?_⟩;skip;refine FW.ret ⟨.inl rfl,zj rfl rfl ?_ rfl⟩;simp [j5,h];rfl
def gU (l:List aF) (i k:Int):Bool:=if 0≤i∧0≤k∧i<l.length∧k<l.length then j5 l i.toNat k.toNat else false
theorem rE {i k:Int} (h:¬ (0≤i∧0≤k∧i<l.length∧k<l.length)):gU l i k=false:=by unfold gU;rw [if_neg h]
theorem sI {k:Nat} (hi:i<l.length) (hk:k<l.length):gU l i k=j5 l i k:=by
 unfold gU;rw [if_pos zc];rfl
theorem WW (l:List aF) (i k:Int) (hl:l.length≤1000000000):zV Tryd.prog 82 [.list 8 (l.map aF.fv),.int .i64 i,.int .i64 k] .fr (.bool (gU l i k)):=by
 by_cases cn:0≤i∧0≤k∧i<l.length∧k<l.length
 ·obtain ⟨a,ha⟩:∃ a:Nat,i=a:=⟨i.toNat,by omega⟩
  obtain ⟨b,hb⟩:∃ b:Nat,k=b:=⟨k.toNat,by omega⟩
  subst ha;subst hb;rw [sI zc zc];exact VH l a b zc zc
 ·rw [rE cn];refine zs 37 Tryd.func82 Tryd.ntmps82 rfl ?_;change FW _ _ _ ⟨[(0,.list 8 (l.map aF.fv)),(1,.int .i64 i),(2,.int .i64 k)],[]⟩;refine zb ?_;refine yG (fun h=>?_) (fun h=>?_)
  ·refine zb ?_;exact FW.ret ⟨.inl rfl,zj rfl rfl rfl rfl⟩
  ·refine zb ?_;refine FW.cond rfl (fun h2=>?_) (fun h2=>?_)
   ·refine zb ?_;exact FW.ret ⟨.inl rfl,zj rfl rfl rfl rfl⟩
   ·exfalso;simp at h h2;exact cn zc
theorem rv {c:Ctx} {fn:Func} {id E sz c6:Nat} {kk:TK} {z:List FV} (hr:fn.results.toList=[.cell d T]) (h:look .undef t d=.ptr id aa 0 0) (hT:c.ty T=⟨kk,sz,c6,z⟩) (hk:kk.aM = some true) (hp:0<sz) (hb:look {} ob id=⟨aa,.own,E,sz,[cs]⟩) (hl:cs.length=sz) (hf:(FV.agg cs).flat=true):gJ c fn ⟨t,ob⟩ .fr (.agg cs):=by
 have bD : (⟨t,ob⟩:ab).ob id=⟨aa,.own,E,sz,[cs]⟩:=hb;have hc:=jW.cell (c:=c) (s:=⟨t,ob⟩) d T (bb:=true) (by rw [hT];exact hk) (id:=id) (aa:=aa) (j:=0) (o:=0) h ⟨(fun e=>by (rw [bD] at e;cases e)),by rw [bD]⟩ (by rw [bD];rfl) (by rw [bD];exact Nat.one_pos) (by rw [bD,hT];simp) (by rw [bD];exact hp);have e:xu (c.ty T) ((((⟨t,ob⟩:ab).ob id).es.getD 0 []).drop 0)=.agg cs:=by
  rw [bD,hT];unfold xu;rw [hk];show FV.agg (cs.take sz)=_;rw [yn zc]
 rw [e] at hc;exact .flat (fs:=[.agg cs]) (by rw [hr];exact .cons hc .nil) rfl hf
theorem Zb (x:bN) (od:FV) (eb:kS od) (l:List aF) (du:x.ops=l.map aF.fv) (i:Nat) (hi:i<l.length):zV Tryd.prog 51 [x.x od,.int .i64 i] .fr (.agg (nth l i).fv):=by
 have hA:=x.one eb;rw [du] at hA;unfold bN.x;rw [du];refine zs 11 Tryd.func51 Tryd.ntmps51 rfl ?_;change FW _ _ _ ⟨[(0,_),(1,_)],[]⟩
 (repeat (first|refine FW.seq ?_|refine FW.region ?_))
 refine zq.bW (xV rfl rfl hA rfl rfl) rfl rfl ?_;refine zb ?_;exact FW.ret ⟨.inl rfl,rv rfl rfl rfl rfl za rfl rfl rfl⟩
theorem Uu (x:bN) (od:FV) (eb:kS od) (l:List aF) (du:x.ops=l.map aF.fv) (hl:l.length≤1000000) (i k:Int):zV Tryd.prog 48 [x.x od,.int .i64 i,.int .i64 k] .fr (.bool (gU l i k)):=by
 have hb:=WW l i k zc;generalize gU l i k=B at hb ⊢;have hA:=x.one eb;rw [du] at hA;unfold bN.x;rw [du];refine zs 13 Tryd.func48 Tryd.ntmps48 rfl ?_;change FW _ _ _ ⟨[(0,_),(1,_),(2,_)],[]⟩
 (repeat (first|refine FW.seq ?_|refine FW.region ?_))
 refine zq.bW (xV rfl rfl hA rfl rfl) rfl rfl ?_;refine zb ?_;refine zx hb (by repeat (first|exact zf.nil|refine zf.cons zh ?_)) rfl rfl ?_;refine zb ?_;exact FW.ret ⟨.inl rfl,zj rfl rfl rfl rfl⟩
theorem Wr (x:bN) (od:FV) (eb:kS od) (l:List aF) (du:x.ops=l.map aF.fv) (i:Nat) (hi:i<l.length):zV Tryd.prog 49 [x.x od,.int .i64 i] .fr (.bool (decide (x.ar=(nth l i).key))):=by
 have bu:=Zb x od eb l du i hi;generalize nth l i=o at bu ⊢;have hA:=x.one eb;unfold bN.x at bu ⊢;refine zs 13 Tryd.func49 Tryd.ntmps49 rfl ?_;change FW _ _ _ ⟨[(0,_),(1,_)],[]⟩
 (repeat (first|refine FW.seq ?_|refine FW.region ?_))
 refine zq.bW (xV rfl rfl hA rfl rfl) rfl rfl ?_;refine xh ?_;refine YA bu (by repeat (first|exact zf.nil|refine zf.cons zh ?_)) rfl rfl ?_;skip;refine rp rfl rfl rfl rfl rfl rfl rfl rfl ?_;refine zn ?_;refine ⟨by kernel_rfl,?_⟩;skip;exact FW.ret ⟨.inl rfl,zj rfl rfl rfl rfl⟩
theorem XF (x:bN) (od:FV) (eb:kS od) (l:List aF) (du:x.ops=l.map aF.fv) (hl:l.length≤1000000) (i k:Nat) (hi:i<l.length) (hk:k<l.length):zV Tryd.prog 50 [x.x od,.agg [.int .i64 i,.int .i64 k,.int .i64 5]] .fr (.bool (gU l i k)):=by
 have h1:=Zb x od eb l du i hi;have h2:=Zb x od eb l du k hk;have hb:=Uu x od eb l du hl i k;generalize nth l i=o1 at h1;generalize nth l k=o2 at h2;generalize gU l i k=B at hb ⊢;have hA:=x.one eb;unfold bN.x at h1 h2 hb ⊢;refine zs 81 Tryd.func50 Tryd.ntmps50 rfl ?_;change FW _ _ _ ⟨[(0,_),(1,_)],[]⟩
 (repeat (first|refine FW.seq ?_|refine FW.region ?_))
 refine zq.bW (xV rfl rfl hA rfl rfl) rfl rfl ?_;refine xh ?_;refine YA h1 (by repeat (first|exact zf.nil|refine zf.cons zh ?_)) rfl rfl ?_;refine zn ?_;refine YA h2 (by repeat (first|exact zf.nil|refine zf.cons zh ?_)) rfl rfl ?_;refine zn ?_;refine ⟨by kernel_rfl,?_⟩;refine zb ?_;refine zx hb (by repeat (first|exact zf.nil|refine zf.cons zh ?_)) rfl rfl ?_;refine zb ?_;exact FW.ret ⟨.inl rfl,zj rfl rfl rfl rfl⟩
def xR:List aF:=[⟨0,1,0,1,0,0,1,true⟩,⟨1,0,0,0,0,2,3,true⟩]
def xS:bN:={ k:=2,ops:=xR.map aF.fv,cl:=4,ed:=[[.int .i64 0,.int .i64 1,.int .i64 5]] }
def xH:bN:={ k:=2,ops:=xR.map aF.fv,cl:=0 }
def ju:FV:=.list 1 [[.int .i64 0],[.int .i64 1]]
theorem UQ:zV Tryd.prog 20 ([xS.x .nil]++[]) .fr (.bool true):=by
 have h0:=Zb xS .nil rfl xR rfl 0 za;have h1:=Zb xS .nil rfl xR rfl 1 za;have hj:=XF xS .nil rfl xR rfl za 0 1 za za;rw [show gU xR ((0:Nat):Int) ((1:Nat):Int)=true by decide] at hj;have k0:=Wr xS .nil rfl xR rfl 0 za;have k1:=Wr xS .nil rfl xR rfl 1 za;have w0:=ZK (nth xR 0);have o1:=xM (nth xR 1);simp only [bN.x,xS] at h0 h1 hj k0 k1 ⊢;refine zs 85 Tryd.func20 Tryd.ntmps20 rfl ?_;change FW _ _ _ ⟨[(0,_)],[]⟩;refine zb ?_;refine FW.loop (fun i:Nat=>⟨[(1,.ptr 101 0 0 0),(3,.ptr 103 0 0 0),(12,.list 3 [[.int .i64 0,.int .i64 1,.int .i64 5]]),(13,.int .i64 1),(14,.int .i64 (i:Nat))],[(101,⟨0,.own,51,15,[[.int .i64 2,.int .i64 0,.int .i64 0,.int .i64 0,.int .i64 0,.int .i64 0,.list 5 [],.list 8 (xR.map aF.fv),.list 1 [],.list 4 [],.int .i64 2,.int .i64 4,.int .i64 0,.nil,.list 3 [[.int .i64 0,.int .i64 1,.int .i64 5]]]]⟩),(103,⟨0,.own,24,1,[[.list 3 [[.int .i64 0,.int .i64 1,.int .i64 5]]]]⟩)]⟩) (fun i=>i≤1) (fun i=>1 - i) 0 za ?_ ?_
 ·exact (aI.cv [⟨101,some 1,1,⟨0,.own,51,15,[[.int .i64 2,.int .i64 0,.int .i64 0,.int .i64 0,.int .i64 0,.int .i64 0,.list 5 [],.list 8 (xR.map aF.fv),.list 1 [],.list 4 [],.int .i64 2,.int .i64 4,.int .i64 0,.nil,.list 3 [[.int .i64 0,.int .i64 1,.int .i64 5]]]]⟩⟩,⟨103,some 3,1,⟨0,.own,24,1,[[.list 3 [[.int .i64 0,.int .i64 1,.int .i64 5]]]]⟩⟩] zt zu)
 intro i hi;obtain rfl|rfl:i=0∨i=1:=by omega
 ·refine zb ?_;refine zx hj (by repeat (first|exact zf.nil|refine zf.cons zh ?_)) rfl ⟨_,_,rfl,rfl,rfl⟩ ?_;refine zb ?_;refine zx k0 (by repeat (first|exact zf.nil|refine zf.cons zh ?_)) rfl ⟨_,_,rfl,rfl,rfl⟩ ?_;refine zb ?_;refine zx k1 (by repeat (first|exact zf.nil|refine zf.cons zh ?_)) rfl ⟨_,_,rfl,rfl,rfl⟩ ?_;refine zb ?_;refine ⟨1,by decide,by decide,?_⟩;exact (aI.cv [⟨101,some 101,0,⟨0,.own,51,15,[[.int .i64 2,.int .i64 0,.int .i64 0,.int .i64 0,.int .i64 0,.int .i64 0,.list 5 [],.list 8 (xR.map aF.fv),.list 1 [],.list 4 [],.int .i64 2,.int .i64 4,.int .i64 0,.nil,.list 3 [[.int .i64 0,.int .i64 1,.int .i64 5]]]]⟩⟩,⟨103,some 103,0,⟨0,.own,24,1,[[.list 3 [[.int .i64 0,.int .i64 1,.int .i64 5]]]]⟩⟩] zt zu)
 ·refine xh ?_;refine YA h0 (by repeat (first|exact zf.nil|refine zf.cons zh ?_)) rfl rfl ?_;refine zn ?_;refine YA h1 (by repeat (first|exact zf.nil|refine zf.cons zh ?_)) rfl rfl ?_;refine zn ?_;refine ⟨by kernel_rfl,?_⟩;refine zb ?_;refine zx o1 (by repeat (first|exact zf.nil|refine zf.cons zh ?_)) rfl rfl ?_;refine zb ?_;refine zx w0 (by repeat (first|exact zf.nil|refine zf.cons zh ?_)) rfl ⟨_,_,rfl,rfl,rfl⟩ ?_;refine zb ?_;exact FW.ret ⟨.inl rfl,zj rfl rfl rfl rfl⟩
end
end Go.Proofs.YtedkppfghdipdaaDoor
