/-
  Lemmas, in parts.
-/
import Derived.Test.YtedkppfghdipdaaGreatDoorZFmKx
import Derived.Test.YtedkppfghdipdaaGreatDoorZFmM
import Derived.Test.YtedkppfghdipdaaGreatDoorZC
import Derived.DeepKeys4
import Derived.Maps.Keyed
namespace Go.Proofs.YtedkppfghdipdaaGreatDoor
set_option linter.unusedVariables false
set_option maxHeartbeats 16000000
variable {o:Oper} {T d ft i off ty:Nat} {l:List aj} {R:List (Int×Int×FV)} {a b:Int} {pos:String} {af:Array Edge} {f kf vf:FV} {t:List (Nat×FV)} {ob:List (Nat×yo)} {es aY : List (List FV)} {fs:List (Nat×Nat)} {cs:List FV} {p:Int→Bool}
section
open Go.RowKit
def ab.mp (s:ab) (d aa T:Nat) (es:List (List FV)):ab:=⟨(d,.omap d aa)::s.t,(d,⟨aa,.bc,T,0,es⟩)::s.o⟩
theorem Zz (s:ab) (d aa T:Nat) (es:List (List FV)) (k:Nat):(s.mp d aa T es).get k=if d=k then .omap d aa else s.get k:=zC _ _ _ _ _
theorem Vr (s:ab) (d aa T:Nat) (es:List (List FV)) (k:Nat):(s.mp d aa T es).ob k=if d=k then ⟨aa,.bc,T,0,es⟩ else s.ob k:=zC _ _ _ _ _
def mL:Op→Bool
 | .insert .. => true
 | _ => false
def nt:Op→Bool
 | .makeMap .. => true
 | _ => false
def Ur (dm:Nat):Op→Bool
 | .move (.tmp t) => t == dm
 | _ => false
def Us (r:Rec):List (List FV):=bif mL r.o.op then (match r.f with|.agg row=>[row]|_=>[]) else []
def Zh (tr:List Rec) (S:Nat→Bool):Nat→List (List FV)
 | 0 => []
 | k+1 => Zh tr S k ++ (if S k then Us (tr.getD k default) else [])
theorem XK {tr:List Rec} {S:Nat→Bool} {i:Nat} (hS:S i=false):∀ n,i<n→(Zh tr (fun k=>k == i || S k) n).Perm (Zh tr S n++Us (tr.getD i default))
 | 0, h => by omega
 | n + 1,h=>by
  unfold Zh;by_cases cA:i=n
  ·subst cA;have key:∀ m,m≤i→Zh tr (fun k=>k == i || S k) m=Zh tr S m:=by
    intro m
    induction m with
    | zero => intro _; rfl
    | succ m ih =>
     intro hm;unfold Zh;have:(m == i)=false:=by simp;omega
     rw [ih za,this];rfl
   rw [key i (zf _),hS];simp
  ·have ih:=XK (tr:=tr) hS n za;have:(n == i)=false:=by simp;omega
   rw [this,xw];refine (ih.append_right _).trans ?_;rw [zE,zE];exact List.Perm.append_left _ List.perm_append_comm
theorem uG {tr:List Rec} {S S' : Nat→Bool} (h:∀ k,S k=true→S' k=true):∀ n,(Zh tr S n).Sublist (Zh tr S' n)
 | 0 => List.Sublist.refl _
 | n+1 => by
  unfold Zh;refine (uG h n).append ?_;by_cases hS:S n=true
  ·rw [if_pos hS,if_pos (h n hS)];exact List.Sublist.refl _
  ·rw [if_neg hS];exact List.nil_sublist _
theorem UA {tr:List Rec} {S:Nat→Bool}:∀ n,(∀ k,k<n→S k=false)→Zh tr S n=[]
 | 0, _ => rfl
 | n+1, h => by
  unfold Zh;rw [UA n (fun k hk=>h k za),h n za];rfl
theorem uF {tr:List Rec} {S S' : Nat→Bool}:∀ n,(∀ k,k<n→S k=S' k)→Zh tr S n=Zh tr S' n
 | 0, _ => rfl
 | n+1, h => by
  unfold Zh;rw [uF n (fun k hk=>h k za),h n za]
theorem sw {y:Nat→Option Bool} (hg:o.guard=none):Region.wanted o y=true:=by simp only [Region.wanted,hg]
def vC (c:Ctx) (ops:Array Oper) (dm T k aa:Nat) (s:ab) (r:Rec):Prop:=
 (mL r.o.op=false∧nt r.o.op=false∧Ur dm r.o.op=false∧VQ c ops s r)∨
 (∃ d ty pos af,r=⟨⟨some d,.move (.tmp dm),ty,pos,af,none⟩,.omap dm aa,[],[]⟩∧d≠dm∧d<c.N)∨
 (∃ ty pos af,r=⟨⟨some dm,.makeMap T none,ty,pos,af,none⟩,.undef,[],[dm]⟩)∨
 (∃ y z kf vf ty pos af,r=⟨⟨none,.insert T (.tmp dm) y z,ty,pos,af,none⟩,.agg [kf,vf],[],[]⟩∧YH c.P k kf∧y≠.tmp dm∧z≠.tmp dm∧s.ev y=kf∧s.ev z=vf∧vf.hand=none)
inductive UF (c:Ctx) (ops:Array Oper) (dm T k aa:Nat):ab→List Oper→List Rec→ab→Prop where
 | nil (s:ab):UF c ops dm T k aa s [] [] s
 | one {o:Oper} {rest:List Oper} {s s1 s2:ab} {px kg:List Rec} (hi:mL o.op=false) (hm:nt o.op=false) (hh:Ur dm o.op=false) (h:iT c ops s [o] px s1) (hs:UF c ops dm T k aa s1 rest kg s2):UF c ops dm T k aa s (o :: rest) (px ++ kg) s2
 | spec {r:Rec} {rest:List Oper} {s s2:ab} {kg:List Rec} (hr:vC c ops dm T k aa s r) (hs:UF c ops dm T k aa (s.je r) rest kg s2):UF c ops dm T k aa s (r.o :: rest) (r :: kg) s2
theorem iT.single {c:Ctx} {ops:Array Oper} {s s' : ab} {tr:List Rec} (h:iT c ops s [o] tr s'):∃ r,tr=[r]∧s'=s.je r∧r.o=o∧VQ c ops s r:=by
 obtain ⟨h1,h2,h3⟩:=h.at;rcases tr with _|⟨r,tr⟩
 ·cases h1
 ·rcases tr with _|⟨r2,tr⟩
  ·obtain ⟨k1,k2⟩:=h3 0 Nat.one_pos;exact ⟨r,rfl,h2,k1,k2⟩
  ·cases h1
theorem UF.at {c:Ctx} {ops:Array Oper} {dm k aa:Nat} {s:ab} {l:List Oper} {tr:List Rec} {s' : ab} (h:UF c ops dm T k aa s l tr s'):tr.length=l.length∧s'=sig tr s (fun _=>true) tr.length∧
  ∀ j,j<l.length→(tr.getD j default).o=l.getD j default∧vC c ops dm T k aa (sig tr s (fun _=>true) j) (tr.getD j default):=by
 induction h with
 | nil s => exact ⟨rfl, rfl, fun k hk => by simp at hk⟩
 | @one o rest s s1 s2 px kg hi hm hh h hs ih=>
  obtain ⟨r,rfl,rfl,ho,hr⟩:=h.single;obtain ⟨h1,h2,h3⟩:=ih;refine ⟨by simp [h1],?_,fun j hj=>?_⟩
  ·rw [List.singleton_append,yZ,xT];exact h2
  ·rw [List.singleton_append];cases j with
   | zero => exact ⟨ho, .inl ⟨by rw [Xk, ho]; exact hi, by rw [Xk, ho]; exact hm, by rw [Xk, ho]; exact hh, hr⟩⟩
   | succ j =>
    rw [xT];exact h3 j (by simpa using hj)
 | @spec r rest s s2 kg hr hs ih=>
  obtain ⟨h1,h2,h3⟩:=ih;refine ⟨by simp [h1],?_,fun j hj=>?_⟩
  ·rw [yZ,xT];exact h2
  ·cases j with
   | zero => exact ⟨rfl, hr⟩
   | succ j =>
    rw [xT];exact h3 j (by simpa using hj)
def se (ops:Array Oper) (dm:Nat) (r:Rec):Bool:=r.o.dst != some dm && !(r.o.looksAt ops).contains dm && !r.ft.contains dm && !(r.wr.map (·.1)).contains dm
def ry (ops:Array Oper) (dm mk:Nat) (tr:List Rec):Bool:=
 nt (tr.getD mk default).o.op && (List.range tr.length).all fun i=>bif mL (tr.getD i default).o.op || Ur dm (tr.getD i default).o.op then (tr.getD i default).o.after.toList.any (fun e=>Region.binds .any e && e.on == mk) else bif nt (tr.getD i default).o.op then i == mk else se ops dm (tr.getD i default)
section
variable {c:Ctx} {w0:World} {J:JJ} {ops:Array Oper} {Q:Exit→Act→World→Prop}
theorem CS {s0 s' : ab} {tr:List Rec} {dm k e mk aa:Nat} {R:List (List FV)} (hT:(c.ty T).k=.map k e) (K:Maps.Keyed c.P k) (jx:dm<c.N) (hx:UF c ops dm T k aa s0 ops.toList tr s') (cW:Ym ops tr=true) (ml:ry ops dm mk tr=true)
  (aH:(s0.ob dm).aa+1=aa) (hR:Zh tr (fun _=>true) tr.length=R) (dy:∀ row∈R,∀ kf,row.head? = some kf→YH c.P k kf) (hd:R.Pairwise fun a b=>a.head?≠b.head?) (tD:mk<tr.length)
  (hQ:∀ es a w β,es.Perm R→FR c.N w0 J (s'.mp dm aa T es) a w β→Q .normal a w) {a:Act} {w:World} {β:Nat→Option Nat} (hF:FR c.N w0 J s0 a w β) :
  wpAny c.P .any ops Q ops.size (Array.replicate ops.size false) a { w with drawn:=w.drawn+1 }:=by
 obtain ⟨jI,pg,gi⟩:=hx.at;have hlen:tr.length=ops.size:=by rw [jI];simp
 rw [UR] at gi;unfold ry at ml;rw [zA,zI] at ml;obtain ⟨jK,bG⟩:=ml;have eM:∀ S,(Zh tr S ops.size).Sublist R:=fun S=>by rw [← hR,hlen];exact uG (fun _ _=>rfl) _
 have jV:∀ k,(Array.replicate ops.size false).getD k false=false:=fun k=>by
  rw [YR];cases h:(Array.replicate ops.size false)[k]? with
  | none => rfl
  | some b => rw [rV] at h; split at h <;> simp_all
 have hD:FR c.N w0 J s0 a { w with drawn:=w.drawn+1 } β:=hF.grow ⟨rfl,rfl,rfl,zf _,fun _ _=>rfl⟩;refine Cc (c:=c) (Q:=Q) (s0:=s0) (tr:=tr) (fun S s a w=>if S mk=true then ∃ es β,es.Perm (Zh tr S ops.size)∧FR c.N w0 J (s.mp dm aa T es) a w β else (∃ β,FR c.N w0 J s a w β)∧(s.ob dm).aa+1=aa∧Zh tr S ops.size=[])
  hlen (fun j hj=>(gi j hj).1) cW ?_ ?_ ?_ ops.size _ a _ zd (fun i hi hS=>by rw [jV] at hS;cases hS) ?_ ?_
 ·-- states that read alike
  intro S s s2 a w hg ho hh;by_cases hS:S mk=true
  ·rw [if_pos hS] at hh ⊢;obtain ⟨es,β,h1,h2⟩:=hh;exact ⟨es,β,h1,h2.ext (fun t=>by rw [Zz,Zz,hg]) (fun t=>by rw [Vr,Vr,ho])⟩
  ·rw [if_neg hS] at hh ⊢;obtain ⟨⟨β,h1⟩,h2,h3⟩:=hh;exact ⟨⟨β,h1.ext hg ho⟩,by rw [ho];exact h2,h3⟩
 ·-- a step
  intro S s a w i o ma mV jr c6 iI hh K' hK;have hi:i<ops.size:=(yy.1 ma).1;have mj:ops.toList.getD i default=o:=by simp [yC,ma]
  obtain ⟨gm,wZ⟩:=gi i hi;rw [mj] at gm;have hb:=bG i (by rw [hlen];simpa using hi);have im:∀ {X:List (List FV)},X.Perm (Zh tr S ops.size++Us (tr.getD i default))→X.Perm (Zh tr (fun k=>k == i || S k) ops.size):=fun h=>h.trans (XK (tr:=tr) mV ops.size hi).symm;generalize lv:tr.getD i default=r at *;rcases wZ with ⟨cA,tE,wB,tJ⟩|⟨d,ty,pos,af,rfl,hdd,bk⟩|⟨ty,pos,af,rfl⟩|⟨y,z,kf,vf,ty,pos,af,rfl,cp,wQ,tF,hy,hz,Ab⟩
  ·-- a plain one
   rw [cA,tE,wB] at hb;have hb:se ops dm r=true:=hb;unfold se at hb;simp only [zA,bne_iff_ne,ne_eq,Wr,UM,decide_eq_false_iff_not] at hb;obtain ⟨⟨⟨nH,c7⟩,dv⟩,iB⟩:=hb;have aJ:Us r=[]:=by unfold Us;rw [cA];rfl
   have tC:xq r.wr dm=none:=by
    cases hl:xq r.wr dm with
    | none => rfl
    | some b => exact absurd (xJ (l := r.wr) (id := dm) (by rw [hl]; rfl)) iB
   have aZ:i≠mk:=fun e=>by subst e;rw [lv] at jK;rw [tE] at jK;cases jK
   have lr:(mk == i)=false:=by simpa using fun e=>aZ e.symm
   by_cases hS:S mk=true
   ·rw [if_pos hS] at hh;obtain ⟨es,β,h1,h2⟩:=hh;have mn : VQ c ops (s.mp dm aa T es) r:=tJ.loc (fun t ht=>by rw [Zz,if_neg (fun e:dm=t=>c7 (by rw [e];exact ht))];exact c6 t (by rw [← gm];exact ht)) (fun id hid=>by rw [Vr,if_neg (fun e:dm=id=>dv (by rw [e];exact hid))];exact iI id hid);refine mn.wpOp h2 (by rw [gm];exact ma) (fun a' w' aS iz=>hK a' w' ?_);rw [if_pos (by show (mk == i || S mk)=true;rw [lr,hS];rfl)];refine ⟨es,aS,im (by rw [aJ,Yu];exact h1),iz.ext (fun t=>?_) (fun id=>?_)⟩
    ·rw [Zz,Yq,Yq,Zz];by_cases e:dm=t
     ·subst e;have:fJ r dm=none:=by unfold fJ;rw [if_neg nH]
      rw [this];simp
     ·rw [if_neg e,if_neg e]
    ·rw [Vr,XI,XI,Vr];by_cases e:dm=id
     ·subst e;rw [tC];simp
     ·rw [if_neg e,if_neg e]
   ·rw [if_neg hS] at hh;obtain ⟨⟨β,h1⟩,h2,h3⟩:=hh;have mn : VQ c ops s r:=tJ.loc (fun t ht=>c6 t (by rw [← gm];exact ht)) iI;refine mn.wpOp h1 (by rw [gm];exact ma) (fun a' w' aS iz=>hK a' w' ?_);rw [if_neg (by show ¬ (mk == i || S mk)=true;rw [lr];simpa using hS)];refine ⟨⟨aS,iz⟩,by rw [XI,tC];exact h2,?_⟩;have:=XK (tr:=tr) mV ops.size hi;rw [lv,aJ,h3] at this;exact this.eq_nil
  ·-- its name is copied
   have hb:(af.toList.any fun e=>Region.binds .any e && e.on == mk)=true:=by simpa [mL,Ur] using hb
   rw [yY] at hb;obtain ⟨ed,qs,ie⟩:=hb;rw [zA,beq_iff_eq] at ie;have hS:S mk=true:=ie.2▸jr ed (by rw [← gm];exact qs) ie.1;rw [if_pos hS] at hh;obtain ⟨es,β,h1,h2⟩:=hh;have aZ:i≠mk:=fun e=>by subst e;rw [mV] at hS;cases hS
   have eL:(s.mp dm aa T es).ev (.tmp dm)=.omap dm aa:=by show (s.mp dm aa T es).get dm=_;rw [Zz,if_pos rfl]
   have hE:=ax.move (c:=c) (s:=s.mp dm aa T es) (d:=d) (.tmp dm);rw [eL] at hE;unfold wpOp;rw [ma];simp only;rw [← gm,if_pos (sw rfl)];refine .inl (hE.sound h2 ⟨some d,.move (.tmp dm),ty,pos,af,none⟩ rfl (.inl rfl) (fun d' h=>by injection h with h;subst h;exact bk) (fun a' w' aS iz=>hK a' w' ?_));have lr:(mk == i)=false:=by simpa using fun e=>aZ e.symm
   rw [if_pos (by show (mk == i || S mk)=true;rw [lr,hS];rfl)];refine ⟨es,aS,im (by show es.Perm (_++[]);rw [Yu];exact h1),iz.ext (fun t=>?_) (fun id=>?_)⟩
   ·rw [Zz,Yq];show _=((s.mp dm aa T es).put d _).get t;rw [ab.ec,Zz];unfold fJ;by_cases e:dm=t
    ·rw [if_pos e,if_pos e,if_neg (fun q=>hdd (q.trans e.symm))]
    ·rw [if_neg e,if_neg e];by_cases e2:d=t
     ·rw [if_pos e2,if_pos (by rw [e2])];rfl
     ·rw [if_neg e2,if_neg (fun q=>e2 (by injection q))];rfl
   ·rw [Vr,XI];show _=(s.mp dm aa T es).ob id;rw [Vr];rfl
  ·-- the map is made
   have lr:i=mk:=by simpa [mL,nt,Ur] using hb
   subst lr;rw [if_neg (by rw [mV];decide)] at hh;obtain ⟨⟨β,h1⟩,h2,h3⟩:=hh;unfold wpOp;rw [ma];simp only;rw [← gm,if_pos (sw rfl)];refine .inl ((Wc (ty:=ty) (pos:=pos) (after:=af) (g:=none) h1 dm T).wp (fun d hd=>by injection hd with hd;subst hd;exact jx) (fun a' w' aS iz=>hK a' w' ?_));rw [if_pos zd];refine ⟨[],aS,im (by rw [h3];exact List.Perm.refl _),iz.ext (fun t=>?_) (fun id=>?_)⟩
   ·rw [Zz,Yq];show _=((s.wr _).put dm _).get t;rw [ab.ec,ab.ct];by_cases e:dm=t
    ·rw [if_pos e,if_pos e,h2]
    ·rw [if_neg e,if_neg e];have:fJ ⟨⟨some dm,.makeMap T none,ty,pos,af,none⟩,.undef,[],[dm]⟩ t=none:=by unfold fJ;rw [if_neg (fun q=>e (by injection q))]
     rw [this];rfl
   ·rw [Vr,XI];show _=(ab.wr s _).ob id;rw [oQ];unfold xq;by_cases e:dm=id
    ·rw [if_pos e,if_pos e,← h2];rfl
    ·rw [if_neg e,if_neg e];rfl
  ·-- an entry
   have hb:(af.toList.any fun e=>Region.binds .any e && e.on == mk)=true:=hb;rw [yY] at hb;obtain ⟨ed,qs,ie⟩:=hb;rw [zA,beq_iff_eq] at ie;have hS:S mk=true:=ie.2▸jr ed (by rw [← gm];exact qs) ie.1;rw [if_pos hS] at hh;obtain ⟨es,β,h1,h2⟩:=hh;have aZ:i≠mk:=fun e=>by subst e;rw [mV] at hS;cases hS
   have eL:∀ x,x≠.tmp dm→x∈[y,z]→(s.mp dm aa T es).ev x=(sig tr s0 (fun _=>true) i).ev x:=fun x hx hm=>by
    cases x with
    | tmp t =>
     show (s.mp dm aa T es).get t=(sig tr s0 (fun _=>true) i).get t;rw [Zz,if_neg (fun e=>hx (by rw [e]))];refine c6 t ?_;rw [← gm];refine List.mem_append_left _ (ZI.2 ⟨.tmp t,?_,rfl⟩);show _∈[Operand.tmp dm,y,z];exact Wy _ hm
    | const v => rfl
    | global g => rfl
    | func f => rfl
   have cZ:(s.mp dm aa T es).ob dm=⟨aa,.bc,T,0,es⟩:=by rw [Vr,if_pos rfl]
   have aJ:Us ⟨⟨none,.insert T (.tmp dm) y z,ty,pos,af,none⟩,.agg [kf,vf],[],[]⟩=[[kf,vf]]:=rfl;have dz:∀ row∈es,row∈R:=fun row hm=>(eM S).subset (h1.mem_iff.1 hm);have gS:oU es kf vf (es++[[kf,vf]]):=by
    refine .inr ⟨fun row hm e=>?_,rfl⟩;have p1:=hd.sublist (eM (fun k=>k == i || S k));have p2:=(XK (tr:=tr) mV ops.size hi).pairwise p1 (fun h e=>h e.symm);rw [lv,aJ,List.pairwise_append] at p2;exact p2.2.2 row (h1.mem_iff.1 hm) [kf,vf] zd (by rw [e];rfl)
   obtain ⟨W,g1,g2⟩:=Vl (dst:=none) (ty:=ty) (pos:=pos) (after:=af) (g:=none) h2 hT K (.tmp dm) y z (id:=dm) (aa:=aa) (kf:=kf) (vf:=vf) (aY:=es++[[kf,vf]]) (by show (s.mp dm aa T es).get dm=_;rw [Zz,if_pos rfl]) (by rw [cZ]) (by rw [cZ])
    (by rw [eL y wQ zd,hy]) (by rw [eL z tF zd,hz]) (by rw [cZ];exact fun row hm=>dy row (dz row hm)) cp Ab (by rw [cZ];exact gS)
   unfold wpOp;rw [ma];simp only;rw [← gm,if_pos (sw rfl)];refine .inl ?_;unfold Oper.wp;rw [show (execOp a.eval ⟨none,.insert T (.tmp dm) y z,ty,pos,af,none⟩).run c.P w=.ok .skip W from g1,Zt];refine hK _ _ ?_;have lr:(mk == i)=false:=by simpa using fun e=>aZ e.symm
   rw [if_pos (by show (mk == i || S mk)=true;rw [lr,hS];rfl)];rw [cZ] at g2;refine ⟨es++[[kf,vf]],β,im (by rw [aJ];exact h1.append_right _),g2.ext (fun t=>?_) (fun id=>?_)⟩
   ·show _=(ab.wr (s.mp dm aa T es) _).get t;rw [ab.ct,Zz,Zz,Yq];rfl
   ·rw [Vr,XI];show _=(ab.wr (s.mp dm aa T es) _).ob id;rw [oQ,Vr];unfold xq;by_cases e:dm=id
    ·rw [if_pos e,if_pos e];rfl
    ·rw [if_neg e,if_neg e,if_neg e];rfl
 ·-- the end
  intro S a w bG hh;rw [if_pos (bG mk (hlen▸tD))] at hh;obtain ⟨es,β,h1,h2⟩:=hh;refine hQ es a w β (h1.trans ?_) (by rw [pg,hlen];exact h2);rw [← hR,hlen,uF (S:=S) (S':=fun _=>true) _ bG]
 ·have key:∀ n,gZ (fun k=>(Array.replicate ops.size false).getD k false) n≤n:=by
   intro n
   induction n with
   | zero => exact zf _
   | succ n ih => unfold gZ; split <;> omega
  exact key _
 ·rw [if_neg (by simp only [jV];decide)];have w7:∀ t,(sig tr s0 (fun k=>(Array.replicate ops.size false).getD k false) ops.size).get t=s0.get t:=fun t=>by
   have key:=xj (fun k=>fJ (tr.getD k default) t) (fun k=>(Array.replicate ops.size false).getD k false) (s0.get t) 0 ops.size (fun k _ hk hS=>by rw [jV] at hS;cases hS);rw [zM] at key;rw [yI,key];rfl
  have tN:∀ id,(sig tr s0 (fun k=>(Array.replicate ops.size false).getD k false) ops.size).ob id=s0.ob id:=fun id=>by
   have key:=xj (fun k=>xq (tr.getD k default).wr id) (fun k=>(Array.replicate ops.size false).getD k false) (s0.ob id) 0 ops.size (fun k _ hk hS=>by rw [jV] at hS;cases hS);rw [zM] at key;rw [xM,key];rfl
  exact ⟨⟨β,hD.ext w7 tN⟩,by rw [tN];exact aH,UA _ (fun k _=>jV k)⟩
def zW (c:Ctx) (ops:Array Oper) (dm T k aa:Nat) (l:List Oper) (s:ab) (tr:List Rec) (Q:ab→List Rec→Prop):Prop:=∃ kR s',UF c ops dm T k aa s l kR s'∧Q s' (tr++kR)
variable {dm T k aa:Nat} {rest:List Oper} {s:ab} {tr:List Rec} {t:List (Nat×FV)} {ob:List (Nat×yo)} {QM:ab→List Rec→Prop}
theorem zW.nil (h:QM s tr):zW c ops dm T k aa [] s tr QM:=⟨[],s,.nil s,by rw [Yu];exact h⟩
theorem zW.one {o:Oper} (hi:mL o.op=false) (hm:nt o.op=false) (hh:Ur dm o.op=false) (h:zG c ops [o] s tr fun s' kR=>zW c ops dm T k aa rest s' kR QM):zW c ops dm T k aa (o::rest) s tr QM:=by
 obtain ⟨px,s1,h1,kg,s2,h2,h3⟩:=h;exact ⟨_,s2,.one hi hm hh h1 h2,by rw [← zE];exact h3⟩
theorem zW.mk (h:zW c ops dm T k aa rest ⟨(dm,.undef)::t,ob⟩ (tr++[⟨⟨some dm,.makeMap T none,ty,pos,af,none⟩,.undef,[],[dm]⟩]) QM) :
  zW c ops dm T k aa ((⟨some dm,.makeMap T none,ty,pos,af,none⟩:Oper)::rest) ⟨t,ob⟩ tr QM:=by
 obtain ⟨kg,s2,h2,h3⟩:=h;exact ⟨_,s2,.spec (r:=⟨⟨some dm,.makeMap T none,ty,pos,af,none⟩,.undef,[],[dm]⟩) (.inr (.inr (.inl ⟨ty,pos,af,rfl⟩))) h2,by rw [zE] at h3;exact h3⟩
theorem zW.ins {y z:Operand} (cp:YH c.P k kf) (hy:(⟨t,ob⟩:ab).ev y=kf) (hz:(⟨t,ob⟩:ab).ev z=vf) (Ak:y≠.tmp dm) (Am:z≠.tmp dm) (hn:vf.hand=none)
  (h:zW c ops dm T k aa rest ⟨t,ob⟩ (tr++[⟨⟨none,.insert T (.tmp dm) y z,ty,pos,af,none⟩,.agg [kf,vf],[],[]⟩]) QM) :
  zW c ops dm T k aa ((⟨none,.insert T (.tmp dm) y z,ty,pos,af,none⟩:Oper)::rest) ⟨t,ob⟩ tr QM:=by
 obtain ⟨kg,s2,h2,h3⟩:=h;exact ⟨_,s2,.spec (r:=⟨⟨none,.insert T (.tmp dm) y z,ty,pos,af,none⟩,.agg [kf,vf],[],[]⟩) (.inr (.inr (.inr ⟨y,z,kf,vf,ty,pos,af,rfl,cp,Ak,Am,hy,hz,hn⟩))) h2,by rw [zE] at h3;exact h3⟩
theorem zW.hold (hd:d≠dm) (hN:Nat.blt d c.N=true) (h:zW c ops dm T k aa rest ⟨(d,.omap dm aa)::t,ob⟩ (tr++[⟨⟨some d,.move (.tmp dm),ty,pos,af,none⟩,.omap dm aa,[],[]⟩]) QM) :
  zW c ops dm T k aa ((⟨some d,.move (.tmp dm),ty,pos,af,none⟩:Oper)::rest) ⟨t,ob⟩ tr QM:=by
 obtain ⟨kg,s2,h2,h3⟩:=h;exact ⟨_,s2,.spec (r:=⟨⟨some d,.move (.tmp dm),ty,pos,af,none⟩,.omap dm aa,[],[]⟩) (.inr (.inl ⟨d,ty,pos,af,rfl,hd,by simpa [Nat.blt_eq] using hN⟩)) h2,by rw [zE] at h3;exact h3⟩
theorem FW.nC {id e mk aa:Nat} {l:List Oper} {s:ab} {Q:Exit→ab→Prop} (dm T:Nat) (R:List (List FV)) (hT:(c.ty T).k=.map k e) (K:Maps.Keyed c.P k) (jx:Nat.blt dm c.N=true) (aH:(s.ob dm).aa+1=aa) (dy:∀ row∈R,∀ kf,row.head? = some kf→YH c.P k kf) (hd:R.Pairwise fun a b=>a.head?≠b.head?)
  (h:zW c l.toArray dm T k aa l s [] fun s' tr=>(Ym l.toArray tr && ry l.toArray dm mk tr && Nat.blt mk tr.length)=true∧Zh tr (fun _=>true) tr.length=R∧∀ es,es.Perm R→Q .normal (s'.mp dm aa T es)):FW c (.region id l.toArray true) Q s:=fun w0 J a w β hF=>by
 obtain ⟨tr,s',hx,cW,hR,hq⟩:=h;rw [Wz,zA,zA] at cW;exact CS (Q:=iw fun a' w'=>∃ s' aS,Q .normal s'∧FR c.N w0 J s' a' w' aS) (ops:=l.toArray) hT K (by simpa [Nat.blt_eq] using jx) (by simpa using hx) cW.1.1 cW.1.2 aH (by simpa using hR) dy hd (by simpa [Nat.blt_eq] using cW.2) (fun es a w β hp f=>⟨_,β,hq es hp,f⟩) hF
end
end
section
open Go.RowKit Go.Maps
theorem aL.mJ (d:Nat) {f' : FV} (h:look .undef t d=f) (hn:f.hand=none) (m0 : f'.hand=none) (hr:∀ (w:World) (I:Nat→Prop) (v:Value),Rd w I v f→Rd w I v f'):aL ⟨t,ob⟩ ⟨(d,f')::t,ob⟩:=by
 intro N w0 J a w β hF;refine ⟨β,?_⟩;refine hF.step (C:=fun _=>False) hF.size hF.defers hF.bn (fun b hb=>⟨hb,rfl⟩) (fun k=>?_) (fun id _=>⟨rfl,rfl,fun _ _ _=>rfl⟩) (fun _ h=>h.elim) (fun _ h=>h.elim) (fun _ h=>h.elim) hF.inj (fun b _ hn=>⟨rfl,hn⟩);show (_∧look .undef ((d,_)::t) k=look .undef t k)∨_;by_cases gB:d=k
 ·subst gB;right;have:(⟨(d,f')::t,ob⟩:ab).get d=f':=by show look _ _ _=_;rw [zC,if_pos rfl]
  rw [this];refine ⟨VR.bu ?_ m0,fun id aa e=>(FV.bf m0 e).elim⟩;have h1:=hF.slot d;rw [show (⟨t,ob⟩:ab).get d=f from h] at h1;exact (hr _ _ _ (VR.rd h1 hn)).mono fun b hb=>⟨hb,rfl⟩
 ·left;refine ⟨rfl,?_⟩;rw [zC,if_neg gB]
theorem aL.dW (d:Nat) (h:look .undef t d=.smap aY) (hp:aY.Perm es):aL ⟨t,ob⟩ ⟨(d,.perm 0 es)::t,ob⟩:=
 aL.mJ d h rfl rfl fun _ _ v hr=>.dW v es aY hp hr
section
variable {c:Ctx} {w0 w:World} {J:JJ} {s:ab} {a:Act} {β:Nat→Option Nat}
theorem FR.AD (h:FR c.N w0 J s a w β) {x:Operand} (ex:s.ev x=.perm 0 es) (aZ:es.any (fun r=>r.length != 0)=true):∃ b clock au aY,a.eval x=.map (some b)∧aY.Perm es∧Mp w (aR J w β s) b clock au aY:=by
 have hr:=h.a9 ex rfl;generalize a.eval x=v at hr;cases hr with
 | perm v sz es aY hp hr=>
  rw [yY] at aZ;obtain ⟨r,h1,h2⟩:=aZ;cases hr with
  | list A n c sz es us hn hc he ho hA hl hr =>
   have:=he r (hp.mem_iff.2 h1);rw [this] at h2;cases h2
 | dW v es aY hp hr =>
  cases hr with
  | smap b clock au es hI hb br hl hk hr => exact ⟨b, clock, au, aY, rfl, hp, hb, br, hl, hk, hr⟩
theorem VO.perm {z:FV} {b:Bool} (hp:aY.Perm es) (h:VO es kf z vf b):VO aY kf z vf b:=by
 rcases h with ⟨h1,h2⟩|⟨h1,h2,h3⟩
 ·exact .inl ⟨h1,hp.mem_iff.2 h2⟩
 ·exact .inr ⟨h1,h2,fun row hr=>h3 row (hp.mem_iff.1 hr)⟩
theorem ax.mB {k e:Nat} (hT:(c.ty T).k=.map k e) {bb:Bool} (he:(c.ty e).k.aW = some bb) (K:Keyed c.P k) (x y:Operand) (aZ:es.any (fun r=>r.length != 0)=true) (ex:s.ev x=.perm 0 es)
(ey:s.ev y=kf) (hk:∀ row∈es,∀ kf,row.head? = some kf→YH c.P k kf) (cp:YH c.P k kf) {found:Bool} (hl:VO es kf (c.ty e).kU vf found) (hn:vf.hand=none):ax c s d (.lookup T x y true) (.bN [vf,.bool found]) []:=by
 refine .ext rfl (fun h=>by rcases h with ⟨_,_,_,h⟩|⟨_,_,_,_,h⟩ <;> cases h) fun s' h1 _ w0 J a w β ty pos after g bk hF K' Q hK=>?_;obtain ⟨b,clock,au,aY,hx,hp,hm⟩:=hF.AD (x:=x) (by rw [h1 x zh];exact ex) aZ;have kp : ∀ row∈aY,∀ kf,row.head? = some kf→YH c.P k kf:=fun row hr=>hk row (hp.mem_iff.1 hr);have hy:a.eval y=kf.val:=(hF.a9 (x:=y) (by rw [h1 y zh];exact ey) (by have:=cp.1;cases kf <;> first|rfl|(simp [FV.simple,FV.aG] at this))).bS cp.1;obtain ⟨v,g1,g2⟩:=uJ (w:=w) hT he K hm kp cp true (hl.perm hp);have hG:yK c w0 J s' a ⟨some d,.lookup T x y true,ty,pos,after,g⟩ w (.bN [vf,.bool found]) []:=.rd hF (v:=v) (by simp [execOp,hx,hy,g1]) (by simpa using g2) rfl;exact hG.wp (fun d' h=>by injection h with h;subst h;exact bk) hK
variable {ops:Array Oper} {rest:List Oper} {t:List (Nat×FV)} {ob:List (Nat×yo)} {ty:TypeId} {pos:String} {af:Array Edge} {g:Option (Nat×Bool)} {d:Nat} {tr:List Rec} {Q:ab→Prop} {QD:ab→List Rec→Prop}
theorem uA {T k e:Nat} {bb found:Bool} {x y:Operand} {kf vf:FV} {es:List (List FV)} (K:Maps.Keyed c.P k) (aZ:es.any (fun r=>r.length != 0)=true) (gC:∀ row∈es,∀ kf,row.head? = some kf→YH c.P k kf) (cp:YH c.P k kf) (qF:VO es kf (c.ty e).kU vf found) (hx:(⟨t,ob⟩:ab).ev x=.perm 0 es) (hy:(⟨t,ob⟩:ab).ev y=kf) (hT:(c.ty T).k=.map k e) (he:(c.ty e).k.aW = some bb) (hn:vf.hand=none) (hd:Nat.blt d c.N=true) (hw:Zf ops ⟨t,ob⟩ ⟨some d,.lookup T x y true,ty,pos,af,g⟩ true) (k:zG c ops rest ⟨((d,(.bN [vf,.bool found]))::t),ob⟩ (tr++[⟨⟨some d,.lookup T x y true,ty,pos,af,g⟩,(.bN [vf,.bool found]),[],Xe ⟨t,ob⟩ d (.lookup T x y true)⟩]) QD):zG c ops (⟨some d,.lookup T x y true,ty,pos,af,g⟩::rest) ⟨t,ob⟩ tr QD:=
 zG.cons (f:=(.bN [vf,.bool found])) (wr:=[]) (d:=d) (WQ hd (ax.mB hT he K x y aZ hx hy gC cp qF hn)) hw rfl rfl k
end
end
section
open Go.RowKit
theorem tX {P:Program} {k i:TypeId} {fs:Array Field} (hu:P.underlying k=some (.struct fs)) (hf:fs.toList.map (fun f=>(f.type,f.offset))=[(i,0),(i,1)]) (hn:fs.all (·.name != "_")=true)
  (hi:P.underlying i=some (.int .i64)) (c1:P.cellsOf i=1) (c2:P.cellsOf k=2) (hk:P.keyType k=true) (n:Nat) (ht:P.types.size=n+1) (ha:(Lit.int .i64 a).wf=true) (hb:(Lit.int .i64 b).wf=true) :
  ∃ l,keyOf P k (.agg #[.int .i64 a,.int .i64 b])=some l:=by
 have iW:∃ f g,fs.toList=[f,g]∧f.type=i∧f.offset=0∧g.type=i∧g.offset=1:=by
  generalize fs.toList=l at hf;rcases l with _|⟨f,_|⟨g,_|⟨h,t⟩⟩⟩ <;> simp at hf
  exact ⟨f,g,rfl,hf.1.1,hf.1.2,hf.2.1,hf.2.2⟩
 obtain ⟨f,g,hl,f1,f2,g1,g2⟩:=iW;have one:∀ x,(Lit.int .i64 x).wf=true→P.keyLits (n+1) i [.int .i64 x]=some [.int .i64 x]:=fun x hx=>by
  unfold Program.keyLits;rw [hi];simp [hx]
 have two:P.keyLits (P.types.size+1) k [.int .i64 a,.int .i64 b]=some [.int .i64 a,.int .i64 b]:=by
  unfold Program.keyLits;rw [hu];have bG:(fs.toList.all fun x=>x.name != "_")=true:=by
   rw [Array.all_toList];exact hn
  simp only;rw [if_pos ⟨by rw [c2];rfl,by simpa using hn⟩,hl,ht];simp [f1,f2,g1,g2,c1,one a ha,one b hb]
 unfold keyOf;rw [hu];refine ⟨.string (keyBytes [.int .i64 a,.int .i64 b]),?_⟩;have wy:(Value.agg #[.int .i64 a,.int .i64 b]).formed P k=true:=by simp [Value.formed,hu,c2]
 simp only [hk,wy,Bool.and_self,if_true];rw [show (Value.agg #[.int .i64 a,.int .i64 b]).cells.toList=[.int .i64 a,.int .i64 b] from rfl,two];rfl
theorem vd:laidOutB Tryz.prog=true:=by kernel_rfl
def uL (P:Program) (k:TypeId):Array Field:=match P.underlying k with|some (.struct fs)=>fs|_=>#[]
def gW (a b:Int):FV:=.agg [.int .i64 a,.int .i64 b]
theorem oM (h:aT a):(Lit.int .i64 a).wf=true:=by
 have h1:IntKind.i64.min = -9223372036854775808:=by kernel_rfl
 have h2:IntKind.i64.max=9223372036854775807:=by kernel_rfl
 unfold aT at h;simp [Lit.wf,h1,h2,h]
theorem rL {c d:Int} (h:gW a b=gW c d):a=c∧b=d:=by
 unfold gW at h;injection h with h
 injection h with h1 h2
 injection h2 with h2 _
 injection h1 with _ h1
 injection h2 with _ h2
 exact ⟨h1,h2⟩
def vc (f:FV):FV:=.aK 1 [[f]] 0 0
def iQ (o g:Int):FV:=.fn 86 [vc (.int .i64 o),vc (.int .i64 g)]
def nb (o:Int):FV:=.fn 97 [vc (.int .i64 o)]
def pW (o:Int):FV:=.fn 114 [vc (.int .i64 o)]
def pw (f:FV):FV:=.fn 112 [vc f]
def ru (es:List (List FV)):FV:=.fn 108 [vc (.list 1 es)]
theorem zS (o g:Int):zX Tryz.prog 39 [.int .i64 o,.int .i64 g] .sh (iQ o g):=by
 refine zt 6 Tryz.func39 Tryz.ntmps39 rfl ?_;change FW _ _ _ ⟨[(0,.int .i64 o),(1,.int .i64 g)],[]⟩;refine Yc ?_;refine zx.le ?_ (aL.bE 2 rfl rfl);refine zx.le ?_ (aL.bE 3 rfl rfl);refine zb ?_;exact FW.ret ⟨.inl rfl,.sh (.cons (.tmp 4 rfl rfl) .nil) rfl rfl⟩
theorem Yp (o:Int):zX Tryz.prog 45 [.int .i64 o] .sh (nb o):=by
 refine zt 4 Tryz.func45 Tryz.ntmps45 rfl ?_;change FW _ _ _ ⟨[(0,.int .i64 o)],[]⟩;refine Yc ?_;refine zx.le ?_ (aL.bE 1 rfl rfl);refine zb ?_;exact FW.ret ⟨.inl rfl,.sh (.cons (.tmp 2 rfl rfl) .nil) rfl rfl⟩
theorem Wa (o:Int):zX Tryz.prog 62 [.int .i64 o] .sh (pW o):=by
 refine zt 4 Tryz.func62 Tryz.ntmps62 rfl ?_;change FW _ _ _ ⟨[(0,.int .i64 o)],[]⟩;refine Yc ?_;refine zx.le ?_ (aL.bE 1 rfl rfl);refine zb ?_;exact FW.ret ⟨.inl rfl,.sh (.cons (.tmp 2 rfl rfl) .nil) rfl rfl⟩
theorem Vv (f:Nat):zX Tryz.prog 55 [.fn f []] .sh (pw (.fn f [])):=by
 refine zt 4 Tryz.func55 Tryz.ntmps55 rfl ?_;change FW _ _ _ ⟨[(0,.fn f [])],[]⟩;refine Yc ?_;refine zx.le ?_ (aL.bE 1 rfl rfl);refine zb ?_;exact FW.ret ⟨.inl rfl,.sh (.cons (.tmp 2 rfl rfl) .nil) rfl rfl⟩
theorem uq (es:List (List FV)):zX Tryz.prog 52 [.list 1 es] .sh (ru es):=by
 refine zt 4 Tryz.func52 Tryz.ntmps52 rfl ?_;change FW _ _ _ ⟨[(0,.list 1 es)],[]⟩;refine Yc ?_;refine zx.le ?_ (aL.bE 1 rfl rfl);refine zb ?_;exact FW.ret ⟨.inl rfl,.sh (.cons (.tmp 2 rfl rfl) .nil) rfl rfl⟩
theorem YN:Maps.Keyed Tryz.prog 72:=Maps.Keyed.of_law (deep_law_laid vd (m:=2) za (of_decide_eq_true zp) zp zp)
theorem xf (ha:aT a) (hb:aT b):YH Tryz.prog 72 (gW a b):=
 ⟨rfl,tX (i:=3) (fs:=uL Tryz.prog 72) zp zp zp zp zp zp zp (Tryz.prog.types.size - 1) zp (oM ha) (oM hb)⟩
def XQ (p:Int×Int×FV):List FV:=[gW p.1 p.2.1,p.2.2]
theorem Zd (hp:es.Perm (R.map XQ)) (h:∀ p∈R,¬ (p.1=a∧p.2.1=b)):oU es (gW a b) vf (es++[XQ (a,b,vf)]):=by
 refine .inr ⟨fun row hr e=>?_,rfl⟩;obtain ⟨p,hp,rfl⟩:=zL.1 (hp.mem_iff.1 hr);injection e with e
 exact h p hp (rL e)
theorem sq (h:∀ p∈R,aT p.1∧aT p.2.1):∀ row∈R.map XQ,∀ kf,row.head? = some kf→YH Tryz.prog 72 kf:=fun row hr kf e=>by
 obtain ⟨p,hp,rfl⟩:=zL.1 hr;injection e with e
 subst e;exact xf (h p hp).1 (h p hp).2
theorem Vp (hp:es.Perm (R.map XQ)) (h:∀ p∈R,aT p.1∧aT p.2.1):∀ row∈es,∀ kf,row.head? = some kf→YH Tryz.prog 72 kf:=fun row hr=>sq h row (hp.mem_iff.1 hr)
instance (x:Int):Decidable (aT x):=by unfold aT;infer_instance
def VB:List (Int×Int×FV):=[
 (1,0,.agg [iQ 0 0,.fn 40 []]),
 (1,1,.agg [iQ 1 0,.fn 41 []]),
 (2,3,.agg [iQ 2 0,.fn 42 []]),
 (2,4,.agg [.fn 43 [],.fn 44 []]),
 (3,5,.agg [nb 0,.fn 46 []]),
 (4,5,.agg [nb 0,.fn 46 []]),
 (5,0,.agg [.fn 47 [],.fn 48 []]),
 (5,6,.agg [nb 0,.fn 49 []]),
 (5,7,.agg [nb 3,.fn 50 []]),
 (5,8,.agg [nb 2,.fn 51 []]),
 (6,0,.agg [iQ 0 0,ru [[.fn 53 []],[.fn 54 []]]]),
 (6,9,.agg [iQ 2 0,pw (.fn 53 [])]),
 (6,10,.agg [iQ 2 0,pw (.fn 54 [])]),
 (7,0,.agg [iQ 0 0,ru [[.fn 56 []],[.fn 57 []],[.fn 58 []]]]),
 (7,11,.agg [iQ 2 0,pw (.fn 56 [])]),
 (7,12,.agg [.fn 59 [],.fn 60 []]),
 (8,0,.agg [iQ 1 0,pW 0]),
 (8,13,.agg [iQ 1 0,pW 13]),
 (8,14,.agg [iQ 0 0,.fn 63 []])]
def Wo (c:Int):Int×Int×FV:=(c,0,.agg [.fn 47 [],.fn 64 []])
def XL (c:Int):Int×Int×FV:=(c,2,.agg [iQ 1 0,.fn 61 []])
def xR:List (Int×Int×FV):=VB++[2,3,4].map Wo++[2,3,4,5].map XL
set_option maxRecDepth 20000 in
theorem Cf:(VB.map XQ).Pairwise fun a b=>a.head?≠b.head?:=by
 refine List.pairwise_map.2 ((show VB.Pairwise fun p q=>¬ (p.1=q.1∧p.2.1=q.2.1) by decide).imp fun {p q} h e=>h ?_);injection e with e
 exact rL e
set_option maxRecDepth 20000 in
theorem CY:∀ p∈VB,aT p.1∧aT p.2.1:=by decide
set_option maxRecDepth 20000 in
theorem BC:∀ p∈xR,aT p.1∧aT p.2.1:=by decide
theorem Ze {R' : List (Int×Int×FV)} {r:Int×Int×FV} (hp:es.Perm (R.map XQ)) (h:R++[r]=R'):(es++[XQ r]).Perm (R'.map XQ):=by
 rw [← h,Yz];exact hp.append_right _
set_option maxRecDepth 20000 in
theorem CZ:zX Tryz.prog 21 [] .sh (.perm 0 (xR.map XQ)):=by
 refine zt 95 Tryz.func21 Tryz.ntmps21 rfl ?_;change FW _ _ _ ⟨[],[]⟩;refine zb ?_;refine FW.nC (c:=(pO Tryz.prog pz WM 95)) (k:=72) (mk:=0) (aa:=1) (s:=⟨[(0,.bW)],[]⟩) 6 69 (VB.map XQ) rfl YN rfl rfl (sq CY) Cf ?_;refine zW.mk ?_;refine zW.one rfl rfl rfl ?_;refine zq ?_;refine zW.one rfl rfl rfl ?_;refine zF (zS 0 0) (by repeat (first|exact zi.nil|refine zi.cons zj ?_)) rfl rfl ?_;refine zG.nil ?_;refine zW.one rfl rfl rfl ?_;refine zq ?_;refine zW.ins (xf (a:=1) (b:=0) zc zc) rfl rfl (fun h=>by injection h with h;exact absurd h zc) (fun h=>by injection h with h;exact absurd h zc) rfl ?_;refine zW.one rfl rfl rfl ?_;refine zq ?_;refine zW.one rfl rfl rfl ?_;refine zF (zS 1 0) (by repeat (first|exact zi.nil|refine zi.cons zj ?_)) rfl rfl ?_;refine zG.nil ?_;refine zW.one rfl rfl rfl ?_;refine zq ?_;refine zW.ins (xf (a:=1) (b:=1) zc zc) rfl rfl (fun h=>by injection h with h;exact absurd h zc) (fun h=>by injection h with h;exact absurd h zc) rfl ?_;refine zW.one rfl rfl rfl ?_;refine zq ?_;refine zW.one rfl rfl rfl ?_;refine zF (zS 2 0) (by repeat (first|exact zi.nil|refine zi.cons zj ?_)) rfl rfl ?_;refine zG.nil ?_;refine zW.one rfl rfl rfl ?_;refine zq ?_;refine zW.ins (xf (a:=2) (b:=3) zc zc) rfl rfl (fun h=>by injection h with h;exact absurd h zc) (fun h=>by injection h with h;exact absurd h zc) rfl ?_;refine zW.one rfl rfl rfl ?_;refine zq ?_;refine zW.one rfl rfl rfl ?_;refine zq ?_;refine zW.ins (xf (a:=2) (b:=4) zc zc) rfl rfl (fun h=>by injection h with h;exact absurd h zc) (fun h=>by injection h with h;exact absurd h zc) rfl ?_;refine zW.one rfl rfl rfl ?_;refine zq ?_;refine zW.one rfl rfl rfl ?_;refine zF (Yp 0) (by repeat (first|exact zi.nil|refine zi.cons zj ?_)) rfl rfl ?_;refine zG.nil ?_;refine zW.one rfl rfl rfl ?_;refine zq ?_;refine zW.ins (xf (a:=3) (b:=5) zc zc) rfl rfl (fun h=>by injection h with h;exact absurd h zc) (fun h=>by injection h with h;exact absurd h zc) rfl ?_;refine zW.one rfl rfl rfl ?_;refine zq ?_;refine zW.one rfl rfl rfl ?_;refine zF (Yp 0) (by repeat (first|exact zi.nil|refine zi.cons zj ?_)) rfl rfl ?_;refine zG.nil ?_;refine zW.one rfl rfl rfl ?_;refine zq ?_;refine zW.ins (xf (a:=4) (b:=5) zc zc) rfl rfl (fun h=>by injection h with h;exact absurd h zc) (fun h=>by injection h with h;exact absurd h zc) rfl ?_;refine zW.one rfl rfl rfl ?_;refine zq ?_;refine zW.one rfl rfl rfl ?_;refine zq ?_;refine zW.ins (xf (a:=5) (b:=0) zc zc) rfl rfl (fun h=>by injection h with h;exact absurd h zc) (fun h=>by injection h with h;exact absurd h zc) rfl ?_;refine zW.one rfl rfl rfl ?_;refine zq ?_;refine zW.one rfl rfl rfl ?_;refine zF (Yp 0) (by repeat (first|exact zi.nil|refine zi.cons zj ?_)) rfl rfl ?_;refine zG.nil ?_;refine zW.one rfl rfl rfl ?_;refine zq ?_;refine zW.ins (xf (a:=5) (b:=6) zc zc) rfl rfl (fun h=>by injection h with h;exact absurd h zc) (fun h=>by injection h with h;exact absurd h zc) rfl ?_;refine zW.one rfl rfl rfl ?_;refine zq ?_;refine zW.one rfl rfl rfl ?_;refine zF (Yp 3) (by repeat (first|exact zi.nil|refine zi.cons zj ?_)) rfl rfl ?_;refine zG.nil ?_;refine zW.one rfl rfl rfl ?_;refine zq ?_;refine zW.ins (xf (a:=5) (b:=7) zc zc) rfl rfl (fun h=>by injection h with h;exact absurd h zc) (fun h=>by injection h with h;exact absurd h zc) rfl ?_;refine zW.one rfl rfl rfl ?_;refine zq ?_;refine zW.one rfl rfl rfl ?_;refine zF (Yp 2) (by repeat (first|exact zi.nil|refine zi.cons zj ?_)) rfl rfl ?_;refine zG.nil ?_;refine zW.one rfl rfl rfl ?_;refine zq ?_;refine zW.ins (xf (a:=5) (b:=8) zc zc) rfl rfl (fun h=>by injection h with h;exact absurd h zc) (fun h=>by injection h with h;exact absurd h zc) rfl ?_;refine zW.one rfl rfl rfl ?_;refine zq ?_;refine zW.one rfl rfl rfl ?_;refine zF (zS 0 0) (by repeat (first|exact zi.nil|refine zi.cons zj ?_)) rfl rfl ?_;refine zG.nil ?_;refine zW.one rfl rfl rfl ?_;refine Ux (es:=[[.fn 53 []],[.fn 54 []]]) rfl rfl rfl (by refine yb.one rfl rfl rfl rfl ?_;refine yb.one rfl rfl rfl rfl ?_;exact yb.nil) rfl rfl rfl rfl rfl ?_;refine zG.nil ?_;refine zW.one rfl rfl rfl ?_;refine zF (uq [[.fn 53 []],[.fn 54 []]]) (by repeat (first|exact zi.nil|refine zi.cons zj ?_)) rfl rfl ?_;refine zG.nil ?_;refine zW.one rfl rfl rfl ?_;refine zq ?_;refine zW.ins (xf (a:=6) (b:=0) zc zc) rfl rfl (fun h=>by injection h with h;exact absurd h zc) (fun h=>by injection h with h;exact absurd h zc) rfl ?_;refine zW.one rfl rfl rfl ?_;refine zq ?_;refine zW.one rfl rfl rfl ?_;refine zF (zS 2 0) (by repeat (first|exact zi.nil|refine zi.cons zj ?_)) rfl rfl ?_;refine zG.nil ?_;refine zW.one rfl rfl rfl ?_;refine zF (Vv 53) (by repeat (first|exact zi.nil|refine zi.cons zj ?_)) rfl rfl ?_;refine zG.nil ?_;refine zW.one rfl rfl rfl ?_;refine zq ?_;refine zW.ins (xf (a:=6) (b:=9) zc zc) rfl rfl (fun h=>by injection h with h;exact absurd h zc) (fun h=>by injection h with h;exact absurd h zc) rfl ?_;refine zW.one rfl rfl rfl ?_;refine zq ?_;refine zW.one rfl rfl rfl ?_;refine zF (zS 2 0) (by repeat (first|exact zi.nil|refine zi.cons zj ?_)) rfl rfl ?_;refine zG.nil ?_;refine zW.one rfl rfl rfl ?_;refine zF (Vv 54) (by repeat (first|exact zi.nil|refine zi.cons zj ?_)) rfl rfl ?_;refine zG.nil ?_;refine zW.one rfl rfl rfl ?_;refine zq ?_;refine zW.ins (xf (a:=6) (b:=10) zc zc) rfl rfl (fun h=>by injection h with h;exact absurd h zc) (fun h=>by injection h with h;exact absurd h zc) rfl ?_;refine zW.one rfl rfl rfl ?_;refine zq ?_;refine zW.one rfl rfl rfl ?_;refine zF (zS 0 0) (by repeat (first|exact zi.nil|refine zi.cons zj ?_)) rfl rfl ?_;refine zG.nil ?_;refine zW.one rfl rfl rfl ?_;refine Ux (es:=[[.fn 56 []],[.fn 57 []],[.fn 58 []]]) rfl rfl rfl (by refine yb.one rfl rfl rfl rfl ?_;refine yb.one rfl rfl rfl rfl ?_;refine yb.one rfl rfl rfl rfl ?_;exact yb.nil) rfl rfl rfl rfl rfl ?_;refine zG.nil ?_;refine zW.one rfl rfl rfl ?_;refine zF (uq [[.fn 56 []],[.fn 57 []],[.fn 58 []]]) (by repeat (first|exact zi.nil|refine zi.cons zj ?_)) rfl rfl ?_;refine zG.nil ?_;refine zW.one rfl rfl rfl ?_;refine zq ?_;refine zW.ins (xf (a:=7) (b:=0) zc zc) rfl rfl (fun h=>by injection h with h;exact absurd h zc) (fun h=>by injection h with h;exact absurd h zc) rfl ?_;refine zW.one rfl rfl rfl ?_;refine zq ?_;refine zW.one rfl rfl rfl ?_;refine zF (zS 2 0) (by repeat (first|exact zi.nil|refine zi.cons zj ?_)) rfl rfl ?_;refine zG.nil ?_;refine zW.one rfl rfl rfl ?_;refine zF (Vv 56) (by repeat (first|exact zi.nil|refine zi.cons zj ?_)) rfl rfl ?_;refine zG.nil ?_;refine zW.one rfl rfl rfl ?_;refine zq ?_;refine zW.ins (xf (a:=7) (b:=11) zc zc) rfl rfl (fun h=>by injection h with h;exact absurd h zc) (fun h=>by injection h with h;exact absurd h zc) rfl ?_;refine zW.one rfl rfl rfl ?_;refine zq ?_;refine zW.one rfl rfl rfl ?_;refine zq ?_;refine zW.ins (xf (a:=7) (b:=12) zc zc) rfl rfl (fun h=>by injection h with h;exact absurd h zc) (fun h=>by injection h with h;exact absurd h zc) rfl ?_;refine zW.one rfl rfl rfl ?_;refine zq ?_;refine zW.one rfl rfl rfl ?_;refine zF (zS 1 0) (by repeat (first|exact zi.nil|refine zi.cons zj ?_)) rfl rfl ?_;refine zG.nil ?_;refine zW.one rfl rfl rfl ?_;refine zF (Wa 0) (by repeat (first|exact zi.nil|refine zi.cons zj ?_)) rfl rfl ?_;refine zG.nil ?_;refine zW.one rfl rfl rfl ?_;refine zq ?_;refine zW.ins (xf (a:=8) (b:=0) zc zc) rfl rfl (fun h=>by injection h with h;exact absurd h zc) (fun h=>by injection h with h;exact absurd h zc) rfl ?_;refine zW.one rfl rfl rfl ?_;refine zq ?_;refine zW.one rfl rfl rfl ?_;refine zF (zS 1 0) (by repeat (first|exact zi.nil|refine zi.cons zj ?_)) rfl rfl ?_;refine zG.nil ?_;refine zW.one rfl rfl rfl ?_;refine zF (Wa 13) (by repeat (first|exact zi.nil|refine zi.cons zj ?_)) rfl rfl ?_;refine zG.nil ?_;refine zW.one rfl rfl rfl ?_;refine zq ?_;refine zW.ins (xf (a:=8) (b:=13) zc zc) rfl rfl (fun h=>by injection h with h;exact absurd h zc) (fun h=>by injection h with h;exact absurd h zc) rfl ?_;refine zW.one rfl rfl rfl ?_;refine zq ?_;refine zW.one rfl rfl rfl ?_;refine zF (zS 0 0) (by repeat (first|exact zi.nil|refine zi.cons zj ?_)) rfl rfl ?_;refine zG.nil ?_;refine zW.one rfl rfl rfl ?_;refine zq ?_;refine zW.ins (xf (a:=8) (b:=14) zc zc) rfl rfl (fun h=>by injection h with h;exact absurd h zc) (fun h=>by injection h with h;exact absurd h zc) rfl ?_;refine zW.hold zc rfl ?_;refine zW.one rfl rfl rfl ?_;refine zq ?_;refine zW.nil ⟨by kernel_rfl,rfl,fun es hp=>?_⟩;unfold ab.mp;refine FW.le (s':=⟨[(1,.omap 100 0)],[(100,⟨0,.bc,69,0,es⟩)]⟩) ?_ (aL.cv [⟨100,some 6,1,⟨0,.bc,69,0,es⟩⟩] zw zu);refine zb ?_;refine zD (es:=[[.int .i64 2],[.int .i64 3],[.int .i64 4]]) rfl rfl rfl (by refine yb.int rfl rfl ?_;refine yb.int rfl rfl ?_;refine yb.int rfl rfl ?_;exact yb.nil) rfl rfl rfl rfl rfl ?_;refine zb ?_;refine FW.loop (fun p:Nat×List (List FV)=>⟨[(1,.omap 100 0),(71,.list 1 [[.int .i64 2],[.int .i64 3],[.int .i64 4]]),(72,.int .i64 3),(73,.int .i64 (p.1:Nat))],[(100,⟨0,.bc,69,0,p.2⟩)]⟩) (fun p=>p.1≤3∧p.2.Perm ((VB++(([2,3,4]:List Int).take p.1).map Wo).map XQ)) (fun p=>3 - p.1) (0,es) ⟨zN _,by simpa using hp⟩ ?_ ?_
 ·exact (aL.cv [⟨100,some 100,0,⟨0,.bc,69,0,es⟩⟩] zw zu)
 clear hp es;rintro ⟨i,es⟩ ⟨hi,hp⟩;replace hi:i≤3:=hi;dsimp only at hp;obtain rfl|rfl|rfl|rfl:i=0∨i=1∨i=2∨i=3:=by omega
 ·refine zb ?_;refine xi YN (Vp hp zc) (xf (a:=2) (b:=0) zc zc) (Zd (vf:=(Wo 2).2.2) hp zc) rfl rfl rfl rfl rfl rfl rfl ?_;refine zb ?_;refine ⟨(1,es++[XQ (Wo 2)]),⟨(by show 1≤3;decide),Ze hp (by rw [zE];rfl)⟩,(by show 3 - 1<3 - 0;decide),?_⟩;exact (aL.cv [⟨100,some 100,0,⟨0,.bc,69,0,es++[XQ (Wo 2)]⟩⟩] zw zu)
 ·refine zb ?_;refine xi YN (Vp hp zc) (xf (a:=3) (b:=0) zc zc) (Zd (vf:=(Wo 3).2.2) hp zc) rfl rfl rfl rfl rfl rfl rfl ?_;refine zb ?_;refine ⟨(2,es++[XQ (Wo 3)]),⟨(by show 2≤3;decide),Ze hp (by rw [zE];rfl)⟩,(by show 3 - 2<3 - 1;decide),?_⟩;exact (aL.cv [⟨100,some 100,0,⟨0,.bc,69,0,es++[XQ (Wo 3)]⟩⟩] zw zu)
 ·refine zb ?_;refine xi YN (Vp hp zc) (xf (a:=4) (b:=0) zc zc) (Zd (vf:=(Wo 4).2.2) hp zc) rfl rfl rfl rfl rfl rfl rfl ?_;refine zb ?_;refine ⟨(3,es++[XQ (Wo 4)]),⟨(by show 3≤3;decide),Ze hp (by rw [zE];rfl)⟩,(by show 3 - 3<3 - 2;decide),?_⟩;exact (aL.cv [⟨100,some 100,0,⟨0,.bc,69,0,es++[XQ (Wo 4)]⟩⟩] zw zu)
 refine zb ?_;refine zD (es:=[[.int .i64 2],[.int .i64 3],[.int .i64 4],[.int .i64 5]]) rfl rfl rfl (by refine yb.int rfl rfl ?_;refine yb.int rfl rfl ?_;refine yb.int rfl rfl ?_;refine yb.int rfl rfl ?_;exact yb.nil) rfl rfl rfl rfl rfl ?_;refine zb ?_;refine FW.loop (fun p:Nat×List (List FV)=>⟨[(1,.omap 100 0),(82,.list 1 [[.int .i64 2],[.int .i64 3],[.int .i64 4],[.int .i64 5]]),(83,.int .i64 4),(84,.int .i64 (p.1:Nat))],[(100,⟨0,.bc,69,0,p.2⟩)]⟩) (fun p=>p.1≤4∧p.2.Perm ((VB++([2,3,4]:List Int).map Wo++(([2,3,4,5]:List Int).take p.1).map XL).map XQ)) (fun p=>4 - p.1) (0,es) ⟨zN _,by simpa using hp⟩ ?_ ?_
 ·exact (aL.cv [⟨100,some 100,0,⟨0,.bc,69,0,es⟩⟩] zw zu)
 clear hp es;rintro ⟨i,es⟩ ⟨hi,hp⟩;replace hi:i≤4:=hi;dsimp only at hp;obtain rfl|rfl|rfl|rfl|rfl:i=0∨i=1∨i=2∨i=3∨i=4:=by omega
 ·refine zb ?_;refine YF (zS 1 0) (by repeat (first|exact zi.nil|refine zi.cons zj ?_)) rfl rfl ?_;refine zb ?_;refine xi YN (Vp hp zc) (xf (a:=2) (b:=2) zc zc) (Zd (vf:=(XL 2).2.2) hp zc) rfl rfl rfl rfl rfl rfl rfl ?_;refine zb ?_;refine ⟨(1,es++[XQ (XL 2)]),⟨(by show 1≤4;decide),Ze hp (by rw [zE];rfl)⟩,(by show 4 - 1<4 - 0;decide),?_⟩;exact (aL.cv [⟨100,some 100,0,⟨0,.bc,69,0,es++[XQ (XL 2)]⟩⟩] zw zu)
 ·refine zb ?_;refine YF (zS 1 0) (by repeat (first|exact zi.nil|refine zi.cons zj ?_)) rfl rfl ?_;refine zb ?_;refine xi YN (Vp hp zc) (xf (a:=3) (b:=2) zc zc) (Zd (vf:=(XL 3).2.2) hp zc) rfl rfl rfl rfl rfl rfl rfl ?_;refine zb ?_;refine ⟨(2,es++[XQ (XL 3)]),⟨(by show 2≤4;decide),Ze hp (by rw [zE];rfl)⟩,(by show 4 - 2<4 - 1;decide),?_⟩;exact (aL.cv [⟨100,some 100,0,⟨0,.bc,69,0,es++[XQ (XL 3)]⟩⟩] zw zu)
 ·refine zb ?_;refine YF (zS 1 0) (by repeat (first|exact zi.nil|refine zi.cons zj ?_)) rfl rfl ?_;refine zb ?_;refine xi YN (Vp hp zc) (xf (a:=4) (b:=2) zc zc) (Zd (vf:=(XL 4).2.2) hp zc) rfl rfl rfl rfl rfl rfl rfl ?_;refine zb ?_;refine ⟨(3,es++[XQ (XL 4)]),⟨(by show 3≤4;decide),Ze hp (by rw [zE];rfl)⟩,(by show 4 - 3<4 - 2;decide),?_⟩;exact (aL.cv [⟨100,some 100,0,⟨0,.bc,69,0,es++[XQ (XL 4)]⟩⟩] zw zu)
 ·refine zb ?_;refine YF (zS 1 0) (by repeat (first|exact zi.nil|refine zi.cons zj ?_)) rfl rfl ?_;refine zb ?_;refine xi YN (Vp hp zc) (xf (a:=5) (b:=2) zc zc) (Zd (vf:=(XL 5).2.2) hp zc) rfl rfl rfl rfl rfl rfl rfl ?_;refine zb ?_;refine ⟨(4,es++[XQ (XL 5)]),⟨(by show 4≤4;decide),Ze hp (by rw [zE];rfl)⟩,(by show 4 - 4<4 - 3;decide),?_⟩;exact (aL.cv [⟨100,some 100,0,⟨0,.bc,69,0,es++[XQ (XL 5)]⟩⟩] zw zu)
 refine zb ?_;refine FW.le ?_ (aL.kc 0 rfl rfl);refine FW.le ?_ (aL.dW 0 rfl hp);exact FW.ret ⟨.inl rfl,.sh (.cons (.tmp 0 rfl rfl) .nil) rfl rfl⟩
end
section
open Go.RowKit Go.Maps
section
variable {c:Ctx} {w0 w:World} {J:JJ} {s:ab} {a:Act} {β:Nat→Option Nat}
theorem C0 {dst:Option Nat} {ty:TypeId} {g:Option (Nat×Bool)} (hT:(c.ty T).k=.aw fs) (hf:fs[i]? = some (off,ft)) (eu:(c.ty ft).k.aW = some false) (x:Operand) {us:List Value} {u:Value}
  (ex:a.eval x=.agg us.toArray) (hu:us[off]? = some u):(execOp a.eval ⟨dst,.field T x i,ty,pos,af,g⟩).run c.P w=.ok (.value u) w:=by
 obtain ⟨d,ii,z,ht⟩:=c.get hT zd;have hd:=ht.k;rw [hT] at hd;obtain ⟨gs,rfl,iW,_⟩:=YE hd;rw [iW,xy] at hf;cases hg:gs.toList[i]? with
 | none => rw [hg] at hf; cases hf
 | some fl =>
  rw [hg] at hf;simp only [xG,zK,yu] at hf;obtain ⟨rfl,rfl⟩:=hf;have qv : gs[i]? = some fl:=by simpa using hg
  have ha:=XM (c:=c) eu w;simp [execOp,Instr.field,run_underlying ht.u,qv,ex,asAgg,part,ha,hu,Result.andThen]
theorem ax.jl (hT:(c.ty T).k=.aw fs) (hf:fs[i]? = some (off,ft)) (eu:(c.ty ft).k.aW = some false) (x:Operand) (ex:s.ev x=.agg cs) (hc:cs[off]? = some f) (hn:f.hand=none):ax c s d (.field T x i) f []:=by
 refine .ext rfl (fun h=>by rcases h with ⟨_,_,_,h⟩|⟨_,_,_,_,h⟩ <;> cases h) fun s' h1 _ w0 J a w β ty pos after g bk hF K' Q hK=>?_;have vV : s'.ev x=.agg cs:=(h1 x zh).trans ex;have hr:=hF.a9 vV rfl;generalize hx:a.eval x=v at hr;cases hr with
 | agg us fs hl hr =>
  have aD:off<us.length:=by rw [hl];exact (ye.1 hc).1
  have hu:us[off]? = some us[off]:=by simp [aD]
  have hG:yK c w0 J s' a ⟨some d,.field T x i,ty,pos,after,g⟩ w f []:=.rd hF (C0 hT hf eu x hx hu) (hr off _ _ hu hc) hn;exact hG.wp (fun d' h=>by injection h with h;subst h;exact bk) hK
variable {ops:Array Oper} {rest:List Oper} {t:List (Nat×FV)} {ob:List (Nat×yo)} {ty:TypeId} {pos:String} {af:Array Edge} {g:Option (Nat×Bool)} {d:Nat} {tr:List Rec} {Q:ab→Prop} {QD:ab→List Rec→Prop}
theorem DK {x:Operand} (hx:(⟨t,ob⟩:ab).ev x=.agg cs) (hT:(c.ty T).k=.aw fs) (hf:fs[i]? = some (off,ft)) (eu:(c.ty ft).k.aW = some false) (hc:cs[off]? = some f) (hn:f.hand=none) (hd:Nat.blt d c.N=true)
  (hw:Zf ops ⟨t,ob⟩ ⟨some d,.field T x i,ty,pos,af,g⟩ true) (k:zx c ops rest ⟨(d,f)::t,ob⟩ Q):zx c ops (⟨some d,.field T x i,ty,pos,af,g⟩::rest) ⟨t,ob⟩ Q:=
 zx.cons (f:=f) (wr:=[]) (d:=d) (WQ hd (ax.jl hT hf eu x hx hc hn)) hw rfl k
theorem DE {x:Operand} (hx:(⟨t,ob⟩:ab).ev x=.agg cs) (hT:(c.ty T).k=.aw fs) (hf:fs[i]? = some (off,ft)) (eu:(c.ty ft).k.aW = some false) (hc:cs[off]? = some f) (hn:f.hand=none) (hd:Nat.blt d c.N=true)
  (hw:Zf ops ⟨t,ob⟩ ⟨some d,.field T x i,ty,pos,af,g⟩ true) (k:zG c ops rest ⟨(d,f)::t,ob⟩ (tr++[⟨⟨some d,.field T x i,ty,pos,af,g⟩,f,[],Xe ⟨t,ob⟩ d (.field T x i)⟩]) QD):zG c ops (⟨some d,.field T x i,ty,pos,af,g⟩::rest) ⟨t,ob⟩ tr QD:=
 zG.cons (f:=f) (wr:=[]) (d:=d) (WQ hd (ax.jl hT hf eu x hx hc hn)) hw rfl rfl k
end
end
section
open Go.RowKit
theorem vE {α:Type} [Inhabited α] {l:List α} {f:α→Bool}:l.any f=true↔∃ i,i<l.length∧f (nth l i)=true:=by
 rw [yY];constructor
 ·rintro ⟨x,hx,h⟩;obtain ⟨i,hi,rfl⟩:=yr hx;exact ⟨i,hi,by rw [yq hi];exact h⟩
 ·rintro ⟨i,hi,h⟩;exact ⟨_,yj hi,h⟩
def lF (p:Int→Bool) (l:List Int):Int:=if l.any p=true then (l.findIdx p:Nat) else -1
theorem vt {l:List Int} (aD:i<l.length) (h:p (nth l i)=true) (hf:∀ j,j<i→p (nth l j)=false):lF p l=i:=by
 unfold lF;rw [if_pos (vE.2 ⟨i,aD,h⟩),(List.findIdx_eq aD).2 ⟨by rw [← yq aD];exact h,fun j hj=>by rw [← yq (show j<l.length by omega)];exact hf j hj⟩]
theorem vv {l:List Int} (hf:∀ j,j<l.length→p (nth l j)=false):lF p l = -1:=by
 unfold lF;rw [if_neg];intro h;obtain ⟨j,h1,h2⟩:=vE.1 h;rw [hf j h1] at h2;cases h2
theorem vu {l:List Int}:decide (lF p l≥0)=l.any p:=by
 unfold lF;cases h:l.any p with
 | true => rw [if_pos rfl]; exact decide_eq_true (Int.natCast_nonneg _)
 | false => rw [if_neg zc]; rfl
theorem Vn (l:List Int) (cf:Nat) (aO:List FV) (p:Int→Bool) (hl:l.length≤1000000000) (hp:∀ o∈l,zX Tryz.prog cf ([.int .i64 o]++aO) .fr (.bool (p o))):zX Tryz.prog 120 [.list 1 (l.map Zc),.fn cf aO] .fr (.int .i64 (lF p l)):=by
 refine zt 19 Tryz.func120 Tryz.ntmps120 rfl ?_;change FW _ _ _ ⟨[(0,.list 1 (l.map Zc)),(1,.fn cf aO)],[]⟩;refine zb ?_;refine FW.loop (fun i:Nat=>⟨[(0,.list 1 (l.map Zc)),(1,.fn cf aO),(7,.int .i64 l.length),(8,.int .i64 i)],[]⟩) (fun i=>i≤l.length∧∀ j,j<i→p (nth l j)=false) (fun i=>l.length - i) 0 ⟨zN _,fun j hj=>by omega⟩ (aL.cv [] yQ zu) ?_;rintro i ⟨hi,hf⟩;refine zb ?_;refine FW.cond rfl (fun h=>?_) (fun h=>?_)
 ·have aD:i<l.length:=by simpa using h
  clear h;refine zb ?_;refine XJ rfl (hp (nth l i) (yj aD)) (by repeat (first|exact zi.nil|refine zi.cons zj ?_)) rfl rfl ?_;refine zb ?_;refine FW.cond rfl (fun h=>?_) (fun h=>?_)
  ·refine zb ?_;exact FW.ret ⟨.inl rfl,zm rfl rfl (congrArg (FV.int .i64) (vt aD h hf).symm) rfl⟩
  ·refine zb ?_;refine ⟨i+1,⟨by omega,fun j hj=>?_⟩,by omega,(aL.cv [] yQ zu)⟩;rcases yd j i with h1|h1
   ·exact hf j h1
   ·have:j=i:=by omega
    subst this;exact h
 ·obtain rfl:i=l.length:=by simp at h;omega
  refine zb ?_;exact FW.ret ⟨.inl rfl,zm rfl rfl (by rw [vv hf];rfl) rfl⟩
theorem xA (l:List Int) (cf:Nat) (aO:List FV) (p:Int→Bool) (hl:l.length≤1000000000) (hp:∀ o∈l,zX Tryz.prog cf ([.int .i64 o]++aO) .fr (.bool (p o))):zX Tryz.prog 66 [.list 1 (l.map Zc),.fn cf aO] .fr (.bool (l.any p)):=by
 refine zt 9 Tryz.func66 Tryz.ntmps66 rfl ?_;change FW _ _ _ ⟨[(0,.list 1 (l.map Zc)),(1,.fn cf aO)],[]⟩;refine zb ?_;refine zB (Vn l cf aO p hl hp) (by repeat (first|exact zi.nil|refine zi.cons zj ?_)) rfl rfl ?_;refine zb ?_;exact FW.ret ⟨.inl rfl,zm rfl rfl (congrArg FV.bool vu) rfl⟩
theorem Bf (l:List Int) (v:Int) (hl:l.length≤1000000):zX Tryz.prog 85 [.list 1 (l.map Zc),.int .i64 v] .fr (.int .i64 (lF (fun x=>decide (v=x)) l)):=by
 refine zt 19 Tryz.func85 Tryz.ntmps85 rfl ?_;change FW _ _ _ ⟨[(0,.list 1 (l.map Zc)),(1,.int .i64 v)],[]⟩;refine zb ?_;refine FW.loop (fun j:Nat=>⟨[(0,.list 1 (l.map Zc)),(1,.int .i64 v),(4,.int .i64 0),(7,.int .i64 l.length),(8,.int .i64 j)],[]⟩) (fun j=>j≤l.length∧∀ i,i<j→decide (v=nth l i)=false) (fun j=>l.length - j) 0 ⟨zN _,fun j hj=>by omega⟩ (aL.cv [] yQ zu) ?_;rintro j ⟨hj,hf⟩;refine zb ?_;refine FW.cond rfl (fun h=>?_) (fun h=>?_)
 ·have aD:j<l.length:=by simpa using h
  clear h;have tq:=vt (p:=fun x=>decide (v=x)) aD;obtain ⟨x,hx⟩:∃ x,nth l j=x:=⟨_,rfl⟩
  rw [hx] at tq;refine zb ?_;rw [hx];skip;refine FW.cond rfl (fun h2=>?_) (fun h2=>?_)
  ·refine zb ?_;exact FW.ret ⟨.inl rfl,zm rfl rfl (congrArg (FV.int .i64) (tq h2 hf).symm) rfl⟩
  ·refine zb ?_;refine ⟨j+1,⟨by omega,fun i hi=>?_⟩,by omega,(aL.cv [] yQ zu)⟩;rcases yd i j with h1|h1
   ·exact hf i h1
   ·have:i=j:=by omega
    subst this;rw [hx];exact h2
 ·obtain rfl:j=l.length:=by simp at h;omega
  refine zb ?_;exact FW.ret ⟨.inl rfl,zm rfl rfl (by rw [vv hf];rfl) rfl⟩
theorem VS (l:List Int) (v:Int) (hl:l.length≤1000000):zX Tryz.prog 37 [.list 1 (l.map Zc),.int .i64 v] .fr (.bool (l.any fun x=>decide (v=x))):=by
 refine zt 9 Tryz.func37 Tryz.ntmps37 rfl ?_;change FW _ _ _ ⟨[(0,.list 1 (l.map Zc)),(1,.int .i64 v)],[]⟩;refine zb ?_;refine zB (Bf l v hl) (by repeat (first|exact zi.nil|refine zi.cons zj ?_)) rfl rfl ?_;refine zb ?_;exact FW.ret ⟨.inl rfl,zm rfl rfl (congrArg FV.bool vu) rfl⟩
def WZ (k:Int):List Int:=if k=2∨k=5∨k=6 then [0,1] else if k=3∨k=4 then [0,2] else if k=7 then [3,4] else []
def kx (k:Int):FV:=if WZ k=[] then .nil else .list 1 ((WZ k).map Zc)
theorem Va (k:Int) (h1:1≤k) (h2:k≤8):zX Tryz.prog 19 [.int .i64 k] .sh (kx k):=by
 obtain rfl|rfl|rfl|rfl|rfl|rfl|rfl|rfl:k=1∨k=2∨k=3∨k=4∨k=5∨k=6∨k=7∨k=8:=by omega
 ·change zX Tryz.prog 19 [.int .i64 1] .sh .nil;refine zt 16 Tryz.func19 Tryz.ntmps19 rfl ?_;change FW _ _ _ ⟨[(0,.int .i64 1)],[]⟩;refine zb ?_;exact FW.ret ⟨.inl rfl,.sh (.cons (.tmp 2 rfl rfl) .nil) rfl rfl⟩
 ·change zX Tryz.prog 19 [.int .i64 2] .sh (.list 1 [[.int .i64 0],[.int .i64 1]]);refine zt 16 Tryz.func19 Tryz.ntmps19 rfl ?_;change FW _ _ _ ⟨[(0,.int .i64 2)],[]⟩;refine zb ?_;refine zD (es:=[[.int .i64 0],[.int .i64 1]]) rfl rfl rfl (by refine yb.int rfl rfl ?_;refine yb.int rfl rfl ?_;exact yb.nil) rfl rfl rfl rfl rfl ?_;refine zb ?_;exact FW.ret ⟨.inl rfl,.sh (.cons (.tmp 2 rfl rfl) .nil) rfl rfl⟩
 ·change zX Tryz.prog 19 [.int .i64 3] .sh (.list 1 [[.int .i64 0],[.int .i64 2]]);refine zt 16 Tryz.func19 Tryz.ntmps19 rfl ?_;change FW _ _ _ ⟨[(0,.int .i64 3)],[]⟩;refine zb ?_;refine zD (es:=[[.int .i64 0],[.int .i64 2]]) rfl rfl rfl (by refine yb.int rfl rfl ?_;refine yb.int rfl rfl ?_;exact yb.nil) rfl rfl rfl rfl rfl ?_;refine zb ?_;exact FW.ret ⟨.inl rfl,.sh (.cons (.tmp 2 rfl rfl) .nil) rfl rfl⟩
 ·change zX Tryz.prog 19 [.int .i64 4] .sh (.list 1 [[.int .i64 0],[.int .i64 2]]);refine zt 16 Tryz.func19 Tryz.ntmps19 rfl ?_;change FW _ _ _ ⟨[(0,.int .i64 4)],[]⟩;refine zb ?_;refine zD (es:=[[.int .i64 0],[.int .i64 2]]) rfl rfl rfl (by refine yb.int rfl rfl ?_;refine yb.int rfl rfl ?_;exact yb.nil) rfl rfl rfl rfl rfl ?_;refine zb ?_;exact FW.ret ⟨.inl rfl,.sh (.cons (.tmp 2 rfl rfl) .nil) rfl rfl⟩
 ·change zX Tryz.prog 19 [.int .i64 5] .sh (.list 1 [[.int .i64 0],[.int .i64 1]]);refine zt 16 Tryz.func19 Tryz.ntmps19 rfl ?_;change FW _ _ _ ⟨[(0,.int .i64 5)],[]⟩;refine zb ?_;refine zD (es:=[[.int .i64 0],[.int .i64 1]]) rfl rfl rfl (by refine yb.int rfl rfl ?_;refine yb.int rfl rfl ?_;exact yb.nil) rfl rfl rfl rfl rfl ?_;refine zb ?_;exact FW.ret ⟨.inl rfl,.sh (.cons (.tmp 2 rfl rfl) .nil) rfl rfl⟩
 ·change zX Tryz.prog 19 [.int .i64 6] .sh (.list 1 [[.int .i64 0],[.int .i64 1]]);refine zt 16 Tryz.func19 Tryz.ntmps19 rfl ?_;change FW _ _ _ ⟨[(0,.int .i64 6)],[]⟩;refine zb ?_;refine zD (es:=[[.int .i64 0],[.int .i64 1]]) rfl rfl rfl (by refine yb.int rfl rfl ?_;refine yb.int rfl rfl ?_;exact yb.nil) rfl rfl rfl rfl rfl ?_;refine zb ?_;exact FW.ret ⟨.inl rfl,.sh (.cons (.tmp 2 rfl rfl) .nil) rfl rfl⟩
 ·change zX Tryz.prog 19 [.int .i64 7] .sh (.list 1 [[.int .i64 3],[.int .i64 4]]);refine zt 16 Tryz.func19 Tryz.ntmps19 rfl ?_;change FW _ _ _ ⟨[(0,.int .i64 7)],[]⟩;refine zb ?_;refine zD (es:=[[.int .i64 3],[.int .i64 4]]) rfl rfl rfl (by refine yb.int rfl rfl ?_;refine yb.int rfl rfl ?_;exact yb.nil) rfl rfl rfl rfl rfl ?_;refine zb ?_;exact FW.ret ⟨.inl rfl,.sh (.cons (.tmp 2 rfl rfl) .nil) rfl rfl⟩
 ·change zX Tryz.prog 19 [.int .i64 8] .sh .nil;refine zt 16 Tryz.func19 Tryz.ntmps19 rfl ?_;change FW _ _ _ ⟨[(0,.int .i64 8)],[]⟩;refine zb ?_;exact FW.ret ⟨.inl rfl,.sh (.cons (.tmp 2 rfl rfl) .nil) rfl rfl⟩
def eH (o:aj):Bool:=decide (o.k=1) || decide (o.k=2) || decide (o.k=3)
def tT (o:aj):Bool:=o.done && (decide (o.k=0) || decide (o.k=2) || decide (o.k=4))
theorem Xd (o:aj):zX Tryz.prog 38 [.agg o.fv] .fr (.bool (eH o)):=by
 obtain ⟨p,k,ke,ar,re,ca,rt,dn⟩:=o;refine zt 16 Tryz.func38 Tryz.ntmps38 rfl ?_;change FW _ _ _ ⟨[(0,.agg (aj.fv ⟨p,k,ke,ar,re,ca,rt,dn⟩))],[]⟩;unfold eH aj.fv;dsimp only;refine zb ?_;refine yl (fun h1=>?_) (fun h1=>?_)
 ·rw [h1];refine zb ?_;exact FW.ret ⟨.inl rfl,zm rfl rfl rfl rfl⟩
 ·rw [h1];refine zb ?_;refine yl (fun h2=>?_) (fun h2=>?_)
  ·rw [h2];refine zb ?_;exact FW.ret ⟨.inl rfl,zm rfl rfl rfl rfl⟩
  ·rw [h2];refine zb ?_;exact FW.ret ⟨.inl rfl,zm rfl rfl rfl rfl⟩
theorem ZS (o:aj):zX Tryz.prog 92 [.agg o.fv] .fr (.bool (tT o)):=by
 obtain ⟨p,k,ke,ar,re,ca,rt,dn⟩:=o;refine zt 20 Tryz.func92 Tryz.ntmps92 rfl ?_;change FW _ _ _ ⟨[(0,.agg (aj.fv ⟨p,k,ke,ar,re,ca,rt,dn⟩))],[]⟩;unfold tT aj.fv;dsimp only;refine zb ?_;refine yl (fun h1=>?_) (fun h1=>?_)
 ·subst h1;refine zb ?_;refine yl (fun h2=>?_) (fun h2=>?_)
  ·rw [h2];refine zb ?_;exact FW.ret ⟨.inl rfl,zm rfl rfl rfl rfl⟩
  ·rw [h2];refine zb ?_;refine yl (fun h3=>?_) (fun h3=>?_)
   ·rw [h3];refine zb ?_;exact FW.ret ⟨.inl rfl,zm rfl rfl rfl rfl⟩
   ·rw [h3];refine zb ?_;exact FW.ret ⟨.inl rfl,zm rfl rfl rfl rfl⟩
 ·subst h1;refine zb ?_;exact FW.ret ⟨.inl rfl,zm rfl rfl rfl rfl⟩
theorem vx:Maps.Keyed Tryz.prog 92:=Maps.Keyed.of_law (deep_law_laid vd (m:=2) za (of_decide_eq_true zp) zp zp)
theorem sk (ha:aT a) (hb:aT b):YH Tryz.prog 92 (gW a b):=
 ⟨rfl,tX (i:=3) (fs:=uL Tryz.prog 92) zp zp zp zp zp zp zp (Tryz.prog.types.size - 1) zp (oM ha) (oM hb)⟩
def Zl (l:List aj) (i:Nat):List (Int×Int):=((l.take i).filter eH).map fun o=>(o.key,o.arg)
def kS (l:List aj) (i:Nat):List (List FV):=(Zl l i).map fun p=>[gW p.1 p.2,.bool true]
theorem Bj (hi:i<l.length):Zl l (i+1)=Zl l i++if eH (nth l i)=true then [((nth l i).key,(nth l i).arg)] else []:=by
 unfold Zl;rw [ZL hi,List.filter_append,Yz,← yq hi];congr 1;by_cases h:eH (nth l i)=true <;> simp [h]
theorem CX (hi:i<l.length):kS l (i+1)=kS l i++if eH (nth l i)=true then [[gW (nth l i).key (nth l i).arg,.bool true]] else []:=by
 unfold kS;rw [Bj hi,Yz];congr 1;split <;> rfl
theorem DC (cA:∀ o∈l,gy o) {p:Int×Int} (hp:p∈Zl l i):aT p.1∧aT p.2:=by
 obtain ⟨o,ho,rfl⟩:=zL.1 hp;have:=cA o (yN (UQ.1 ho).1);exact ⟨this.2.2.1,this.2.2.2.1⟩
theorem DL (cA:∀ o∈l,gy o):∀ row∈kS l i,∀ kf,row.head? = some kf→YH Tryz.prog 92 kf:=fun row hr kf hk=>by
 obtain ⟨p,hp,rfl⟩:=zL.1 hr;have ho:=DC cA hp;injection hk with hk
 subst hk;exact sk ho.1 ho.2
theorem Uz (h:(a,b)∉Zl l i):∀ row∈kS l i,row.head?≠some (gW a b):=fun row hr he=>by
 obtain ⟨p,hp,rfl⟩:=zL.1 hr;injection he with he
 unfold gW at he;injection he with he
 injection he with h1 h2
 injection h1 with _ h1
 injection h2 with h2 _
 injection h2 with _ h2
 obtain ⟨x,y⟩:=p;dsimp only at h1 h2;rw [h1,h2] at hp;exact h hp
theorem Eh {B:Bool} (hB:decide ((a,b)∈Zl l i)=B):VO (kS l i) (gW a b) (.bool false) (.bool B) B:=by
 by_cases h:(a,b)∈Zl l i
 ·rw [decide_eq_true h] at hB;subst hB;exact .inl ⟨rfl,zL.2 ⟨(a,b),h,rfl⟩⟩
 ·rw [decide_eq_false h] at hB;subst hB;exact .inr ⟨rfl,rfl,Uz h⟩
def iX (K:List Int) (l:List aj) (i:Nat):Bool:=(K.any fun x=>decide ((nth l i).k=x)) && (!eH (nth l i) || (!decide ((nth l i).arg=0) && !decide (((nth l i).key,(nth l i).arg)∈Zl l i)))
def VJ (K:List Int) (l:List aj):Bool:=decide (xm l=0) && (List.range l.length).all (iX K l)
theorem UV {K:List Int} (hi:i<l.length) (h:iX K l i=false):VJ K l=false:=by
 cases hd:VJ K l with
 | false => rfl
 | true =>
  unfold VJ at hd;rw [zA,zI] at hd;rw [hd.2 i (by simpa using hi)] at h;cases h
theorem AO (k:Int) (h1:2≤k) (h2:k≤7):zX Tryz.prog 19 [.int .i64 k] .sh (.list 1 ((WZ k).map Zc)):=by
 have h3:kx k=.list 1 ((WZ k).map Zc):=by
  unfold kx;rw [if_neg];obtain rfl|rfl|rfl|rfl|rfl|rfl:k=2∨k=3∨k=4∨k=5∨k=6∨k=7:=by omega
  all_goals decide
 rw [← h3];exact Va k za za
theorem XE (k:Int) (h1:2≤k) (h2:k≤7) (l:List aj) (hl:l.length≤1000000) (cA:∀ o∈l,gy o):zX Tryz.prog 20 [.int .i64 k,.list 8 (l.map aj.fv)] .fr (.bool (VJ (WZ k) l)):=by
 have jy:=AO k h1 h2;have hlen:(WZ k).length≤1000000:=by
  unfold WZ;split
  ·decide
  ·split
   ·decide
   ·split <;> decide
 generalize WZ k=K at jy hlen;have l5:=By l cA za;obtain ⟨E,hE⟩:∃ E,VJ K l=E:=⟨_,rfl⟩
 rw [hE];have kl:xm l≠0→E=false:=fun h=>by rw [← hE];unfold VJ;rw [decide_eq_false h];rfl
 have jn:xm l=0→(∀ j,j<l.length→iX K l j=true)→E=true:=fun h hd=>by
  rw [← hE];unfold VJ;rw [decide_eq_true h,Bool.true_and,zI];exact fun j hj=>hd j (by simpa using hj)
 have wg:∀ i,i<l.length→iX K l i=false→E=false:=fun i hi h=>by rw [← hE];exact UV hi h
 generalize xm l=C at l5 kl jn;refine zt 46 Tryz.func20 Tryz.ntmps20 rfl ?_;change FW _ _ _ ⟨[(0,.int .i64 k),(1,.list 8 (l.map aj.fv))],[]⟩;refine zb ?_;refine zB l5 (by repeat (first|exact zi.nil|refine zi.cons zj ?_)) rfl rfl ?_;refine zb ?_;refine FW.cond rfl (fun h=>?_) (fun h=>?_)
 ·obtain rfl:=kl (by simpa using h);refine zb ?_;exact FW.ret ⟨.inl rfl,zm rfl rfl rfl rfl⟩
 have h0:C=0:=by simpa using h
 refine zb ?_;refine FW.loop (fun i:Nat=>⟨[(0,.int .i64 k),(5,.omap 100 0),(12,.list 8 (l.map aj.fv)),(13,.int .i64 l.length),(14,.int .i64 i)],[(100,⟨0,.bc,90,0,kS l i⟩)]⟩) (fun i=>i≤l.length∧∀ j,j<i→iX K l j=true) (fun i=>l.length - i) 0 ⟨zN _,fun j hj=>absurd hj za⟩ ?_ ?_
 ·exact (aL.cv [⟨100,some 11,1,⟨0,.bc,90,0,[]⟩⟩] zw zu)
 rintro i ⟨hi,cW⟩;refine zb ?_;refine FW.cond rfl (fun h=>?_) (fun h=>?_)
 ·have aD:i<l.length:=by simpa using h
  clear h;have step:iX K l i=true→∀ j,j<i+1→iX K l j=true:=fun h0 j hj=>by
   rcases yd j i with h1|h1
   ·exact cW j h1
   ·have:j=i:=by omega
    subst this;exact h0
  have bad:=wg i aD;have ho:=cA _ (yj aD);have hw:=Xd (nth l i);have kO:=CX aD;obtain ⟨o,jP⟩:∃ o,nth l i=o:=⟨_,rfl⟩
  unfold iX at step bad;rw [jP] at step bad ho kO hw;have bU:=DL (i:=i) cA;have nJ:=VS K o.k hlen;obtain ⟨B,hB⟩:∃ B,decide ((o.key,o.arg)∈Zl l i)=B:=⟨_,rfl⟩
  have ln:=Eh hB;have eT:B=false→∀ row∈kS l i,row.head?≠some (gW o.key o.arg):=fun h=>Uz (of_decide_eq_false (hB.trans h));rw [hB] at step bad;generalize kS l i=R at kO bU ln eT;generalize (K.any fun x=>decide (o.k=x))=KB at nJ step bad;generalize eH o=WB at hw step bad kO;refine zb ?_;rw [jP];refine xb ?_;refine zF jy (by repeat (first|exact zi.nil|refine zi.cons zj ?_)) rfl rfl ?_;refine zq ?_;refine YY nJ (by repeat (first|exact zi.nil|refine zi.cons zj ?_)) rfl rfl ?_;refine zq ?_;refine ⟨by kernel_rfl,?_⟩;skip;refine FW.cond rfl (fun h=>?_) (fun h=>?_)
  ·obtain rfl:KB=false:=by simpa using h
   obtain rfl:=bad rfl;refine zb ?_;exact FW.ret ⟨.inl rfl,zm rfl rfl rfl rfl⟩
  obtain rfl:KB=true:=by simpa using h
  refine zb ?_;refine zB hw (by repeat (first|exact zi.nil|refine zi.cons zj ?_)) rfl rfl ?_;refine zb ?_;refine FW.cond rfl (fun h3=>?_) (fun h3=>?_)
  ·obtain rfl:WB=false:=by simpa using h3
   rw [if_neg zc,Yu] at kO;refine zb ?_;refine ⟨i+1,⟨by omega,step rfl⟩,by omega,?_⟩;rw [kO];exact (aL.cv [⟨100,some 100,0,⟨0,.bc,90,0,R⟩⟩] zw zu)
  obtain rfl:WB=true:=by simpa using h3
  refine zb ?_;refine yl (fun h4=>?_) (fun h4=>?_)
  ·obtain rfl:=bad (by rw [h4];rfl);refine zb ?_;exact FW.ret ⟨.inl rfl,zm rfl rfl rfl rfl⟩
  refine zb ?_;refine uE (e:=4) vx bU (sk ho.2.2.1 ho.2.2.2.1) ln rfl rfl zc rfl rfl rfl rfl rfl ⟨_,_,rfl,rfl,rfl⟩ ?_;refine zb ?_;refine FW.cond rfl (fun h5=>?_) (fun h5=>?_)
  ·obtain rfl:B=true:=h5;obtain rfl:=bad (by rw [h4];rfl);refine zb ?_;exact FW.ret ⟨.inl rfl,zm rfl rfl rfl rfl⟩
  obtain rfl:B=false:=h5;refine zb ?_;refine xi vx bU (sk ho.2.2.1 ho.2.2.2.1) (.inr ⟨eT rfl,rfl⟩) rfl rfl rfl rfl rfl rfl rfl ?_;refine zb ?_;rw [if_pos rfl] at kO;refine ⟨i+1,⟨by omega,step (by rw [h4];rfl)⟩,by omega,?_⟩;rw [kO];exact (aL.cv [⟨100,some 100,0,⟨0,.bc,90,0,R++[[gW o.key o.arg,.bool true]]⟩⟩] zw zu)
 ·obtain rfl:i=l.length:=by simp at h;omega
  obtain rfl:=jn h0 cW;refine zb ?_;exact FW.ret ⟨.inl rfl,zm rfl rfl rfl rfl⟩
structure ch where
 k:Int
 nd:Int:=0
 fk:Int:=0
 fa:Int:=0
 fb:Int:=0
 fn:Int:=0
 kids:List (List FV):=[]
 ops:List (List FV):=[]
 tr:List (List FV):=[]
 fl:List (List FV):=[]
 cl:Int:=0
 ar:Int:=0
 ed:List (List FV):=[]
def ch.c (x:ch):FV:=.agg [.int .i64 x.k,.int .i64 x.nd,.int .i64 x.fk,.int .i64 x.fa,.int .i64 x.fb,.int .i64 x.fn,.list 5 x.kids]
def ch.e (x:ch):FV:=.agg [.list 8 x.ops,.list 1 x.tr,.list 4 x.fl]
def ch.v (x:ch) (od:FV):FV:=.agg [.int .i64 x.k,.int .i64 x.cl,.int .i64 x.ar,od,.list 3 x.ed]
def ch.x (x:ch) (od:FV):FV:=.agg [.int .i64 x.k,.int .i64 x.nd,.int .i64 x.fk,.int .i64 x.fa,.int .i64 x.fb,.int .i64 x.fn,.list 5 x.kids,.list 8 x.ops,.list 1 x.tr,.list 4 x.fl,.int .i64 x.k,.int .i64 x.cl,.int .i64 x.ar,od,.list 3 x.ed]
def oV (od:FV):Prop:=od.one=true
theorem Wh:∀ row∈xR.map XQ,∀ kf,row.head? = some kf→YH Tryz.prog 72 kf:=sq BC
theorem Cg {k cl:Int} (h:∀ p∈xR,¬ (p.1=k∧p.2.1=cl)):∀ row∈xR.map XQ,row.head?≠some (gW k cl):=fun row hr e=>by
 obtain ⟨p,hp,rfl⟩:=zL.1 hr;injection e with e
 exact h p hp (rL e)
theorem ZD (x:ch) (od:FV) (fD:oV od) (hk:1≤x.k∧x.k≤8) (cO:aT x.cl) (bd:Bool) (jy:(kx x.k=.nil∧bd=true)∨(kx x.k=.list 1 ((WZ x.k).map Zc)∧WZ x.k≠[]∧zX Tryz.prog 20 [.int .i64 x.k,.list 8 x.ops] .fr (.bool bd)))
  (known:Bool) (cx:known=false→∀ p∈xR,¬ (p.1=x.k∧p.2.1=x.cl)) (sf pf:Nat) (sc pc:List FV) (mz:known=true→(x.k,x.cl,.agg [.fn sf sc,.fn pf pc])∈xR) (bs bi bp:Bool)
  (hs:known=true→zX Tryz.prog sf ([x.x od]++sc) .fr (.bool bs)) (hi:known=true→bs=true→zX Tryz.prog 22 [x.x od] .fr (.bool bi)) (hp:known=true→bs=true→bi=true→zX Tryz.prog pf ([x.x od]++pc) .fr (.bool bp))
  (E:Int) (sU:bd=false→E=22) (kl:bd=true→E=if known && (bs && bi) then (if bp then 0 else 31) else 30):zX Tryz.prog 8 [x.c,x.e,x.v od] .fr (.int .i64 E):=by
 have jx:=Va x.k hk.1 hk.2;obtain ⟨k,nd,fk,fa,fb,fn,kids,ops,tr,fl,cl,ar,ed⟩:=x;obtain ⟨h1,h2⟩:=hk;have gC:aT k:=⟨by dsimp only at h1;omega,by dsimp only at h2;omega⟩
 unfold ch.c ch.e ch.v;unfold ch.x at hs hi hp;dsimp only at h1 h2 cO jy cx mz hs hi hp jx ⊢;have qb:[FV.int .i64 k,.int .i64 cl,.int .i64 ar,od,.list 3 ed].all FV.one=true:=by simp only [Xj,List.all_nil,show od.one=true from fD];rfl
 have nE:[FV.int .i64 k,.int .i64 nd,.int .i64 fk,.int .i64 fa,.int .i64 fb,.int .i64 fn,.list 5 kids,.list 8 ops,.list 1 tr,.list 4 fl,.int .i64 k,.int .i64 cl,.int .i64 ar,od,.list 3 ed].all FV.one=true:=by simp only [Xj,List.all_nil,show od.one=true from fD];rfl
 rcases jy with ⟨hd,rfl⟩|⟨hd,aZ,jw⟩
 all_goals rw [hd] at jx
 all_goals (
  refine zt 72 Tryz.func8 Tryz.ntmps8 rfl ?_;change FW _ _ _ ⟨[(0,_),(1,_),(2,_)],[]⟩;refine zb ?_;refine zx.cC (Yd rfl rfl qb rfl rfl) rfl rfl ?_;refine zb ?_;refine yl (fun h=>absurd (of_decide_eq_true h) za) (fun h3=>?_);rw [h3];refine zb ?_;refine yl (fun h=>absurd (of_decide_eq_true h) za) (fun h4=>?_);rw [h4];refine zb ?_;refine FW.cond rfl (fun h=>absurd (of_decide_eq_true h) zd) (fun h5=>?_);refine zb ?_;refine YF jx (by repeat (first|exact zi.nil|refine zi.cons zj ?_)) rfl rfl ?_
  first
  | (
    refine zx.aq (CA rfl rfl rfl (by simpa using aZ)) rfl rfl ?_;refine zb ?_;refine zB jw (by repeat (first|exact zi.nil|refine zi.cons zj ?_)) rfl ⟨_,_,rfl,rfl,rfl⟩ ?_;refine zb ?_;refine FW.cond rfl (fun h=>?_) (fun h=>?_)
    (·
      obtain rfl:bd=false:=by simpa using h
      obtain rfl:=sU rfl;refine zb ?_;exact FW.ret ⟨.inl rfl,zm rfl rfl rfl rfl⟩)
    obtain rfl:bd=true:=by simpa using h
    refine zb ?_)
  | refine zb ?_
  refine ZC.agg rfl rfl qb rfl (List.cons_ne_nil _ _) rfl ?_;refine ZC.nil ?_;show zx _ _ _ ⟨(40,.agg [.int .i64 k,.int .i64 nd,.int .i64 fk,.int .i64 fa,.int .i64 fb,.int .i64 fn,.list 5 kids,.list 8 ops,.list 1 tr,.list 4 fl,.int .i64 k,.int .i64 cl,.int .i64 ar,od,.list 3 ed])::_,_⟩ _
  (repeat (first|refine zx.cC (Xu rfl rfl rfl rfl rfl) rfl rfl ?_))
  refine zx.fR (YC rfl rfl nE rfl rfl rfl rfl rfl) rfl ?_;refine zb ?_;have kl:=kl rfl;clear qb nE hd jx h3 h4 h5 sU;refine FW.le (s':=⟨[(3,.ptr 103 0 0 0),(5,.ptr 105 0 0 0),(7,.ptr 107 0 0 0)],[(103,⟨0,.own,36,7,[[.int .i64 k,.int .i64 nd,.int .i64 fk,.int .i64 fa,.int .i64 fb,.int .i64 fn,.list 5 kids]]⟩),(105,⟨0,.own,43,5,[[.int .i64 k,.int .i64 cl,.int .i64 ar,od,.list 3 ed]]⟩),(107,⟨0,.own,64,15,[[.int .i64 k,.int .i64 nd,.int .i64 fk,.int .i64 fa,.int .i64 fb,.int .i64 fn,.list 5 kids,.list 8 ops,.list 1 tr,.list 4 fl,.int .i64 k,.int .i64 cl,.int .i64 ar,od,.list 3 ed]]⟩)]⟩) ?_ (aL.cv [⟨103,some 3,1,⟨0,.own,36,7,[[.int .i64 k,.int .i64 nd,.int .i64 fk,.int .i64 fa,.int .i64 fb,.int .i64 fn,.list 5 kids]]⟩⟩,⟨105,some 5,1,⟨0,.own,43,5,[[.int .i64 k,.int .i64 cl,.int .i64 ar,od,.list 3 ed]]⟩⟩,⟨107,some 7,1,⟨0,.own,64,15,[[.int .i64 k,.int .i64 nd,.int .i64 fk,.int .i64 fa,.int .i64 fb,.int .i64 fn,.list 5 kids,.list 8 ops,.list 1 tr,.list 4 fl,.int .i64 k,.int .i64 cl,.int .i64 ar,od,.list 3 ed]]⟩⟩] zw zu);refine xb ?_;refine zF CZ UT rfl rfl ?_;refine zq ?_;cases known
  (·
    obtain rfl:=kl;refine uA (e:=67) YN rfl Wh (xf gC cO) (.inr ⟨rfl,rfl,Cg (cx rfl)⟩) rfl rfl rfl rfl rfl rfl rfl ?_;refine zq ?_;refine ⟨by kernel_rfl,?_⟩;refine FW.le (s':=⟨[(9,.bool false)],[]⟩) ?_ (aL.cv [] yQ zu);refine zb ?_;exact FW.ret ⟨.inl rfl,zm rfl rfl rfl rfl⟩)
  refine uA (e:=67) YN rfl Wh (xf gC cO) (.inl ⟨rfl,zL.2 ⟨_,mz rfl,rfl⟩⟩) rfl rfl rfl rfl rfl rfl rfl ?_;refine zq ?_;refine ⟨by kernel_rfl,?_⟩;refine FW.le (s':=⟨[(7,.ptr 107 0 0 0),(8,.ptr 108 0 0 0),(9,.bool true)],[(107,⟨0,.own,64,15,[[.int .i64 k,.int .i64 nd,.int .i64 fk,.int .i64 fa,.int .i64 fb,.int .i64 fn,.list 5 kids,.list 8 ops,.list 1 tr,.list 4 fl,.int .i64 k,.int .i64 cl,.int .i64 ar,od,.list 3 ed]]⟩),(108,⟨0,.own,67,2,[[.fn sf sc,.fn pf pc]]⟩)]⟩) ?_ (aL.cv [⟨107,some 107,0,⟨0,.own,64,15,[[.int .i64 k,.int .i64 nd,.int .i64 fk,.int .i64 fa,.int .i64 fb,.int .i64 fn,.list 5 kids,.list 8 ops,.list 1 tr,.list 4 fl,.int .i64 k,.int .i64 cl,.int .i64 ar,od,.list 3 ed]]⟩⟩,⟨108,some 8,1,⟨0,.own,67,2,[[.fn sf sc,.fn pf pc]]⟩⟩] zw zu);have hs:=hs rfl;have hi:=hi rfl;have hp:=hp rfl;clear mz cx;refine zb ?_;refine XJ rfl hs (by repeat (first|exact zi.nil|refine zi.cons zj ?_)) rfl ⟨_,_,rfl,rfl,rfl⟩ ?_;cases bs
  (·
    obtain rfl:=kl;refine zb ?_;exact FW.ret ⟨.inl rfl,zm rfl rfl rfl rfl⟩)
  refine zb ?_;refine zB (hi rfl) (by repeat (first|exact zi.nil|refine zi.cons zj ?_)) rfl ⟨_,_,rfl,rfl,rfl⟩ ?_;cases bi
  (·
    obtain rfl:=kl;refine zb ?_;exact FW.ret ⟨.inl rfl,zm rfl rfl rfl rfl⟩)
  refine zb ?_;refine XJ rfl (hp rfl rfl) (by repeat (first|exact zi.nil|refine zi.cons zj ?_)) rfl rfl ?_;cases bp
  (·
    obtain rfl:=kl;refine zb ?_;exact FW.ret ⟨.inl rfl,zm rfl rfl rfl rfl⟩)
  obtain rfl:=kl;refine zb ?_;exact FW.ret ⟨.inl rfl,zm rfl rfl rfl rfl⟩)
theorem ch.one (x:ch) {od:FV} (h:od.one=true):[FV.int .i64 x.k,.int .i64 x.nd,.int .i64 x.fk,.int .i64 x.fa,.int .i64 x.fb,.int .i64 x.fn,.list 5 x.kids,.list 8 x.ops,.list 1 x.tr,.list 4 x.fl,.int .i64 x.k,.int .i64 x.cl,.int .i64 x.ar,od,.list 3 x.ed].all FV.one=true:=by
 simp only [Xj,List.all_nil,h];rfl
def vP (od:FV) (n:Nat):Prop:=(od=.nil∧n=0)∨∃ es,od=.list 1 es∧es.length=n
theorem Ch (x:ch) (od:FV) (n:Nat) (fD:vP od n) (o g:Int):zX Tryz.prog 86 ([x.x od]++[vc (.int .i64 o),vc (.int .i64 g)]) .fr (.bool (decide ((n:Int)=o) && decide ((x.ed.length:Int)=g))):=by
 obtain ⟨m,hm⟩:∃ m,x.ed.length=m:=⟨_,rfl⟩
 rw [hm];unfold ch.x vc;rcases fD with ⟨rfl,rfl⟩|⟨es,rfl,rfl⟩
 all_goals (
  refine zt 21 Tryz.func86 Tryz.ntmps86 rfl ?_;change FW _ _ _ ⟨[(0,_),(1,_),(2,_)],[]⟩;refine zb ?_;refine yl (fun h=>?_) (fun h=>?_)
  (·
    rw [h];refine zb ?_;rw [hm];exact FW.ret ⟨.inl rfl,zm rfl rfl (congrArg FV.bool (by simp at h;simp [h])) rfl⟩)
  rw [h];refine zb ?_;exact FW.ret ⟨.inl rfl,zm rfl rfl (congrArg FV.bool (by simp at h;simp [h])) rfl⟩)
theorem ZP (lo hi i:Int):zX Tryz.prog 67 ([.int .i64 i]++[vc (.int .i64 lo),vc (.int .i64 hi)]) .fr (.bool (decide (i<lo) || decide (i > hi))):=by
 unfold vc;refine zt 13 Tryz.func67 Tryz.ntmps67 rfl ?_;change FW _ _ _ ⟨[(0,_),(1,_),(2,_)],[]⟩;refine zb ?_;refine yl (fun h=>?_) (fun h=>?_)
 ·rw [h];refine zb ?_;exact FW.ret ⟨.inl rfl,zm rfl rfl rfl rfl⟩
 ·rw [h];refine zb ?_;exact FW.ret ⟨.inl rfl,zm rfl rfl rfl rfl⟩
theorem YT (l:List Int) (hl:l≠[]) (hlen:l.length≤1000000):zX Tryz.prog 65 [.list 1 (l.map Zc)] (.ow 3 1) (.list 1 (l.map Zc)):=by
 refine zt 8 Tryz.func65 Tryz.ntmps65 rfl ?_;change FW _ _ _ ⟨[(0,.list 1 (l.map Zc))],[]⟩;refine zb ?_;refine zx.aq (Cv rfl rfl rfl (by simpa using hl)) rfl rfl ?_;refine zb ?_;refine FW.ret ⟨.inl rfl,vy rfl rfl rfl zd zc rfl (fun e he=>by obtain ⟨b,_,rfl⟩:=zL.1 he;rfl)⟩
theorem YU:zX Tryz.prog 65 [.nil] .fr .nil:=by
 refine zt 8 Tryz.func65 Tryz.ntmps65 rfl ?_;change FW _ _ _ ⟨[(0,.nil)],[]⟩;refine zb ?_;exact FW.ret ⟨.inl rfl,zm rfl rfl rfl rfl⟩
theorem DP (a b c:Int) (os es:List (List FV)) (h1:os.length≤1000000) (h2:es.length≤1000000):zX Tryz.prog 24 [.agg [.int .i64 a,.int .i64 b,.int .i64 c,.list 1 os,.list 3 es]] .fr (.int .i64 ((os.length:Int)+es.length)):=by
 refine zt 12 Tryz.func24 Tryz.ntmps24 rfl ?_;change FW _ _ _ ⟨[(0,_)],[]⟩;refine zb ?_;exact FW.ret ⟨.inl rfl,zm rfl rfl rfl rfl⟩
def po (x:ch):Int:=if x.k=8 then -1 else 0
def o8 (x:ch):Int:=if x.k=1 then (x.fl.length:Int) - 1 else if x.k=8 then (x.tr.length:Int) - 1 else (x.ops.length:Int) - 1
def ky (x:ch) (i:Int):Bool:=decide (i<po x) || decide (i > o8 x)
def mE (O:List Int):FV:=if O=[] then .nil else .list 1 (O.map Zc)
def dK (E:List (Int×Int×Int)):List Int:=E.flatMap fun e=>[e.1,e.2.1]
def mP (e:Int×Int×Int):List FV:=[.int .i64 e.1,.int .i64 e.2.1,.int .i64 e.2.2]
theorem UX {E:List (Int×Int×Int)} (hi:i<E.length):dK (E.take (i+1))=dK (E.take i)++[(nth E i).1,(nth E i).2.1]:=by
 unfold dK;rw [ZL hi,List.flatMap_append,yq hi];simp
theorem rX (E:List (Int×Int×Int)):(dK E).length=2 * E.length:=by
 unfold dK
 induction E with
 | nil => rfl
 | cons e E ih => rw [xO, zH, ih]; simp; omega
theorem AZ (x:ch) (O:List Int) (E:List (Int×Int×Int)) (hE:x.ed=E.map mP) (hO:O.length≤100000) (mT:E.length≤100000) (h1:x.fl.length≤1000000) (h2:x.tr.length≤1000000) (h3:x.ops.length≤1000000) (df:x.k=1):zX Tryz.prog 22 [x.x (mE O)] .fr (.bool (!((O++dK E).any (ky x)))):=by
 have jS:ky x=fun i=>decide (i<0) || decide (i > (x.fl.length:Int) - 1):=by
  funext i;unfold ky po o8;simp [df]
 rw [jS];have cA:=ZP (0) ((x.fl.length:Int) - 1);generalize cI:(x.fl.length:Int) - 1=mx at cA ⊢;obtain ⟨A,hA⟩:∃ A:Nat→List Int,A=fun i=>O++dK (E.take i):=⟨_,rfl⟩
 have ee:A 0=O:=by rw [hA];simp [dK]
 have gL:∀ i,i<E.length→A (i+1)=A i++[(nth E i).1,(nth E i).2.1]:=fun i hi=>by rw [hA];show O++dK (E.take (i+1))=_;rw [UX hi,← zE]
 have k7:O++dK E=A E.length:=by rw [hA];show _=O++dK (E.take E.length);rw [ZK]
 have k8:∀ i,i≤E.length→(A i).length=O.length+2 * i:=fun i hi=>by rw [hA];show (O++dK (E.take i)).length=_;rw [zH,rX,yf,yU hi]
 rw [k7];clear hA k7;have nK:=xA (A E.length) 67 [vc (.int .i64 0),vc (.int .i64 mx)] _ (by rw [k8 _ (zf _)];omega) (fun o _=>cA o);unfold ch.x mE;rw [hE];rw [df];by_cases jo:O=[]
 all_goals simp only [jo,if_true,if_false]
 all_goals (
  refine zt 56 Tryz.func22 Tryz.ntmps22 rfl ?_;change FW _ _ _ ⟨[(0,_)],[]⟩;refine xb ?_;refine ⟨by kernel_rfl,?_⟩;refine zb ?_
  first
  | refine WP (YT O jo za) (by repeat (first|exact zi.nil|refine zi.cons zj ?_)) (zU _) rfl rfl rfl ?_
  | refine zB YU (by repeat (first|exact zi.nil|refine zi.cons zj ?_)) rfl rfl ?_
  refine zb ?_;rw [cI];refine FW.loop (fun i:Nat=>⟨[(3,.ptr 103 0 0 0),(4,.ptr 104 0 0 0),(5,.own 100 0 0 (A i).length),(38,.list 3 (E.map mP)),(39,.int .i64 E.length),(40,.int .i64 i)],[(100,⟨0,.own,3,1,(A i).map Zc⟩),(103,⟨0,.own,3,1,[[.int .i64 0]]⟩),(104,⟨0,.own,3,1,[[.int .i64 mx]]⟩)]⟩) (fun i=>i≤E.length) (fun i=>E.length - i) 0 (zN _) ?_ ?_
  (·
    dsimp only;rw [ee]
    first
    | (rw [jo]; exact (aL.cv [⟨100, none, 0, ⟨0, .own, 3, 1, []⟩⟩, ⟨103, some 3, 1, ⟨0, .own, 3, 1, [[.int .i64 0]]⟩⟩, ⟨104, some 4, 1, ⟨0, .own, 3, 1, [[.int .i64 mx]]⟩⟩] zw zu))
    | exact (aL.cv [⟨100, some 34, 1, ⟨0, .own, 3, 1, O.map Zc⟩⟩, ⟨103, some 3, 1, ⟨0, .own, 3, 1, [[.int .i64 0]]⟩⟩, ⟨104, some 4, 1, ⟨0, .own, 3, 1, [[.int .i64 mx]]⟩⟩] zw zu))
  intro i hi;have sS:=k8 i hi;refine zb ?_;refine FW.cond rfl (fun h=>?_) (fun h=>?_)
  (·
    have aD:i<E.length:=by simpa using h
    clear h;have gL:=gL i aD;obtain ⟨e,he⟩:∃ e,nth E i=e:=⟨_,rfl⟩
    rw [he] at gL;obtain ⟨e1,e2,e3⟩:=e;refine zb ?_;rw [he];skip;refine zD (es:=[[.int .i64 e1],[.int .i64 e2]]) rfl rfl rfl (by refine yb.int rfl rfl ?_;refine yb.int rfl rfl ?_;exact yb.nil) rfl rfl rfl rfl rfl ?_;refine zb ?_;refine ⟨i+1,by omega,by omega,?_⟩;dsimp only;rw [gL,Yz];exact (aL.cv [⟨100,some 50,0+1,⟨0,.own,3,1,(A i).map Zc++[e1,e2].map Zc⟩⟩,⟨103,some 103,0,⟨0,.own,3,1,[[.int .i64 0]]⟩⟩,⟨104,some 104,0,⟨0,.own,3,1,[[.int .i64 mx]]⟩⟩] zw zu))
  obtain rfl:i=E.length:=by simp at h;omega
  refine Yc ?_;refine zx.le ?_ (aL.bE 3 rfl rfl);refine zx.le ?_ (aL.bE 4 rfl rfl);refine zb ?_;refine zB nK Xq rfl rfl ?_;refine zb ?_;exact FW.ret ⟨.inl rfl,zm rfl rfl rfl rfl⟩)
theorem A6 (x:ch) (O:List Int) (E:List (Int×Int×Int)) (hE:x.ed=E.map mP) (hO:O.length≤100000) (mT:E.length≤100000) (h1:x.fl.length≤1000000) (h2:x.tr.length≤1000000) (h3:x.ops.length≤1000000) (lg:x.k=8):zX Tryz.prog 22 [x.x (mE O)] .fr (.bool (!((O++dK E).any (ky x)))):=by
 have jS:ky x=fun i=>decide (i < -1) || decide (i > (x.tr.length:Int) - 1):=by
  funext i;unfold ky po o8;simp [lg]
 rw [jS];have cA:=ZP (-1) ((x.tr.length:Int) - 1);obtain ⟨lo,dp⟩:∃ lo:Int,(-1)=lo:=⟨_,rfl⟩
 rw [dp] at cA ⊢;generalize cI:(x.tr.length:Int) - 1=mx at cA ⊢;obtain ⟨A,hA⟩:∃ A:Nat→List Int,A=fun i=>O++dK (E.take i):=⟨_,rfl⟩
 have ee:A 0=O:=by rw [hA];simp [dK]
 have gL:∀ i,i<E.length→A (i+1)=A i++[(nth E i).1,(nth E i).2.1]:=fun i hi=>by rw [hA];show O++dK (E.take (i+1))=_;rw [UX hi,← zE]
 have k7:O++dK E=A E.length:=by rw [hA];show _=O++dK (E.take E.length);rw [ZK]
 have k8:∀ i,i≤E.length→(A i).length=O.length+2 * i:=fun i hi=>by rw [hA];show (O++dK (E.take i)).length=_;rw [zH,rX,yf,yU hi]
 rw [k7];clear hA k7;have nK:=xA (A E.length) 67 [vc (.int .i64 lo),vc (.int .i64 mx)] _ (by rw [k8 _ (zf _)];omega) (fun o _=>cA o);unfold ch.x mE;rw [hE];rw [lg];by_cases jo:O=[]
 all_goals simp only [jo,if_true,if_false]
 all_goals (
  refine zt 56 Tryz.func22 Tryz.ntmps22 rfl ?_;change FW _ _ _ ⟨[(0,_)],[]⟩;refine xb ?_;refine ⟨by kernel_rfl,?_⟩;refine zb ?_;refine xb ?_;refine ⟨by kernel_rfl,?_⟩;refine zb ?_
  first
  | refine WP (YT O jo za) (by repeat (first|exact zi.nil|refine zi.cons zj ?_)) (zU _) rfl rfl rfl ?_
  | refine zB YU (by repeat (first|exact zi.nil|refine zi.cons zj ?_)) rfl rfl ?_
  refine zb ?_;rw [cI];rw [dp];refine FW.loop (fun i:Nat=>⟨[(3,.ptr 103 0 0 0),(4,.ptr 104 0 0 0),(5,.own 100 0 0 (A i).length),(38,.list 3 (E.map mP)),(39,.int .i64 E.length),(40,.int .i64 i)],[(100,⟨0,.own,3,1,(A i).map Zc⟩),(103,⟨0,.own,3,1,[[.int .i64 lo]]⟩),(104,⟨0,.own,3,1,[[.int .i64 mx]]⟩)]⟩) (fun i=>i≤E.length) (fun i=>E.length - i) 0 (zN _) ?_ ?_
  (·
    dsimp only;rw [ee]
    first
    | (rw [jo]; exact (aL.cv [⟨100, none, 0, ⟨0, .own, 3, 1, []⟩⟩, ⟨103, some 3, 1, ⟨0, .own, 3, 1, [[.int .i64 lo]]⟩⟩, ⟨104, some 4, 1, ⟨0, .own, 3, 1, [[.int .i64 mx]]⟩⟩] zw zu))
    | exact (aL.cv [⟨100, some 34, 1, ⟨0, .own, 3, 1, O.map Zc⟩⟩, ⟨103, some 3, 1, ⟨0, .own, 3, 1, [[.int .i64 lo]]⟩⟩, ⟨104, some 4, 1, ⟨0, .own, 3, 1, [[.int .i64 mx]]⟩⟩] zw zu))
  intro i hi;have sS:=k8 i hi;refine zb ?_;refine FW.cond rfl (fun h=>?_) (fun h=>?_)
  (·
    have aD:i<E.length:=by simpa using h
    clear h;have gL:=gL i aD;obtain ⟨e,he⟩:∃ e,nth E i=e:=⟨_,rfl⟩
    rw [he] at gL;obtain ⟨e1,e2,e3⟩:=e;refine zb ?_;rw [he];skip;refine zD (es:=[[.int .i64 e1],[.int .i64 e2]]) rfl rfl rfl (by refine yb.int rfl rfl ?_;refine yb.int rfl rfl ?_;exact yb.nil) rfl rfl rfl rfl rfl ?_;refine zb ?_;refine ⟨i+1,by omega,by omega,?_⟩;dsimp only;rw [gL,Yz];exact (aL.cv [⟨100,some 50,0+1,⟨0,.own,3,1,(A i).map Zc++[e1,e2].map Zc⟩⟩,⟨103,some 103,0,⟨0,.own,3,1,[[.int .i64 lo]]⟩⟩,⟨104,some 104,0,⟨0,.own,3,1,[[.int .i64 mx]]⟩⟩] zw zu))
  obtain rfl:i=E.length:=by simp at h;omega
  refine Yc ?_;refine zx.le ?_ (aL.bE 3 rfl rfl);refine zx.le ?_ (aL.bE 4 rfl rfl);refine zb ?_;refine zB nK Xq rfl rfl ?_;refine zb ?_;exact FW.ret ⟨.inl rfl,zm rfl rfl rfl rfl⟩)
theorem A7 (x:ch) (O:List Int) (E:List (Int×Int×Int)) (hE:x.ed=E.map mP) (hO:O.length≤100000) (mT:E.length≤100000) (h1:x.fl.length≤1000000) (h2:x.tr.length≤1000000) (h3:x.ops.length≤1000000) (df:x.k≠1) (lg:x.k≠8):zX Tryz.prog 22 [x.x (mE O)] .fr (.bool (!((O++dK E).any (ky x)))):=by
 have jS:ky x=fun i=>decide (i<0) || decide (i > (x.ops.length:Int) - 1):=by
  funext i;unfold ky po o8;simp [df,lg]
 rw [jS];have cA:=ZP (0) ((x.ops.length:Int) - 1);generalize cI:(x.ops.length:Int) - 1=mx at cA ⊢;obtain ⟨A,hA⟩:∃ A:Nat→List Int,A=fun i=>O++dK (E.take i):=⟨_,rfl⟩
 have ee:A 0=O:=by rw [hA];simp [dK]
 have gL:∀ i,i<E.length→A (i+1)=A i++[(nth E i).1,(nth E i).2.1]:=fun i hi=>by rw [hA];show O++dK (E.take (i+1))=_;rw [UX hi,← zE]
 have k7:O++dK E=A E.length:=by rw [hA];show _=O++dK (E.take E.length);rw [ZK]
 have k8:∀ i,i≤E.length→(A i).length=O.length+2 * i:=fun i hi=>by rw [hA];show (O++dK (E.take i)).length=_;rw [zH,rX,yf,yU hi]
 rw [k7];clear hA k7;have nK:=xA (A E.length) 67 [vc (.int .i64 0),vc (.int .i64 mx)] _ (by rw [k8 _ (zf _)];omega) (fun o _=>cA o);unfold ch.x mE;rw [hE];by_cases jo:O=[]
 all_goals simp only [jo,if_true,if_false]
 all_goals (
  refine zt 56 Tryz.func22 Tryz.ntmps22 rfl ?_;change FW _ _ _ ⟨[(0,_)],[]⟩;refine xb ?_;refine ⟨by kernel_rfl,?_⟩;refine zb ?_;refine FW.hJ (by show FV.bool (decide (x.k=1))=_;rw [decide_eq_false df]) ?_;refine zb ?_;refine FW.hJ (by show FV.bool (decide (x.k=8))=_;rw [decide_eq_false lg]) ?_;refine zb ?_
  first
  | refine WP (YT O jo za) (by repeat (first|exact zi.nil|refine zi.cons zj ?_)) (zU _) rfl rfl rfl ?_
  | refine zB YU (by repeat (first|exact zi.nil|refine zi.cons zj ?_)) rfl rfl ?_
  refine zb ?_;rw [cI];refine FW.loop (fun i:Nat=>⟨[(3,.ptr 103 0 0 0),(4,.ptr 104 0 0 0),(5,.own 100 0 0 (A i).length),(38,.list 3 (E.map mP)),(39,.int .i64 E.length),(40,.int .i64 i)],[(100,⟨0,.own,3,1,(A i).map Zc⟩),(103,⟨0,.own,3,1,[[.int .i64 0]]⟩),(104,⟨0,.own,3,1,[[.int .i64 mx]]⟩)]⟩) (fun i=>i≤E.length) (fun i=>E.length - i) 0 (zN _) ?_ ?_
  (·
    dsimp only;rw [ee]
    first
    | (rw [jo]; exact (aL.cv [⟨100, none, 0, ⟨0, .own, 3, 1, []⟩⟩, ⟨103, some 3, 1, ⟨0, .own, 3, 1, [[.int .i64 0]]⟩⟩, ⟨104, some 4, 1, ⟨0, .own, 3, 1, [[.int .i64 mx]]⟩⟩] zw zu))
    | exact (aL.cv [⟨100, some 34, 1, ⟨0, .own, 3, 1, O.map Zc⟩⟩, ⟨103, some 3, 1, ⟨0, .own, 3, 1, [[.int .i64 0]]⟩⟩, ⟨104, some 4, 1, ⟨0, .own, 3, 1, [[.int .i64 mx]]⟩⟩] zw zu))
  intro i hi;have sS:=k8 i hi;refine zb ?_;refine FW.cond rfl (fun h=>?_) (fun h=>?_)
  (·
    have aD:i<E.length:=by simpa using h
    clear h;have gL:=gL i aD;obtain ⟨e,he⟩:∃ e,nth E i=e:=⟨_,rfl⟩
    rw [he] at gL;obtain ⟨e1,e2,e3⟩:=e;refine zb ?_;rw [he];skip;refine zD (es:=[[.int .i64 e1],[.int .i64 e2]]) rfl rfl rfl (by refine yb.int rfl rfl ?_;refine yb.int rfl rfl ?_;exact yb.nil) rfl rfl rfl rfl rfl ?_;refine zb ?_;refine ⟨i+1,by omega,by omega,?_⟩;dsimp only;rw [gL,Yz];exact (aL.cv [⟨100,some 50,0+1,⟨0,.own,3,1,(A i).map Zc++[e1,e2].map Zc⟩⟩,⟨103,some 103,0,⟨0,.own,3,1,[[.int .i64 0]]⟩⟩,⟨104,some 104,0,⟨0,.own,3,1,[[.int .i64 mx]]⟩⟩] zw zu))
  obtain rfl:i=E.length:=by simp at h;omega
  refine Yc ?_;refine zx.le ?_ (aL.bE 3 rfl rfl);refine zx.le ?_ (aL.bE 4 rfl rfl);refine zb ?_;refine zB nK Xq rfl rfl ?_;refine zb ?_;exact FW.ret ⟨.inl rfl,zm rfl rfl rfl rfl⟩)
theorem Wd (x:ch) (O:List Int) (E:List (Int×Int×Int)) (hE:x.ed=E.map mP) (hO:O.length≤100000) (mT:E.length≤100000) (h1:x.fl.length≤1000000) (h2:x.tr.length≤1000000) (h3:x.ops.length≤1000000):zX Tryz.prog 22 [x.x (mE O)] .fr (.bool (!((O++dK E).any (ky x)))):=by
 by_cases df:x.k=1
 ·exact AZ x O E hE hO mT h1 h2 h3 df
 ·by_cases lg:x.k=8
  ·exact A6 x O E hE hO mT h1 h2 h3 lg
  ·exact A7 x O E hE hO mT h1 h2 h3 df lg
def nA (l:List aj) (i k:Nat):Bool:=(nth l i).done && decide ((nth l i).ret<(nth l k).call)
theorem AL (l:List aj) (i k:Nat) (hi:i<l.length) (hk:k<l.length):zX Tryz.prog 140 [.list 8 (l.map aj.fv),.int .i64 i,.int .i64 k] .fr (.bool (nA l i k)):=by
 refine zt 37 Tryz.func140 Tryz.ntmps140 rfl ?_;change FW _ _ _ ⟨[(0,.list 8 (l.map aj.fv)),(1,.int .i64 i),(2,.int .i64 k)],[]⟩;refine zb ?_;refine yl (fun h=>?_) (fun h=>?_)
 ·exfalso;simp at h;omega
 ·refine zb ?_;refine FW.cond rfl (fun h=>?_) (fun h=>?_)
  ·exfalso;simp at h;omega
  refine xb ?_;refine pB (fun h=>?_) (fun h=>?_)
  ·refine zq ?_;refine ⟨by kernel_rfl,?_⟩;skip;refine FW.ret ⟨.inl rfl,zm rfl rfl ?_ rfl⟩;simp [nA,h];rfl
  ·refine zq ?_;refine ⟨by kernel_rfl,?_⟩;skip;refine FW.ret ⟨.inl rfl,zm rfl rfl ?_ rfl⟩;simp [nA,h];rfl
def kv (l:List aj) (i k:Int):Bool:=if 0≤i∧0≤k∧i<l.length∧k<l.length then nA l i.toNat k.toNat else false
theorem Dh {i k:Int} (h:¬ (0≤i∧0≤k∧i<l.length∧k<l.length)):kv l i k=false:=by unfold kv;rw [if_neg h]
theorem Eg {k:Nat} (hi:i<l.length) (hk:k<l.length):kv l i k=nA l i k:=by
 unfold kv;rw [if_pos za];rfl
theorem AY (l:List aj) (i k:Int) (hl:l.length≤1000000000):zX Tryz.prog 140 [.list 8 (l.map aj.fv),.int .i64 i,.int .i64 k] .fr (.bool (kv l i k)):=by
 by_cases cA:0≤i∧0≤k∧i<l.length∧k<l.length
 ·obtain ⟨a,ha⟩:∃ a:Nat,i=a:=⟨i.toNat,by omega⟩
  obtain ⟨b,hb⟩:∃ b:Nat,k=b:=⟨k.toNat,by omega⟩
  subst ha;subst hb;rw [Eg za za];exact AL l a b za za
 ·rw [Dh cA];refine zt 37 Tryz.func140 Tryz.ntmps140 rfl ?_;change FW _ _ _ ⟨[(0,.list 8 (l.map aj.fv)),(1,.int .i64 i),(2,.int .i64 k)],[]⟩;refine zb ?_;refine yl (fun h=>?_) (fun h=>?_)
  ·refine zb ?_;exact FW.ret ⟨.inl rfl,zm rfl rfl rfl rfl⟩
  ·refine zb ?_;refine FW.cond rfl (fun h2=>?_) (fun h2=>?_)
   ·refine zb ?_;exact FW.ret ⟨.inl rfl,zm rfl rfl rfl rfl⟩
   ·exfalso;simp at h h2;exact cA za
def ja (l:List Int) (n:Int):Bool:=decide (n∈l)
theorem Dy (l:List Int) (n:Int) (hl:l.length≤1000000000):zX Tryz.prog 33 [.list 1 (l.map Zc),.int .i64 n] .fr (.bool (ja l n)):=by
 refine zt 18 Tryz.func33 Tryz.ntmps33 rfl ?_;change FW _ _ _ ⟨[(0,.list 1 (l.map Zc)),(1,.int .i64 n)],[]⟩;refine zb ?_;refine FW.loop (fun k:Nat=>⟨[(0,.list 1 (l.map Zc)),(1,.int .i64 n),(5,.int .i64 k)],[]⟩) (fun k=>k≤l.length∧n∉l.take k) (fun k=>l.length - k) 0 zd (aL.cv [] yQ zu) ?_;rintro k ⟨hk,hn⟩;refine zb ?_;refine FW.cond rfl (fun h=>?_) (fun h=>?_)
 ·have aD:k<l.length:=by simpa using h
  refine zb ?_;refine FW.cond rfl (fun h=>?_) (fun h=>?_)
  ·refine zb ?_;refine FW.ret ⟨.inl rfl,?_⟩;have e:ja l n=true:=by
    have:nth l k=n:=by simpa using h
    simp only [ja,decide_eq_true_eq,← this];exact yj aD
   rw [e];exact .flat (.cons (.tmp 4 rfl rfl) .nil) rfl rfl
  ·refine zb ?_;refine ⟨k+1,⟨by omega,?_⟩,by omega,(aL.cv [] yQ zu)⟩;have:nth l k≠n:=by simpa using h
   rw [ZL aD,zO];rintro (h1|h1)
   ·exact hn h1
   ·rw [yq aD] at this;simp at h1;exact this h1.symm
 ·refine zb ?_;refine FW.ret ⟨.inl rfl,?_⟩;have e:ja l n=false:=by
   have:k=l.length:=by simp at h;omega
   subst this;simpa [ja] using hn
  rw [e];exact .flat (.cons (.tmp 4 rfl rfl) .nil) rfl rfl
end
end Go.Proofs.YtedkppfghdipdaaGreatDoor
