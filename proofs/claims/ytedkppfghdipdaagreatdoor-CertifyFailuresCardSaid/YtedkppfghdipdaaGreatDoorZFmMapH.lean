/-
  Lemmas, in parts.
-/
import Derived.Test.YtedkppfghdipdaaGreatDoorZFmKx
import Derived.Test.YtedkppfghdipdaaGreatDoorZB
import Derived.Test.YtedkppfghdipdaaGreatDoorZFmM
import Derived.Test.YtedkppfghdipdaaGreatDoorZC
import Derived.DeepKeys4
import Derived.Maps.Keyed
namespace Go.Proofs.YtedkppfghdipdaaGreatDoor
set_option linter.unusedVariables false
set_option maxHeartbeats 16000000
variable {o:Oper} {T d ft i off ty:Nat} {l:List aG} {R:List (Int×Int×FV)} {a b:Int} {pos:String} {af:Array Edge} {f kf vf:FV} {t:List (Nat×FV)} {ob:List (Nat×yb)} {es aS : List (List FV)} {fs:List (Nat×Nat)} {cs:List FV} {p:Int→Bool}
section
open Go.RowKit Go.ChangeMaps Go.MapKept
open Go.Maps (Keyed)
section
variable {c:Ctx} {w0 w:World} {J:JJ} {s:ab} {a:Act} {β:Nat→Option Nat} {dst:Option Nat} {ty:TypeId} {pos:String} {after:Array Edge} {g:Option (Nat×Bool)}
end
section
variable {c:Ctx} {ops:Array Oper} {rest:List Oper} {t:List (Nat×FV)} {ob:List (Nat×yb)} {d:Nat} {ty:TypeId} {pos:String} {af:Array Edge} {gd:Option (Nat×Bool)} {tr:List Rec} {QD:ab→List Rec→Prop} {QS:ab→Prop}
end
end
section
open Go.RowKit
section
variable {c:Ctx} {ops:Array Oper} {rest:List Oper} {t:List (Nat×FV)} {ob:List (Nat×yb)} {ty:TypeId} {pos:String} {af:Array Edge} {gd:Option (Nat×Bool)} {QS:ab→Prop}
end
def ab.mp (s:ab) (d aa T:Nat) (es:List (List FV)):ab:=⟨(d,.omap d aa)::s.t,(d,⟨aa,.aX,T,0,es⟩)::s.o⟩
theorem Zb (s:ab) (d aa T:Nat) (es:List (List FV)) (k:Nat):(s.mp d aa T es).get k=if d=k then .omap d aa else s.get k:=zA _ _ _ _ _
theorem Wm (s:ab) (d aa T:Nat) (es:List (List FV)) (k:Nat):(s.mp d aa T es).ob k=if d=k then ⟨aa,.aX,T,0,es⟩ else s.ob k:=zA _ _ _ _ _
def kg:Op→Bool
 | .insert .. => true
 | _ => false
def kN:Op→Bool
 | .makeMap .. => true
 | _ => false
def WS (dm:Nat):Op→Bool
 | .move (.tmp t) => t == dm
 | _ => false
def WT (r:Rec):List (List FV):=bif kg r.o.op then (match r.f with|.agg row=>[row]|_=>[]) else []
def xI (tr:List Rec) (S:Nat→Bool):Nat→List (List FV)
 | 0 => []
 | k+1 => xI tr S k ++ (if S k then WT (tr.getD k default) else [])
theorem YM {tr:List Rec} {S:Nat→Bool} {i:Nat} (hS:S i=false):∀ n,i<n→(xI tr (fun k=>k == i || S k) n).Perm (xI tr S n++WT (tr.getD i default))
 | 0, h => by omega
 | n + 1,h=>by
  unfold xI;by_cases ck:i=n
  ·subst ck;have key:∀ m,m≤i→xI tr (fun k=>k == i || S k) m=xI tr S m:=by
    intro m
    induction m with
    | zero => intro _; rfl
    | succ m ih =>
     intro hm;unfold xI;have:(m == i)=false:=by simp;omega
     rw [ih zc,this];rfl
   rw [key i (zm _),hS];simp
  ·have ih:=YM (tr:=tr) hS n zc;have:(n == i)=false:=by simp;omega
   rw [this,yU];refine (ih.append_right _).trans ?_;rw [zD,zD];exact List.Perm.append_left _ List.perm_append_comm
theorem UN {tr:List Rec} {S S' : Nat→Bool} (h:∀ k,S k=true→S' k=true):∀ n,(xI tr S n).Sublist (xI tr S' n)
 | 0 => List.Sublist.refl _
 | n+1 => by
  unfold xI;refine (UN h n).append ?_;by_cases hS:S n=true
  ·rw [if_pos hS,if_pos (h n hS)];exact List.Sublist.refl _
  ·rw [if_neg hS];exact List.nil_sublist _
theorem WZ {tr:List Rec} {S:Nat→Bool}:∀ n,(∀ k,k<n→S k=false)→xI tr S n=[]
 | 0, _ => rfl
 | n+1, h => by
  unfold xI;rw [WZ n (fun k hk=>h k zc),h n zc];rfl
theorem UM {tr:List Rec} {S S' : Nat→Bool}:∀ n,(∀ k,k<n→S k=S' k)→xI tr S n=xI tr S' n
 | 0, _ => rfl
 | n+1, h => by
  unfold xI;rw [UM n (fun k hk=>h k zc),h n zc]
theorem oq {y:Nat→Option Bool} (hg:o.guard=none):Region.wanted o y=true:=by simp only [Region.wanted,hg]
def qq (c:Ctx) (ops:Array Oper) (dm T k aa:Nat) (s:ab) (r:Rec):Prop:=
 (kg r.o.op=false∧kN r.o.op=false∧WS dm r.o.op=false∧WF c ops s r)∨
 (∃ d ty pos af,r=⟨⟨some d,.move (.tmp dm),ty,pos,af,none⟩,.omap dm aa,[],[]⟩∧d≠dm∧d<c.N)∨
 (∃ ty pos af,r=⟨⟨some dm,.makeMap T none,ty,pos,af,none⟩,.undef,[],[dm]⟩)∨
 (∃ y z kf vf ty pos af,r=⟨⟨none,.insert T (.tmp dm) y z,ty,pos,af,none⟩,.agg [kf,vf],[],[]⟩∧ZV c.P k kf∧y≠.tmp dm∧z≠.tmp dm∧s.ev y=kf∧s.ev z=vf∧vf.hand=none)
inductive Vf (c:Ctx) (ops:Array Oper) (dm T k aa:Nat):ab→List Oper→List Rec→ab→Prop where
 | nil (s:ab):Vf c ops dm T k aa s [] [] s
 | one {o:Oper} {rest:List Oper} {s s1 s2:ab} {mn ie:List Rec} (hi:kg o.op=false) (hm:kN o.op=false) (hh:WS dm o.op=false) (h:gl c ops s [o] mn s1) (hs:Vf c ops dm T k aa s1 rest ie s2):Vf c ops dm T k aa s (o :: rest) (mn ++ ie) s2
 | spec {r:Rec} {rest:List Oper} {s s2:ab} {ie:List Rec} (hr:qq c ops dm T k aa s r) (hs:Vf c ops dm T k aa (s.gB r) rest ie s2):Vf c ops dm T k aa s (r.o :: rest) (r :: ie) s2
theorem gl.single {c:Ctx} {ops:Array Oper} {s s' : ab} {tr:List Rec} (h:gl c ops s [o] tr s'):∃ r,tr=[r]∧s'=s.gB r∧r.o=o∧WF c ops s r:=by
 obtain ⟨h1,h2,h3⟩:=h.at;rcases tr with _|⟨r,tr⟩
 ·cases h1
 ·rcases tr with _|⟨r2,tr⟩
  ·obtain ⟨k1,k2⟩:=h3 0 Nat.one_pos;exact ⟨r,rfl,h2,k1,k2⟩
  ·cases h1
theorem Vf.at {c:Ctx} {ops:Array Oper} {dm k aa:Nat} {s:ab} {l:List Oper} {tr:List Rec} {s' : ab} (h:Vf c ops dm T k aa s l tr s'):tr.length=l.length∧s'=sig tr s (fun _=>true) tr.length∧
  ∀ j,j<l.length→(tr.getD j default).o=l.getD j default∧qq c ops dm T k aa (sig tr s (fun _=>true) j) (tr.getD j default):=by
 induction h with
 | nil s => exact ⟨rfl, rfl, fun k hk => by simp at hk⟩
 | @one o rest s s1 s2 mn ie hi hm hh h hs ih=>
  obtain ⟨r,rfl,rfl,ho,hr⟩:=h.single;obtain ⟨h1,h2,h3⟩:=ih;refine ⟨by simp [h1],?_,fun j hj=>?_⟩
  ·rw [List.singleton_append,yX,xt];exact h2
  ·rw [List.singleton_append];cases j with
   | zero => exact ⟨ho, .inl ⟨by rw [Yy, ho]; exact hi, by rw [Yy, ho]; exact hm, by rw [Yy, ho]; exact hh, hr⟩⟩
   | succ j =>
    rw [xt];exact h3 j (by simpa using hj)
 | @spec r rest s s2 ie hr hs ih=>
  obtain ⟨h1,h2,h3⟩:=ih;refine ⟨by simp [h1],?_,fun j hj=>?_⟩
  ·rw [yX,xt];exact h2
  ·cases j with
   | zero => exact ⟨rfl, hr⟩
   | succ j =>
    rw [xt];exact h3 j (by simpa using hj)
def oa (ops:Array Oper) (dm:Nat) (r:Rec):Bool:=r.o.dst != some dm && !(r.o.looksAt ops).contains dm && !r.ft.contains dm && !(r.wr.map (·.1)).contains dm
def nO (ops:Array Oper) (dm mk:Nat) (tr:List Rec):Bool:=
 kN (tr.getD mk default).o.op && (List.range tr.length).all fun i=>bif kg (tr.getD i default).o.op || WS dm (tr.getD i default).o.op then (tr.getD i default).o.after.toList.any (fun e=>Region.binds .any e && e.on == mk) else bif kN (tr.getD i default).o.op then i == mk else oa ops dm (tr.getD i default)
section
variable {c:Ctx} {w0:World} {J:JJ} {ops:Array Oper} {Q:Exit→Act→World→Prop}
theorem tN {s0 s' : ab} {tr:List Rec} {dm k e mk aa:Nat} {R:List (List FV)} (hT:(c.ty T).k=.map k e) (K:Maps.Keyed c.P k) (gM:dm<c.N) (hx:Vf c ops dm T k aa s0 ops.toList tr s') (df:ZD ops tr=true) (jW:nO ops dm mk tr=true)
  (aA:(s0.ob dm).aa+1=aa) (hR:xI tr (fun _=>true) tr.length=R) (cR:∀ row∈R,∀ kf,row.head? = some kf→ZV c.P k kf) (hd:R.Pairwise fun a b=>a.head?≠b.head?) (qY:mk<tr.length)
  (hQ:∀ es a w β,es.Perm R→FR c.N w0 J (s'.mp dm aa T es) a w β→Q .normal a w) {a:Act} {w:World} {β:Nat→Option Nat} (hF:FR c.N w0 J s0 a w β) :
  wpAny c.P .any ops Q ops.size (Array.replicate ops.size false) a { w with drawn:=w.drawn+1 }:=by
 obtain ⟨gT,jn,eV⟩:=hx.at;have hlen:tr.length=ops.size:=by rw [gT];simp
 rw [Vp] at eV;unfold nO at jW;rw [zC,zG] at jW;obtain ⟨gW,bA⟩:=jW;have cK:∀ S,(xI tr S ops.size).Sublist R:=fun S=>by rw [← hR,hlen];exact UN (fun _ _=>rfl) _
 have g7:∀ k,(Array.replicate ops.size false).getD k false=false:=fun k=>by
  rw [Yh];cases h:(Array.replicate ops.size false)[k]? with
  | none => rfl
  | some b => rw [nZ] at h; split at h <;> simp_all
 have hD:FR c.N w0 J s0 a { w with drawn:=w.drawn+1 } β:=hF.grow ⟨rfl,rfl,rfl,zm _,fun _ _=>rfl⟩;refine sj (c:=c) (Q:=Q) (s0:=s0) (tr:=tr) (fun S s a w=>if S mk=true then ∃ es β,es.Perm (xI tr S ops.size)∧FR c.N w0 J (s.mp dm aa T es) a w β else (∃ β,FR c.N w0 J s a w β)∧(s.ob dm).aa+1=aa∧xI tr S ops.size=[])
  hlen (fun j hj=>(eV j hj).1) df ?_ ?_ ?_ ops.size _ a _ zd (fun i hi hS=>by rw [g7] at hS;cases hS) ?_ ?_
 ·-- states that read alike
  intro S s s2 a w hg ho hh;by_cases hS:S mk=true
  ·rw [if_pos hS] at hh ⊢;obtain ⟨es,β,h1,h2⟩:=hh;exact ⟨es,β,h1,h2.ext (fun t=>by rw [Zb,Zb,hg]) (fun t=>by rw [Wm,Wm,ho])⟩
  ·rw [if_neg hS] at hh ⊢;obtain ⟨⟨β,h1⟩,h2,h3⟩:=hh;exact ⟨⟨β,h1.ext hg ho⟩,by rw [ho];exact h2,h3⟩
 ·-- a step
  intro S s a w i o jR kr gI cG fW hh K' hK;have hi:i<ops.size:=(yQ.1 jR).1;have jV:ops.toList.getD i default=o:=by simp [yE,jR]
  obtain ⟨eW,rr⟩:=eV i hi;rw [jV] at eW;have hb:=bA i (by rw [hlen];simpa using hi);have fG:∀ {X:List (List FV)},X.Perm (xI tr S ops.size++WT (tr.getD i default))→X.Perm (xI tr (fun k=>k == i || S k) ops.size):=fun h=>h.trans (YM (tr:=tr) kr ops.size hi).symm;generalize iw:tr.getD i default=r at *;rcases rr with ⟨ck,o7,qP,pa⟩|⟨d,ty,pos,af,rfl,hdd,aZ⟩|⟨ty,pos,af,rfl⟩|⟨y,z,kf,vf,ty,pos,af,rfl,bZ,q9,rb,hy,hz,rH⟩
  ·-- a plain one
   rw [ck,o7,qP] at hb;have hb:oa ops dm r=true:=hb;unfold oa at hb;simp only [zC,bne_iff_ne,ne_eq,Vi,Vk,decide_eq_false_iff_not] at hb;obtain ⟨⟨⟨l5,gK⟩,mO⟩,l6⟩:=hb;have aw:WT r=[]:=by unfold WT;rw [ck];rfl
   have o6:yR r.wr dm=none:=by
    cases hl:yR r.wr dm with
    | none => rfl
    | some b => exact absurd (xi (l := r.wr) (id := dm) (by rw [hl]; rfl)) l6
   have bM:i≠mk:=fun e=>by subst e;rw [iw] at gW;rw [o7] at gW;cases gW
   have jk:(mk == i)=false:=by simpa using fun e=>bM e.symm
   by_cases hS:S mk=true
   ·rw [if_pos hS] at hh;obtain ⟨es,β,h1,h2⟩:=hh;have jY : WF c ops (s.mp dm aa T es) r:=pa.loc (fun t ht=>by rw [Zb,if_neg (fun e:dm=t=>gK (by rw [e];exact ht))];exact cG t (by rw [← eW];exact ht)) (fun id hid=>by rw [Wm,if_neg (fun e:dm=id=>mO (by rw [e];exact hid))];exact fW id hid);refine jY.wpOp h2 (by rw [eW];exact jR) (fun a' w' aP fP=>hK a' w' ?_);rw [if_pos (by show (mk == i || S mk)=true;rw [jk,hS];rfl)];refine ⟨es,aP,fG (by rw [aw,Zh];exact h1),fP.ext (fun t=>?_) (fun id=>?_)⟩
    ·rw [Zb,ZH,ZH,Zb];by_cases e:dm=t
     ·subst e;have:VQ r dm=none:=by unfold VQ;rw [if_neg l5]
      rw [this];simp
     ·rw [if_neg e,if_neg e]
    ·rw [Wm,YJ,YJ,Wm];by_cases e:dm=id
     ·subst e;rw [o6];simp
     ·rw [if_neg e,if_neg e]
   ·rw [if_neg hS] at hh;obtain ⟨⟨β,h1⟩,h2,h3⟩:=hh;have jY : WF c ops s r:=pa.loc (fun t ht=>cG t (by rw [← eW];exact ht)) fW;refine jY.wpOp h1 (by rw [eW];exact jR) (fun a' w' aP fP=>hK a' w' ?_);rw [if_neg (by show ¬ (mk == i || S mk)=true;rw [jk];simpa using hS)];refine ⟨⟨aP,fP⟩,by rw [YJ,o6];exact h2,?_⟩;have:=YM (tr:=tr) kr ops.size hi;rw [iw,aw,h3] at this;exact this.eq_nil
  ·-- its name is copied
   have hb:(af.toList.any fun e=>Region.binds .any e && e.on == mk)=true:=by simpa [kg,WS] using hb
   rw [Yx] at hb;obtain ⟨ed,mX,fF⟩:=hb;rw [zC,beq_iff_eq] at fF;have hS:S mk=true:=fF.2▸gI ed (by rw [← eW];exact mX) fF.1;rw [if_pos hS] at hh;obtain ⟨es,β,h1,h2⟩:=hh;have bM:i≠mk:=fun e=>by subst e;rw [kr] at hS;cases hS
   have jP:(s.mp dm aa T es).ev (.tmp dm)=.omap dm aa:=by show (s.mp dm aa T es).get dm=_;rw [Zb,if_pos rfl]
   have hE:=av.move (c:=c) (s:=s.mp dm aa T es) (d:=d) (.tmp dm);rw [jP] at hE;unfold wpOp;rw [jR];simp only;rw [← eW,if_pos (oq rfl)];refine .inl (hE.sound h2 ⟨some d,.move (.tmp dm),ty,pos,af,none⟩ rfl (.inl rfl) (fun d' h=>by injection h with h;subst h;exact aZ) (fun a' w' aP fP=>hK a' w' ?_));have jk:(mk == i)=false:=by simpa using fun e=>bM e.symm
   rw [if_pos (by show (mk == i || S mk)=true;rw [jk,hS];rfl)];refine ⟨es,aP,fG (by show es.Perm (_++[]);rw [Zh];exact h1),fP.ext (fun t=>?_) (fun id=>?_)⟩
   ·rw [Zb,ZH];show _=((s.mp dm aa T es).put d _).get t;rw [ab.du,Zb];unfold VQ;by_cases e:dm=t
    ·rw [if_pos e,if_pos e,if_neg (fun q=>hdd (q.trans e.symm))]
    ·rw [if_neg e,if_neg e];by_cases e2:d=t
     ·rw [if_pos e2,if_pos (by rw [e2])];rfl
     ·rw [if_neg e2,if_neg (fun q=>e2 (by injection q))];rfl
   ·rw [Wm,YJ];show _=(s.mp dm aa T es).ob id;rw [Wm];rfl
  ·-- the map is made
   have jk:i=mk:=by simpa [kg,kN,WS] using hb
   subst jk;rw [if_neg (by rw [kr];decide)] at hh;obtain ⟨⟨β,h1⟩,h2,h3⟩:=hh;unfold wpOp;rw [jR];simp only;rw [← eW,if_pos (oq rfl)];refine .inl ((Xa (ty:=ty) (pos:=pos) (after:=af) (g:=none) h1 dm T).wp (fun d hd=>by injection hd with hd;subst hd;exact gM) (fun a' w' aP fP=>hK a' w' ?_));rw [if_pos zd];refine ⟨[],aP,fG (by rw [h3];exact List.Perm.refl _),fP.ext (fun t=>?_) (fun id=>?_)⟩
   ·rw [Zb,ZH];show _=((s.wr _).put dm _).get t;rw [ab.du,ab.cg];by_cases e:dm=t
    ·rw [if_pos e,if_pos e,h2]
    ·rw [if_neg e,if_neg e];have:VQ ⟨⟨some dm,.makeMap T none,ty,pos,af,none⟩,.undef,[],[dm]⟩ t=none:=by unfold VQ;rw [if_neg (fun q=>e (by injection q))]
     rw [this];rfl
   ·rw [Wm,YJ];show _=(ab.wr s _).ob id;rw [lR];unfold yR;by_cases e:dm=id
    ·rw [if_pos e,if_pos e,← h2];rfl
    ·rw [if_neg e,if_neg e];rfl
  ·-- an entry
   have hb:(af.toList.any fun e=>Region.binds .any e && e.on == mk)=true:=hb;rw [Yx] at hb;obtain ⟨ed,mX,fF⟩:=hb;rw [zC,beq_iff_eq] at fF;have hS:S mk=true:=fF.2▸gI ed (by rw [← eW];exact mX) fF.1;rw [if_pos hS] at hh;obtain ⟨es,β,h1,h2⟩:=hh;have bM:i≠mk:=fun e=>by subst e;rw [kr] at hS;cases hS
   have jP:∀ x,x≠.tmp dm→x∈[y,z]→(s.mp dm aa T es).ev x=(sig tr s0 (fun _=>true) i).ev x:=fun x hx hm=>by
    cases x with
    | tmp t =>
     show (s.mp dm aa T es).get t=(sig tr s0 (fun _=>true) i).get t;rw [Zb,if_neg (fun e=>hx (by rw [e]))];refine cG t ?_;rw [← eW];refine List.mem_append_left _ (Zi.2 ⟨.tmp t,?_,rfl⟩);show _∈[Operand.tmp dm,y,z];exact Xu _ hm
    | const v => rfl
    | global g => rfl
    | func f => rfl
   have bE:(s.mp dm aa T es).ob dm=⟨aa,.aX,T,0,es⟩:=by rw [Wm,if_pos rfl]
   have aw:WT ⟨⟨none,.insert T (.tmp dm) y z,ty,pos,af,none⟩,.agg [kf,vf],[],[]⟩=[[kf,vf]]:=rfl;have cT:∀ row∈es,row∈R:=fun row hm=>(cK S).subset (h1.mem_iff.1 hm);have fo:lV es kf vf (es++[[kf,vf]]):=by
    refine .inr ⟨fun row hm e=>?_,rfl⟩;have p1:=hd.sublist (cK (fun k=>k == i || S k));have p2:=(YM (tr:=tr) kr ops.size hi).pairwise p1 (fun h e=>h e.symm);rw [iw,aw,List.pairwise_append] at p2;exact p2.2.2 row (h1.mem_iff.1 hm) [kf,vf] zd (by rw [e];rfl)
   obtain ⟨W,g1,g2⟩:=Wf (dst:=none) (ty:=ty) (pos:=pos) (after:=af) (g:=none) h2 hT K (.tmp dm) y z (id:=dm) (aa:=aa) (kf:=kf) (vf:=vf) (aS:=es++[[kf,vf]]) (by show (s.mp dm aa T es).get dm=_;rw [Zb,if_pos rfl]) (by rw [bE]) (by rw [bE])
    (by rw [jP y q9 zd,hy]) (by rw [jP z rb zd,hz]) (by rw [bE];exact fun row hm=>cR row (cT row hm)) bZ rH (by rw [bE];exact fo)
   unfold wpOp;rw [jR];simp only;rw [← eW,if_pos (oq rfl)];refine .inl ?_;unfold Oper.wp;rw [show (execOp a.eval ⟨none,.insert T (.tmp dm) y z,ty,pos,af,none⟩).run c.P w=.ok .skip W from g1,xV];refine hK _ _ ?_;have jk:(mk == i)=false:=by simpa using fun e=>bM e.symm
   rw [if_pos (by show (mk == i || S mk)=true;rw [jk,hS];rfl)];rw [bE] at g2;refine ⟨es++[[kf,vf]],β,fG (by rw [aw];exact h1.append_right _),g2.ext (fun t=>?_) (fun id=>?_)⟩
   ·show _=(ab.wr (s.mp dm aa T es) _).get t;rw [ab.cg,Zb,Zb,ZH];rfl
   ·rw [Wm,YJ];show _=(ab.wr (s.mp dm aa T es) _).ob id;rw [lR,Wm];unfold yR;by_cases e:dm=id
    ·rw [if_pos e,if_pos e];rfl
    ·rw [if_neg e,if_neg e,if_neg e];rfl
 ·-- the end
  intro S a w bA hh;rw [if_pos (bA mk (hlen▸qY))] at hh;obtain ⟨es,β,h1,h2⟩:=hh;refine hQ es a w β (h1.trans ?_) (by rw [jn,hlen];exact h2);rw [← hR,hlen,UM (S:=S) (S':=fun _=>true) _ bA]
 ·have key:∀ n,fw (fun k=>(Array.replicate ops.size false).getD k false) n≤n:=by
   intro n
   induction n with
   | zero => exact zm _
   | succ n ih => unfold fw; split <;> omega
  exact key _
 ·rw [if_neg (by simp only [g7];decide)];have ru:∀ t,(sig tr s0 (fun k=>(Array.replicate ops.size false).getD k false) ops.size).get t=s0.get t:=fun t=>by
   have key:=yO (fun k=>VQ (tr.getD k default) t) (fun k=>(Array.replicate ops.size false).getD k false) (s0.get t) 0 ops.size (fun k _ hk hS=>by rw [g7] at hS;cases hS);rw [zR] at key;rw [yA,key];rfl
  have ph:∀ id,(sig tr s0 (fun k=>(Array.replicate ops.size false).getD k false) ops.size).ob id=s0.ob id:=fun id=>by
   have key:=yO (fun k=>yR (tr.getD k default).wr id) (fun k=>(Array.replicate ops.size false).getD k false) (s0.ob id) 0 ops.size (fun k _ hk hS=>by rw [g7] at hS;cases hS);rw [zR] at key;rw [xm,key];rfl
  exact ⟨⟨β,hD.ext ru ph⟩,by rw [ph];exact aA,WZ _ (fun k _=>g7 k)⟩
def zP (c:Ctx) (ops:Array Oper) (dm T k aa:Nat) (l:List Oper) (s:ab) (tr:List Rec) (Q:ab→List Rec→Prop):Prop:=∃ iP s',Vf c ops dm T k aa s l iP s'∧Q s' (tr++iP)
variable {dm T k aa:Nat} {rest:List Oper} {s:ab} {tr:List Rec} {t:List (Nat×FV)} {ob:List (Nat×yb)} {QM:ab→List Rec→Prop}
theorem zP.nil (h:QM s tr):zP c ops dm T k aa [] s tr QM:=⟨[],s,.nil s,by rw [Zh];exact h⟩
theorem zP.one {o:Oper} (hi:kg o.op=false) (hm:kN o.op=false) (hh:WS dm o.op=false) (h:zB c ops [o] s tr fun s' iP=>zP c ops dm T k aa rest s' iP QM):zP c ops dm T k aa (o::rest) s tr QM:=by
 obtain ⟨mn,s1,h1,ie,s2,h2,h3⟩:=h;exact ⟨_,s2,.one hi hm hh h1 h2,by rw [← zD];exact h3⟩
theorem zP.mk (h:zP c ops dm T k aa rest ⟨(dm,.undef)::t,ob⟩ (tr++[⟨⟨some dm,.makeMap T none,ty,pos,af,none⟩,.undef,[],[dm]⟩]) QM) :
  zP c ops dm T k aa ((⟨some dm,.makeMap T none,ty,pos,af,none⟩:Oper)::rest) ⟨t,ob⟩ tr QM:=by
 obtain ⟨ie,s2,h2,h3⟩:=h;exact ⟨_,s2,.spec (r:=⟨⟨some dm,.makeMap T none,ty,pos,af,none⟩,.undef,[],[dm]⟩) (.inr (.inr (.inl ⟨ty,pos,af,rfl⟩))) h2,by rw [zD] at h3;exact h3⟩
theorem zP.ins {y z:Operand} (bZ:ZV c.P k kf) (hy:(⟨t,ob⟩:ab).ev y=kf) (hz:(⟨t,ob⟩:ab).ev z=vf) (rL:y≠.tmp dm) (rN:z≠.tmp dm) (hn:vf.hand=none)
  (h:zP c ops dm T k aa rest ⟨t,ob⟩ (tr++[⟨⟨none,.insert T (.tmp dm) y z,ty,pos,af,none⟩,.agg [kf,vf],[],[]⟩]) QM) :
  zP c ops dm T k aa ((⟨none,.insert T (.tmp dm) y z,ty,pos,af,none⟩:Oper)::rest) ⟨t,ob⟩ tr QM:=by
 obtain ⟨ie,s2,h2,h3⟩:=h;exact ⟨_,s2,.spec (r:=⟨⟨none,.insert T (.tmp dm) y z,ty,pos,af,none⟩,.agg [kf,vf],[],[]⟩) (.inr (.inr (.inr ⟨y,z,kf,vf,ty,pos,af,rfl,bZ,rL,rN,hy,hz,hn⟩))) h2,by rw [zD] at h3;exact h3⟩
theorem zP.hold (hd:d≠dm) (hN:Nat.blt d c.N=true) (h:zP c ops dm T k aa rest ⟨(d,.omap dm aa)::t,ob⟩ (tr++[⟨⟨some d,.move (.tmp dm),ty,pos,af,none⟩,.omap dm aa,[],[]⟩]) QM) :
  zP c ops dm T k aa ((⟨some d,.move (.tmp dm),ty,pos,af,none⟩:Oper)::rest) ⟨t,ob⟩ tr QM:=by
 obtain ⟨ie,s2,h2,h3⟩:=h;exact ⟨_,s2,.spec (r:=⟨⟨some d,.move (.tmp dm),ty,pos,af,none⟩,.omap dm aa,[],[]⟩) (.inr (.inl ⟨d,ty,pos,af,rfl,hd,by simpa [Nat.blt_eq] using hN⟩)) h2,by rw [zD] at h3;exact h3⟩
theorem FW.kU {id e mk aa:Nat} {l:List Oper} {s:ab} {Q:Exit→ab→Prop} (dm T:Nat) (R:List (List FV)) (hT:(c.ty T).k=.map k e) (K:Maps.Keyed c.P k) (gM:Nat.blt dm c.N=true) (aA:(s.ob dm).aa+1=aa) (cR:∀ row∈R,∀ kf,row.head? = some kf→ZV c.P k kf) (hd:R.Pairwise fun a b=>a.head?≠b.head?)
  (h:zP c l.toArray dm T k aa l s [] fun s' tr=>(ZD l.toArray tr && nO l.toArray dm mk tr && Nat.blt mk tr.length)=true∧xI tr (fun _=>true) tr.length=R∧∀ es,es.Perm R→Q .normal (s'.mp dm aa T es)):FW c (.region id l.toArray true) Q s:=fun w0 J a w β hF=>by
 obtain ⟨tr,s',hx,df,hR,hq⟩:=h;rw [Xv,zC,zC] at df;exact tN (Q:=fL fun a' w'=>∃ s' aP,Q .normal s'∧FR c.N w0 J s' a' w' aP) (ops:=l.toArray) hT K (by simpa [Nat.blt_eq] using gM) (by simpa using hx) df.1.1 df.1.2 aA (by simpa using hR) cR hd (by simpa [Nat.blt_eq] using df.2) (fun es a w β hp f=>⟨_,β,hq es hp,f⟩) hF
end
end
section
open Go.RowKit Go.Maps
theorem aC.kc (d:Nat) {f' : FV} (h:look .undef t d=f) (hn:f.hand=none) (kz : f'.hand=none) (hr:∀ (w:World) (I:Nat→Prop) (v:Value),Rd w I v f→Rd w I v f'):aC ⟨t,ob⟩ ⟨(d,f')::t,ob⟩:=by
 intro N w0 J a w β hF;refine ⟨β,?_⟩;refine hF.step (C:=fun _=>False) hF.size hF.defers hF.bN (fun b hb=>⟨hb,rfl⟩) (fun k=>?_) (fun id _=>⟨rfl,rfl,fun _ _ _=>rfl⟩) (fun _ h=>h.elim) (fun _ h=>h.elim) (fun _ h=>h.elim) hF.inj (fun b _ hn=>⟨rfl,hn⟩);show (_∧look .undef ((d,_)::t) k=look .undef t k)∨_;by_cases fS:d=k
 ·subst fS;right;have:(⟨(d,f')::t,ob⟩:ab).get d=f':=by show look _ _ _=_;rw [zA,if_pos rfl]
  rw [this];refine ⟨VR.bk ?_ kz,fun id aa e=>(FV.aU kz e).elim⟩;have h1:=hF.slot d;rw [show (⟨t,ob⟩:ab).get d=f from h] at h1;exact (hr _ _ _ (VR.rd h1 hn)).mono fun b hb=>⟨hb,rfl⟩
 ·left;refine ⟨rfl,?_⟩;rw [zA,if_neg fS]
theorem aC.dk (d:Nat) (h:look .undef t d=.smap aS) (hp:aS.Perm es):aC ⟨t,ob⟩ ⟨(d,.perm 0 es)::t,ob⟩:=
 aC.kc d h rfl rfl fun _ _ v hr=>.dk v es aS hp hr
section
variable {c:Ctx} {w0 w:World} {J:JJ} {s:ab} {a:Act} {β:Nat→Option Nat}
theorem FR.rV (h:FR c.N w0 J s a w β) {x:Operand} (ex:s.ev x=.perm 0 es) (bM:es.any (fun r=>r.length != 0)=true):∃ b clock aq aS,a.eval x=.map (some b)∧aS.Perm es∧Mp w (aK J w β s) b clock aq aS:=by
 have hr:=h.aV ex rfl;generalize a.eval x=v at hr;cases hr with
 | perm v sz es aS hp hr=>
  rw [Yx] at bM;obtain ⟨r,h1,h2⟩:=bM;cases hr with
  | list A n c sz es us hn hc he ho hA hl hr =>
   have:=he r (hp.mem_iff.2 h1);rw [this] at h2;cases h2
 | dk v es aS hp hr =>
  cases hr with
  | smap b clock aq es hI hb bF hl hk hr => exact ⟨b, clock, aq, aS, rfl, hp, hb, bF, hl, hk, hr⟩
theorem WE.perm {z:FV} {b:Bool} (hp:aS.Perm es) (h:WE es kf z vf b):WE aS kf z vf b:=by
 rcases h with ⟨h1,h2⟩|⟨h1,h2,h3⟩
 ·exact .inl ⟨h1,hp.mem_iff.2 h2⟩
 ·exact .inr ⟨h1,h2,fun row hr=>h3 row (hp.mem_iff.1 hr)⟩
theorem av.j5 {k e:Nat} (hT:(c.ty T).k=.map k e) {bb:Bool} (he:(c.ty e).k.aQ = some bb) (K:Keyed c.P k) (x y:Operand) (bM:es.any (fun r=>r.length != 0)=true) (ex:s.ev x=.perm 0 es)
(ey:s.ev y=kf) (hk:∀ row∈es,∀ kf,row.head? = some kf→ZV c.P k kf) (bZ:ZV c.P k kf) {found:Bool} (hl:WE es kf (c.ty e).iR vf found) (hn:vf.hand=none):av c s d (.lookup T x y true) (.bG [vf,.bool found]) []:=by
 refine .ext rfl (fun h=>by rcases h with ⟨_,_,_,h⟩|⟨_,_,_,_,h⟩ <;> cases h) fun s' h1 _ w0 J a w β ty pos after g aZ hF K' Q hK=>?_;obtain ⟨b,clock,aq,aS,hx,hp,hm⟩:=hF.rV (x:=x) (by rw [h1 x zf];exact ex) bM;have iu : ∀ row∈aS,∀ kf,row.head? = some kf→ZV c.P k kf:=fun row hr=>hk row (hp.mem_iff.1 hr);have hy:a.eval y=kf.val:=(hF.aV (x:=y) (by rw [h1 y zf];exact ey) (by have:=bZ.1;cases kf <;> first|rfl|(simp [FV.simple,FV.aB] at this))).bR bZ.1;obtain ⟨v,g1,g2⟩:=US (w:=w) hT he K hm iu bZ true (hl.perm hp);have hG:yy c w0 J s' a ⟨some d,.lookup T x y true,ty,pos,after,g⟩ w (.bG [vf,.bool found]) []:=.rd hF (v:=v) (by simp [execOp,hx,hy,g1]) (by simpa using g2) rfl;exact hG.wp (fun d' h=>by injection h with h;subst h;exact aZ) hK
variable {ops:Array Oper} {rest:List Oper} {t:List (Nat×FV)} {ob:List (Nat×yb)} {ty:TypeId} {pos:String} {af:Array Edge} {g:Option (Nat×Bool)} {d:Nat} {tr:List Rec} {Q:ab→Prop} {QD:ab→List Rec→Prop}
theorem UF {T k e:Nat} {bb found:Bool} {x y:Operand} {kf vf:FV} {es:List (List FV)} (K:Maps.Keyed c.P k) (bM:es.any (fun r=>r.length != 0)=true) (e7:∀ row∈es,∀ kf,row.head? = some kf→ZV c.P k kf) (bZ:ZV c.P k kf) (jg:WE es kf (c.ty e).iR vf found) (hx:(⟨t,ob⟩:ab).ev x=.perm 0 es) (hy:(⟨t,ob⟩:ab).ev y=kf) (hT:(c.ty T).k=.map k e) (he:(c.ty e).k.aQ = some bb) (hn:vf.hand=none) (hd:Nat.blt d c.N=true) (hw:xk ops ⟨t,ob⟩ ⟨some d,.lookup T x y true,ty,pos,af,g⟩ true) (k:zB c ops rest ⟨((d,(.bG [vf,.bool found]))::t),ob⟩ (tr++[⟨⟨some d,.lookup T x y true,ty,pos,af,g⟩,(.bG [vf,.bool found]),[],Zr ⟨t,ob⟩ d (.lookup T x y true)⟩]) QD):zB c ops (⟨some d,.lookup T x y true,ty,pos,af,g⟩::rest) ⟨t,ob⟩ tr QD:=
 zB.cons (f:=(.bG [vf,.bool found])) (wr:=[]) (d:=d) (Xl hd (av.j5 hT he K x y bM hx hy e7 bZ jg hn)) hw rfl rfl k
end
end
section
open Go.RowKit
theorem Uu {P:Program} {k i:TypeId} {fs:Array Field} (hu:P.underlying k=some (.struct fs)) (hf:fs.toList.map (fun f=>(f.type,f.offset))=[(i,0),(i,1)]) (hn:fs.all (·.name != "_")=true)
  (hi:P.underlying i=some (.int .i64)) (c1:P.cellsOf i=1) (c2:P.cellsOf k=2) (hk:P.keyType k=true) (n:Nat) (ht:P.types.size=n+1) (ha:(Lit.int .i64 a).wf=true) (hb:(Lit.int .i64 b).wf=true) :
  ∃ l,keyOf P k (.agg #[.int .i64 a,.int .i64 b])=some l:=by
 have gm:∃ f g,fs.toList=[f,g]∧f.type=i∧f.offset=0∧g.type=i∧g.offset=1:=by
  generalize fs.toList=l at hf;rcases l with _|⟨f,_|⟨g,_|⟨h,t⟩⟩⟩ <;> simp at hf
  exact ⟨f,g,rfl,hf.1.1,hf.1.2,hf.2.1,hf.2.2⟩
 obtain ⟨f,g,hl,f1,f2,g1,g2⟩:=gm;have one:∀ x,(Lit.int .i64 x).wf=true→P.keyLits (n+1) i [.int .i64 x]=some [.int .i64 x]:=fun x hx=>by
  unfold Program.keyLits;rw [hi];simp [hx]
 have two:P.keyLits (P.types.size+1) k [.int .i64 a,.int .i64 b]=some [.int .i64 a,.int .i64 b]:=by
  unfold Program.keyLits;rw [hu];have bA:(fs.toList.all fun x=>x.name != "_")=true:=by
   rw [Array.all_toList];exact hn
  simp only;rw [if_pos ⟨by rw [c2];rfl,by simpa using hn⟩,hl,ht];simp [f1,f2,g1,g2,c1,one a ha,one b hb]
 unfold keyOf;rw [hu];refine ⟨.string (keyBytes [.int .i64 a,.int .i64 b]),?_⟩;have qL:(Value.agg #[.int .i64 a,.int .i64 b]).formed P k=true:=by simp [Value.formed,hu,c2]
 simp only [hk,qL,Bool.and_self,if_true];rw [show (Value.agg #[.int .i64 a,.int .i64 b]).cells.toList=[.int .i64 a,.int .i64 b] from rfl,two];rfl
theorem pY:laidOutB Tryz.prog=true:=by kernel_rfl
def pP (P:Program) (k:TypeId):Array Field:=match P.underlying k with|some (.struct fs)=>fs|_=>#[]
def fx (a b:Int):FV:=.agg [.int .i64 a,.int .i64 b]
theorem Ux (h:bq a):(Lit.int .i64 a).wf=true:=by
 have h1:IntKind.i64.min = -9223372036854775808:=by kernel_rfl
 have h2:IntKind.i64.max=9223372036854775807:=by kernel_rfl
 unfold bq at h;simp [Lit.wf,h1,h2,h]
theorem VE {c d:Int} (h:fx a b=fx c d):a=c∧b=d:=by
 unfold fx at h;injection h with h
 injection h with h1 h2
 injection h2 with h2 _
 injection h1 with _ h1
 injection h2 with _ h2
 exact ⟨h1,h2⟩
def vc (f:FV):FV:=.aH 1 [[f]] 0 0
def gi (o g:Int):FV:=.fn 86 [vc (.int .i64 o),vc (.int .i64 g)]
def kG (o:Int):FV:=.fn 97 [vc (.int .i64 o)]
def mG (o:Int):FV:=.fn 114 [vc (.int .i64 o)]
def mm (f:FV):FV:=.fn 112 [vc f]
def nN (es:List (List FV)):FV:=.fn 108 [vc (.list 1 es)]
theorem zJ (o g:Int):zQ Tryz.prog 39 [.int .i64 o,.int .i64 g] .sh (gi o g):=by
 refine zj 6 Tryz.func39 Tryz.ntmps39 rfl ?_;change FW _ _ _ ⟨[(0,.int .i64 o),(1,.int .i64 g)],[]⟩;refine Zw ?_;refine zu.le ?_ (aC.bx 2 rfl rfl);refine zu.le ?_ (aC.bx 3 rfl rfl);refine za ?_;exact FW.ret ⟨.inl rfl,.sh (.cons (.tmp 4 rfl rfl) .nil) rfl rfl⟩
theorem ZG (o:Int):zQ Tryz.prog 45 [.int .i64 o] .sh (kG o):=by
 refine zj 4 Tryz.func45 Tryz.ntmps45 rfl ?_;change FW _ _ _ ⟨[(0,.int .i64 o)],[]⟩;refine Zw ?_;refine zu.le ?_ (aC.bx 1 rfl rfl);refine za ?_;exact FW.ret ⟨.inl rfl,.sh (.cons (.tmp 2 rfl rfl) .nil) rfl rfl⟩
theorem YZ (o:Int):zQ Tryz.prog 62 [.int .i64 o] .sh (mG o):=by
 refine zj 4 Tryz.func62 Tryz.ntmps62 rfl ?_;change FW _ _ _ ⟨[(0,.int .i64 o)],[]⟩;refine Zw ?_;refine zu.le ?_ (aC.bx 1 rfl rfl);refine za ?_;exact FW.ret ⟨.inl rfl,.sh (.cons (.tmp 2 rfl rfl) .nil) rfl rfl⟩
theorem Wp (f:Nat):zQ Tryz.prog 55 [.fn f []] .sh (mm (.fn f [])):=by
 refine zj 4 Tryz.func55 Tryz.ntmps55 rfl ?_;change FW _ _ _ ⟨[(0,.fn f [])],[]⟩;refine Zw ?_;refine zu.le ?_ (aC.bx 1 rfl rfl);refine za ?_;exact FW.ret ⟨.inl rfl,.sh (.cons (.tmp 2 rfl rfl) .nil) rfl rfl⟩
theorem Uz (es:List (List FV)):zQ Tryz.prog 52 [.list 1 es] .sh (nN es):=by
 refine zj 4 Tryz.func52 Tryz.ntmps52 rfl ?_;change FW _ _ _ ⟨[(0,.list 1 es)],[]⟩;refine Zw ?_;refine zu.le ?_ (aC.bx 1 rfl rfl);refine za ?_;exact FW.ret ⟨.inl rfl,.sh (.cons (.tmp 2 rfl rfl) .nil) rfl rfl⟩
theorem Ya:Maps.Keyed Tryz.prog 72:=Maps.Keyed.of_law (deep_law_laid pY (m:=2) zc (of_decide_eq_true zq) zq zq)
theorem yM (ha:bq a) (hb:bq b):ZV Tryz.prog 72 (fx a b):=
 ⟨rfl,Uu (i:=3) (fs:=pP Tryz.prog 72) zq zq zq zq zq zq zq (Tryz.prog.types.size - 1) zq (Ux ha) (Ux hb)⟩
def YQ (p:Int×Int×FV):List FV:=[fx p.1 p.2.1,p.2.2]
theorem xC (hp:es.Perm (R.map YQ)) (h:∀ p∈R,¬ (p.1=a∧p.2.1=b)):lV es (fx a b) vf (es++[YQ (a,b,vf)]):=by
 refine .inr ⟨fun row hr e=>?_,rfl⟩;obtain ⟨p,hp,rfl⟩:=zM.1 (hp.mem_iff.1 hr);injection e with e
 exact h p hp (VE e)
theorem oi (h:∀ p∈R,bq p.1∧bq p.2.1):∀ row∈R.map YQ,∀ kf,row.head? = some kf→ZV Tryz.prog 72 kf:=fun row hr kf e=>by
 obtain ⟨p,hp,rfl⟩:=zM.1 hr;injection e with e
 subst e;exact yM (h p hp).1 (h p hp).2
theorem Wj (hp:es.Perm (R.map YQ)) (h:∀ p∈R,bq p.1∧bq p.2.1):∀ row∈es,∀ kf,row.head? = some kf→ZV Tryz.prog 72 kf:=fun row hr=>oi h row (hp.mem_iff.1 hr)
instance (x:Int):Decidable (bq x):=by unfold bq;infer_instance
def Wu:List (Int×Int×FV):=[
 (1,0,.agg [gi 0 0,.fn 40 []]),
 (1,1,.agg [gi 1 0,.fn 41 []]),
 (2,3,.agg [gi 2 0,.fn 42 []]),
 (2,4,.agg [.fn 43 [],.fn 44 []]),
 (3,5,.agg [kG 0,.fn 46 []]),
 (4,5,.agg [kG 0,.fn 46 []]),
 (5,0,.agg [.fn 47 [],.fn 48 []]),
 (5,6,.agg [kG 0,.fn 49 []]),
 (5,7,.agg [kG 3,.fn 50 []]),
 (5,8,.agg [kG 2,.fn 51 []]),
 (6,0,.agg [gi 0 0,nN [[.fn 53 []],[.fn 54 []]]]),
 (6,9,.agg [gi 2 0,mm (.fn 53 [])]),
 (6,10,.agg [gi 2 0,mm (.fn 54 [])]),
 (7,0,.agg [gi 0 0,nN [[.fn 56 []],[.fn 57 []],[.fn 58 []]]]),
 (7,11,.agg [gi 2 0,mm (.fn 56 [])]),
 (7,12,.agg [.fn 59 [],.fn 60 []]),
 (8,0,.agg [gi 1 0,mG 0]),
 (8,13,.agg [gi 1 0,mG 13]),
 (8,14,.agg [gi 0 0,.fn 63 []])]
def Xk (c:Int):Int×Int×FV:=(c,0,.agg [.fn 47 [],.fn 64 []])
def YN (c:Int):Int×Int×FV:=(c,2,.agg [gi 1 0,.fn 61 []])
def xQ:List (Int×Int×FV):=Wu++[2,3,4].map Xk++[2,3,4,5].map YN
set_option maxRecDepth 20000 in
theorem sk:(Wu.map YQ).Pairwise fun a b=>a.head?≠b.head?:=by
 refine List.pairwise_map.2 ((show Wu.Pairwise fun p q=>¬ (p.1=q.1∧p.2.1=q.2.1) by decide).imp fun {p q} h e=>h ?_);injection e with e
 exact VE e
set_option maxRecDepth 20000 in
theorem sS:∀ p∈Wu,bq p.1∧bq p.2.1:=by decide
set_option maxRecDepth 20000 in
theorem UP:∀ p∈xQ,bq p.1∧bq p.2.1:=by decide
theorem xD {R' : List (Int×Int×FV)} {r:Int×Int×FV} (hp:es.Perm (R.map YQ)) (h:R++[r]=R'):(es++[YQ r]).Perm (R'.map YQ):=by
 rw [← h,xM];exact hp.append_right _
set_option maxRecDepth 20000 in
theorem sT:zQ Tryz.prog 21 [] .sh (.perm 0 (xQ.map YQ)):=by
 refine zj 95 Tryz.func21 Tryz.ntmps21 rfl ?_;change FW _ _ _ ⟨[],[]⟩;refine za ?_;refine FW.kU (c:=(mA Tryz.prog VO XI 95)) (k:=72) (mk:=0) (aa:=1) (s:=⟨[(0,.bS)],[]⟩) 6 69 (Wu.map YQ) rfl Ya rfl rfl (oi sS) sk ?_;refine zP.mk ?_;refine zP.one rfl rfl rfl ?_;refine zp ?_;refine zP.one rfl rfl rfl ?_;refine zF (zJ 0 0) (by repeat (first|exact zh.nil|refine zh.cons zi ?_)) rfl rfl ?_;refine zB.nil ?_;refine zP.one rfl rfl rfl ?_;refine zp ?_;refine zP.ins (yM (a:=1) (b:=0) zb zb) rfl rfl (fun h=>by injection h with h;exact absurd h zb) (fun h=>by injection h with h;exact absurd h zb) rfl ?_;refine zP.one rfl rfl rfl ?_;refine zp ?_;refine zP.one rfl rfl rfl ?_;refine zF (zJ 1 0) (by repeat (first|exact zh.nil|refine zh.cons zi ?_)) rfl rfl ?_;refine zB.nil ?_;refine zP.one rfl rfl rfl ?_;refine zp ?_;refine zP.ins (yM (a:=1) (b:=1) zb zb) rfl rfl (fun h=>by injection h with h;exact absurd h zb) (fun h=>by injection h with h;exact absurd h zb) rfl ?_;refine zP.one rfl rfl rfl ?_;refine zp ?_;refine zP.one rfl rfl rfl ?_;refine zF (zJ 2 0) (by repeat (first|exact zh.nil|refine zh.cons zi ?_)) rfl rfl ?_;refine zB.nil ?_;refine zP.one rfl rfl rfl ?_;refine zp ?_;refine zP.ins (yM (a:=2) (b:=3) zb zb) rfl rfl (fun h=>by injection h with h;exact absurd h zb) (fun h=>by injection h with h;exact absurd h zb) rfl ?_;refine zP.one rfl rfl rfl ?_;refine zp ?_;refine zP.one rfl rfl rfl ?_;refine zp ?_;refine zP.ins (yM (a:=2) (b:=4) zb zb) rfl rfl (fun h=>by injection h with h;exact absurd h zb) (fun h=>by injection h with h;exact absurd h zb) rfl ?_;refine zP.one rfl rfl rfl ?_;refine zp ?_;refine zP.one rfl rfl rfl ?_;refine zF (ZG 0) (by repeat (first|exact zh.nil|refine zh.cons zi ?_)) rfl rfl ?_;refine zB.nil ?_;refine zP.one rfl rfl rfl ?_;refine zp ?_;refine zP.ins (yM (a:=3) (b:=5) zb zb) rfl rfl (fun h=>by injection h with h;exact absurd h zb) (fun h=>by injection h with h;exact absurd h zb) rfl ?_;refine zP.one rfl rfl rfl ?_;refine zp ?_;refine zP.one rfl rfl rfl ?_;refine zF (ZG 0) (by repeat (first|exact zh.nil|refine zh.cons zi ?_)) rfl rfl ?_;refine zB.nil ?_;refine zP.one rfl rfl rfl ?_;refine zp ?_;refine zP.ins (yM (a:=4) (b:=5) zb zb) rfl rfl (fun h=>by injection h with h;exact absurd h zb) (fun h=>by injection h with h;exact absurd h zb) rfl ?_;refine zP.one rfl rfl rfl ?_;refine zp ?_;refine zP.one rfl rfl rfl ?_;refine zp ?_;refine zP.ins (yM (a:=5) (b:=0) zb zb) rfl rfl (fun h=>by injection h with h;exact absurd h zb) (fun h=>by injection h with h;exact absurd h zb) rfl ?_;refine zP.one rfl rfl rfl ?_;refine zp ?_;refine zP.one rfl rfl rfl ?_;refine zF (ZG 0) (by repeat (first|exact zh.nil|refine zh.cons zi ?_)) rfl rfl ?_;refine zB.nil ?_;refine zP.one rfl rfl rfl ?_;refine zp ?_;refine zP.ins (yM (a:=5) (b:=6) zb zb) rfl rfl (fun h=>by injection h with h;exact absurd h zb) (fun h=>by injection h with h;exact absurd h zb) rfl ?_;refine zP.one rfl rfl rfl ?_;refine zp ?_;refine zP.one rfl rfl rfl ?_;refine zF (ZG 3) (by repeat (first|exact zh.nil|refine zh.cons zi ?_)) rfl rfl ?_;refine zB.nil ?_;refine zP.one rfl rfl rfl ?_;refine zp ?_;refine zP.ins (yM (a:=5) (b:=7) zb zb) rfl rfl (fun h=>by injection h with h;exact absurd h zb) (fun h=>by injection h with h;exact absurd h zb) rfl ?_;refine zP.one rfl rfl rfl ?_;refine zp ?_;refine zP.one rfl rfl rfl ?_;refine zF (ZG 2) (by repeat (first|exact zh.nil|refine zh.cons zi ?_)) rfl rfl ?_;refine zB.nil ?_;refine zP.one rfl rfl rfl ?_;refine zp ?_;refine zP.ins (yM (a:=5) (b:=8) zb zb) rfl rfl (fun h=>by injection h with h;exact absurd h zb) (fun h=>by injection h with h;exact absurd h zb) rfl ?_;refine zP.one rfl rfl rfl ?_;refine zp ?_;refine zP.one rfl rfl rfl ?_;refine zF (zJ 0 0) (by repeat (first|exact zh.nil|refine zh.cons zi ?_)) rfl rfl ?_;refine zB.nil ?_;refine zP.one rfl rfl rfl ?_;refine WW (es:=[[.fn 53 []],[.fn 54 []]]) rfl rfl rfl (by refine zY.one rfl rfl rfl rfl ?_;refine zY.one rfl rfl rfl rfl ?_;exact zY.nil) rfl rfl rfl rfl rfl ?_;refine zB.nil ?_;refine zP.one rfl rfl rfl ?_;refine zF (Uz [[.fn 53 []],[.fn 54 []]]) (by repeat (first|exact zh.nil|refine zh.cons zi ?_)) rfl rfl ?_;refine zB.nil ?_;refine zP.one rfl rfl rfl ?_;refine zp ?_;refine zP.ins (yM (a:=6) (b:=0) zb zb) rfl rfl (fun h=>by injection h with h;exact absurd h zb) (fun h=>by injection h with h;exact absurd h zb) rfl ?_;refine zP.one rfl rfl rfl ?_;refine zp ?_;refine zP.one rfl rfl rfl ?_;refine zF (zJ 2 0) (by repeat (first|exact zh.nil|refine zh.cons zi ?_)) rfl rfl ?_;refine zB.nil ?_;refine zP.one rfl rfl rfl ?_;refine zF (Wp 53) (by repeat (first|exact zh.nil|refine zh.cons zi ?_)) rfl rfl ?_;refine zB.nil ?_;refine zP.one rfl rfl rfl ?_;refine zp ?_;refine zP.ins (yM (a:=6) (b:=9) zb zb) rfl rfl (fun h=>by injection h with h;exact absurd h zb) (fun h=>by injection h with h;exact absurd h zb) rfl ?_;refine zP.one rfl rfl rfl ?_;refine zp ?_;refine zP.one rfl rfl rfl ?_;refine zF (zJ 2 0) (by repeat (first|exact zh.nil|refine zh.cons zi ?_)) rfl rfl ?_;refine zB.nil ?_;refine zP.one rfl rfl rfl ?_;refine zF (Wp 54) (by repeat (first|exact zh.nil|refine zh.cons zi ?_)) rfl rfl ?_;refine zB.nil ?_;refine zP.one rfl rfl rfl ?_;refine zp ?_;refine zP.ins (yM (a:=6) (b:=10) zb zb) rfl rfl (fun h=>by injection h with h;exact absurd h zb) (fun h=>by injection h with h;exact absurd h zb) rfl ?_;refine zP.one rfl rfl rfl ?_;refine zp ?_;refine zP.one rfl rfl rfl ?_;refine zF (zJ 0 0) (by repeat (first|exact zh.nil|refine zh.cons zi ?_)) rfl rfl ?_;refine zB.nil ?_;refine zP.one rfl rfl rfl ?_;refine WW (es:=[[.fn 56 []],[.fn 57 []],[.fn 58 []]]) rfl rfl rfl (by refine zY.one rfl rfl rfl rfl ?_;refine zY.one rfl rfl rfl rfl ?_;refine zY.one rfl rfl rfl rfl ?_;exact zY.nil) rfl rfl rfl rfl rfl ?_;refine zB.nil ?_;refine zP.one rfl rfl rfl ?_;refine zF (Uz [[.fn 56 []],[.fn 57 []],[.fn 58 []]]) (by repeat (first|exact zh.nil|refine zh.cons zi ?_)) rfl rfl ?_;refine zB.nil ?_;refine zP.one rfl rfl rfl ?_;refine zp ?_;refine zP.ins (yM (a:=7) (b:=0) zb zb) rfl rfl (fun h=>by injection h with h;exact absurd h zb) (fun h=>by injection h with h;exact absurd h zb) rfl ?_;refine zP.one rfl rfl rfl ?_;refine zp ?_;refine zP.one rfl rfl rfl ?_;refine zF (zJ 2 0) (by repeat (first|exact zh.nil|refine zh.cons zi ?_)) rfl rfl ?_;refine zB.nil ?_;refine zP.one rfl rfl rfl ?_;refine zF (Wp 56) (by repeat (first|exact zh.nil|refine zh.cons zi ?_)) rfl rfl ?_;refine zB.nil ?_;refine zP.one rfl rfl rfl ?_;refine zp ?_;refine zP.ins (yM (a:=7) (b:=11) zb zb) rfl rfl (fun h=>by injection h with h;exact absurd h zb) (fun h=>by injection h with h;exact absurd h zb) rfl ?_;refine zP.one rfl rfl rfl ?_;refine zp ?_;refine zP.one rfl rfl rfl ?_;refine zp ?_;refine zP.ins (yM (a:=7) (b:=12) zb zb) rfl rfl (fun h=>by injection h with h;exact absurd h zb) (fun h=>by injection h with h;exact absurd h zb) rfl ?_;refine zP.one rfl rfl rfl ?_;refine zp ?_;refine zP.one rfl rfl rfl ?_;refine zF (zJ 1 0) (by repeat (first|exact zh.nil|refine zh.cons zi ?_)) rfl rfl ?_;refine zB.nil ?_;refine zP.one rfl rfl rfl ?_;refine zF (YZ 0) (by repeat (first|exact zh.nil|refine zh.cons zi ?_)) rfl rfl ?_;refine zB.nil ?_;refine zP.one rfl rfl rfl ?_;refine zp ?_;refine zP.ins (yM (a:=8) (b:=0) zb zb) rfl rfl (fun h=>by injection h with h;exact absurd h zb) (fun h=>by injection h with h;exact absurd h zb) rfl ?_;refine zP.one rfl rfl rfl ?_;refine zp ?_;refine zP.one rfl rfl rfl ?_;refine zF (zJ 1 0) (by repeat (first|exact zh.nil|refine zh.cons zi ?_)) rfl rfl ?_;refine zB.nil ?_;refine zP.one rfl rfl rfl ?_;refine zF (YZ 13) (by repeat (first|exact zh.nil|refine zh.cons zi ?_)) rfl rfl ?_;refine zB.nil ?_;refine zP.one rfl rfl rfl ?_;refine zp ?_;refine zP.ins (yM (a:=8) (b:=13) zb zb) rfl rfl (fun h=>by injection h with h;exact absurd h zb) (fun h=>by injection h with h;exact absurd h zb) rfl ?_;refine zP.one rfl rfl rfl ?_;refine zp ?_;refine zP.one rfl rfl rfl ?_;refine zF (zJ 0 0) (by repeat (first|exact zh.nil|refine zh.cons zi ?_)) rfl rfl ?_;refine zB.nil ?_;refine zP.one rfl rfl rfl ?_;refine zp ?_;refine zP.ins (yM (a:=8) (b:=14) zb zb) rfl rfl (fun h=>by injection h with h;exact absurd h zb) (fun h=>by injection h with h;exact absurd h zb) rfl ?_;refine zP.hold zb rfl ?_;refine zP.one rfl rfl rfl ?_;refine zp ?_;refine zP.nil ⟨by kernel_rfl,rfl,fun es hp=>?_⟩;unfold ab.mp;refine FW.le (s':=⟨[(1,.omap 100 0)],[(100,⟨0,.aX,69,0,es⟩)]⟩) ?_ (aC.cv [⟨100,some 6,1,⟨0,.aX,69,0,es⟩⟩] zn zt);refine za ?_;refine zw (es:=[[.int .i64 2],[.int .i64 3],[.int .i64 4]]) rfl rfl rfl (by refine zY.int rfl rfl ?_;refine zY.int rfl rfl ?_;refine zY.int rfl rfl ?_;exact zY.nil) rfl rfl rfl rfl rfl ?_;refine za ?_;refine FW.loop (fun p:Nat×List (List FV)=>⟨[(1,.omap 100 0),(71,.list 1 [[.int .i64 2],[.int .i64 3],[.int .i64 4]]),(72,.int .i64 3),(73,.int .i64 (p.1:Nat))],[(100,⟨0,.aX,69,0,p.2⟩)]⟩) (fun p=>p.1≤3∧p.2.Perm ((Wu++(([2,3,4]:List Int).take p.1).map Xk).map YQ)) (fun p=>3 - p.1) (0,es) ⟨zN _,by simpa using hp⟩ ?_ ?_
 ·exact (aC.cv [⟨100,some 100,0,⟨0,.aX,69,0,es⟩⟩] zn zt)
 clear hp es;rintro ⟨i,es⟩ ⟨hi,hp⟩;replace hi:i≤3:=hi;dsimp only at hp;obtain rfl|rfl|rfl|rfl:i=0∨i=1∨i=2∨i=3:=by omega
 ·refine za ?_;refine yN Ya (Wj hp zb) (yM (a:=2) (b:=0) zb zb) (xC (vf:=(Xk 2).2.2) hp zb) rfl rfl rfl rfl rfl rfl rfl ?_;refine za ?_;refine ⟨(1,es++[YQ (Xk 2)]),⟨(by show 1≤3;decide),xD hp (by rw [zD];rfl)⟩,(by show 3 - 1<3 - 0;decide),?_⟩;exact (aC.cv [⟨100,some 100,0,⟨0,.aX,69,0,es++[YQ (Xk 2)]⟩⟩] zn zt)
 ·refine za ?_;refine yN Ya (Wj hp zb) (yM (a:=3) (b:=0) zb zb) (xC (vf:=(Xk 3).2.2) hp zb) rfl rfl rfl rfl rfl rfl rfl ?_;refine za ?_;refine ⟨(2,es++[YQ (Xk 3)]),⟨(by show 2≤3;decide),xD hp (by rw [zD];rfl)⟩,(by show 3 - 2<3 - 1;decide),?_⟩;exact (aC.cv [⟨100,some 100,0,⟨0,.aX,69,0,es++[YQ (Xk 3)]⟩⟩] zn zt)
 ·refine za ?_;refine yN Ya (Wj hp zb) (yM (a:=4) (b:=0) zb zb) (xC (vf:=(Xk 4).2.2) hp zb) rfl rfl rfl rfl rfl rfl rfl ?_;refine za ?_;refine ⟨(3,es++[YQ (Xk 4)]),⟨(by show 3≤3;decide),xD hp (by rw [zD];rfl)⟩,(by show 3 - 3<3 - 2;decide),?_⟩;exact (aC.cv [⟨100,some 100,0,⟨0,.aX,69,0,es++[YQ (Xk 4)]⟩⟩] zn zt)
 refine za ?_;refine zw (es:=[[.int .i64 2],[.int .i64 3],[.int .i64 4],[.int .i64 5]]) rfl rfl rfl (by refine zY.int rfl rfl ?_;refine zY.int rfl rfl ?_;refine zY.int rfl rfl ?_;refine zY.int rfl rfl ?_;exact zY.nil) rfl rfl rfl rfl rfl ?_;refine za ?_;refine FW.loop (fun p:Nat×List (List FV)=>⟨[(1,.omap 100 0),(82,.list 1 [[.int .i64 2],[.int .i64 3],[.int .i64 4],[.int .i64 5]]),(83,.int .i64 4),(84,.int .i64 (p.1:Nat))],[(100,⟨0,.aX,69,0,p.2⟩)]⟩) (fun p=>p.1≤4∧p.2.Perm ((Wu++([2,3,4]:List Int).map Xk++(([2,3,4,5]:List Int).take p.1).map YN).map YQ)) (fun p=>4 - p.1) (0,es) ⟨zN _,by simpa using hp⟩ ?_ ?_
 ·exact (aC.cv [⟨100,some 100,0,⟨0,.aX,69,0,es⟩⟩] zn zt)
 clear hp es;rintro ⟨i,es⟩ ⟨hi,hp⟩;replace hi:i≤4:=hi;dsimp only at hp;obtain rfl|rfl|rfl|rfl|rfl:i=0∨i=1∨i=2∨i=3∨i=4:=by omega
 ·refine za ?_;refine ZT (zJ 1 0) (by repeat (first|exact zh.nil|refine zh.cons zi ?_)) rfl rfl ?_;refine za ?_;refine yN Ya (Wj hp zb) (yM (a:=2) (b:=2) zb zb) (xC (vf:=(YN 2).2.2) hp zb) rfl rfl rfl rfl rfl rfl rfl ?_;refine za ?_;refine ⟨(1,es++[YQ (YN 2)]),⟨(by show 1≤4;decide),xD hp (by rw [zD];rfl)⟩,(by show 4 - 1<4 - 0;decide),?_⟩;exact (aC.cv [⟨100,some 100,0,⟨0,.aX,69,0,es++[YQ (YN 2)]⟩⟩] zn zt)
 ·refine za ?_;refine ZT (zJ 1 0) (by repeat (first|exact zh.nil|refine zh.cons zi ?_)) rfl rfl ?_;refine za ?_;refine yN Ya (Wj hp zb) (yM (a:=3) (b:=2) zb zb) (xC (vf:=(YN 3).2.2) hp zb) rfl rfl rfl rfl rfl rfl rfl ?_;refine za ?_;refine ⟨(2,es++[YQ (YN 3)]),⟨(by show 2≤4;decide),xD hp (by rw [zD];rfl)⟩,(by show 4 - 2<4 - 1;decide),?_⟩;exact (aC.cv [⟨100,some 100,0,⟨0,.aX,69,0,es++[YQ (YN 3)]⟩⟩] zn zt)
 ·refine za ?_;refine ZT (zJ 1 0) (by repeat (first|exact zh.nil|refine zh.cons zi ?_)) rfl rfl ?_;refine za ?_;refine yN Ya (Wj hp zb) (yM (a:=4) (b:=2) zb zb) (xC (vf:=(YN 4).2.2) hp zb) rfl rfl rfl rfl rfl rfl rfl ?_;refine za ?_;refine ⟨(3,es++[YQ (YN 4)]),⟨(by show 3≤4;decide),xD hp (by rw [zD];rfl)⟩,(by show 4 - 3<4 - 2;decide),?_⟩;exact (aC.cv [⟨100,some 100,0,⟨0,.aX,69,0,es++[YQ (YN 4)]⟩⟩] zn zt)
 ·refine za ?_;refine ZT (zJ 1 0) (by repeat (first|exact zh.nil|refine zh.cons zi ?_)) rfl rfl ?_;refine za ?_;refine yN Ya (Wj hp zb) (yM (a:=5) (b:=2) zb zb) (xC (vf:=(YN 5).2.2) hp zb) rfl rfl rfl rfl rfl rfl rfl ?_;refine za ?_;refine ⟨(4,es++[YQ (YN 5)]),⟨(by show 4≤4;decide),xD hp (by rw [zD];rfl)⟩,(by show 4 - 4<4 - 3;decide),?_⟩;exact (aC.cv [⟨100,some 100,0,⟨0,.aX,69,0,es++[YQ (YN 5)]⟩⟩] zn zt)
 refine za ?_;refine FW.le ?_ (aC.ic 0 rfl rfl);refine FW.le ?_ (aC.dk 0 rfl hp);exact FW.ret ⟨.inl rfl,.sh (.cons (.tmp 0 rfl rfl) .nil) rfl rfl⟩
end
section
open Go.RowKit Go.Maps
section
variable {c:Ctx} {w0 w:World} {J:JJ} {s:ab} {a:Act} {β:Nat→Option Nat}
theorem sU {dst:Option Nat} {ty:TypeId} {g:Option (Nat×Bool)} (hT:(c.ty T).k=.au fs) (hf:fs[i]? = some (off,ft)) (dG:(c.ty ft).k.aQ = some false) (x:Operand) {us:List Value} {u:Value}
  (ex:a.eval x=.agg us.toArray) (hu:us[off]? = some u):(execOp a.eval ⟨dst,.field T x i,ty,pos,af,g⟩).run c.P w=.ok (.value u) w:=by
 obtain ⟨d,ii,z,ht⟩:=c.get hT zd;have hd:=ht.k;rw [hT] at hd;obtain ⟨gs,rfl,gm,_⟩:=ZS hd;rw [gm,yW] at hf;cases hg:gs.toList[i]? with
 | none => rw [hg] at hf; cases hf
 | some fl =>
  rw [hg] at hf;simp only [xe,zI,yi] at hf;obtain ⟨rfl,rfl⟩:=hf;have mZ : gs[i]? = some fl:=by simpa using hg
  have ha:=ZI (c:=c) dG w;simp [execOp,Instr.field,run_underlying ht.u,mZ,ex,asAgg,part,ha,hu,Result.andThen]
theorem av.gF (hT:(c.ty T).k=.au fs) (hf:fs[i]? = some (off,ft)) (dG:(c.ty ft).k.aQ = some false) (x:Operand) (ex:s.ev x=.agg cs) (hc:cs[off]? = some f) (hn:f.hand=none):av c s d (.field T x i) f []:=by
 refine .ext rfl (fun h=>by rcases h with ⟨_,_,_,h⟩|⟨_,_,_,_,h⟩ <;> cases h) fun s' h1 _ w0 J a w β ty pos after g aZ hF K' Q hK=>?_;have qD : s'.ev x=.agg cs:=(h1 x zf).trans ex;have hr:=hF.aV qD rfl;generalize hx:a.eval x=v at hr;cases hr with
 | agg us fs hl hr =>
  have aM:off<us.length:=by rw [hl];exact (zK.1 hc).1
  have hu:us[off]? = some us[off]:=by simp [aM]
  have hG:yy c w0 J s' a ⟨some d,.field T x i,ty,pos,after,g⟩ w f []:=.rd hF (sU hT hf dG x hx hu) (hr off _ _ hu hc) hn;exact hG.wp (fun d' h=>by injection h with h;subst h;exact aZ) hK
variable {ops:Array Oper} {rest:List Oper} {t:List (Nat×FV)} {ob:List (Nat×yb)} {ty:TypeId} {pos:String} {af:Array Edge} {g:Option (Nat×Bool)} {d:Nat} {tr:List Rec} {Q:ab→Prop} {QD:ab→List Rec→Prop}
theorem uf {x:Operand} (hx:(⟨t,ob⟩:ab).ev x=.agg cs) (hT:(c.ty T).k=.au fs) (hf:fs[i]? = some (off,ft)) (dG:(c.ty ft).k.aQ = some false) (hc:cs[off]? = some f) (hn:f.hand=none) (hd:Nat.blt d c.N=true)
  (hw:xk ops ⟨t,ob⟩ ⟨some d,.field T x i,ty,pos,af,g⟩ true) (k:zu c ops rest ⟨(d,f)::t,ob⟩ Q):zu c ops (⟨some d,.field T x i,ty,pos,af,g⟩::rest) ⟨t,ob⟩ Q:=
 zu.cons (f:=f) (wr:=[]) (d:=d) (Xl hd (av.gF hT hf dG x hx hc hn)) hw rfl k
theorem uN {x:Operand} (hx:(⟨t,ob⟩:ab).ev x=.agg cs) (hT:(c.ty T).k=.au fs) (hf:fs[i]? = some (off,ft)) (dG:(c.ty ft).k.aQ = some false) (hc:cs[off]? = some f) (hn:f.hand=none) (hd:Nat.blt d c.N=true)
  (hw:xk ops ⟨t,ob⟩ ⟨some d,.field T x i,ty,pos,af,g⟩ true) (k:zB c ops rest ⟨(d,f)::t,ob⟩ (tr++[⟨⟨some d,.field T x i,ty,pos,af,g⟩,f,[],Zr ⟨t,ob⟩ d (.field T x i)⟩]) QD):zB c ops (⟨some d,.field T x i,ty,pos,af,g⟩::rest) ⟨t,ob⟩ tr QD:=
 zB.cons (f:=f) (wr:=[]) (d:=d) (Xl hd (av.gF hT hf dG x hx hc hn)) hw rfl rfl k
end
end
section
open Go.RowKit
theorem qt {α:Type} [Inhabited α] {l:List α} {f:α→Bool}:l.any f=true↔∃ i,i<l.length∧f (nth l i)=true:=by
 rw [Yx];constructor
 ·rintro ⟨x,hx,h⟩;obtain ⟨i,hi,rfl⟩:=yu hx;exact ⟨i,hi,by rw [Zc hi];exact h⟩
 ·rintro ⟨i,hi,h⟩;exact ⟨_,Ym hi,h⟩
def ju (p:Int→Bool) (l:List Int):Int:=if l.any p=true then (l.findIdx p:Nat) else -1
theorem qh {l:List Int} (aM:i<l.length) (h:p (nth l i)=true) (hf:∀ j,j<i→p (nth l j)=false):ju p l=i:=by
 unfold ju;rw [if_pos (qt.2 ⟨i,aM,h⟩),(List.findIdx_eq aM).2 ⟨by rw [← Zc aM];exact h,fun j hj=>by rw [← Zc (show j<l.length by omega)];exact hf j hj⟩]
theorem qj {l:List Int} (hf:∀ j,j<l.length→p (nth l j)=false):ju p l = -1:=by
 unfold ju;rw [if_neg];intro h;obtain ⟨j,h1,h2⟩:=qt.1 h;rw [hf j h1] at h2;cases h2
theorem qi {l:List Int}:decide (ju p l≥0)=l.any p:=by
 unfold ju;cases h:l.any p with
 | true => rw [if_pos rfl]; exact decide_eq_true (Int.natCast_nonneg _)
 | false => rw [if_neg zb]; rfl
theorem Wh (l:List Int) (cf:Nat) (aI:List FV) (p:Int→Bool) (hl:l.length≤1000000000) (hp:∀ o∈l,zQ Tryz.prog cf ([.int .i64 o]++aI) .fr (.bool (p o))):zQ Tryz.prog 120 [.list 1 (l.map yw),.fn cf aI] .fr (.int .i64 (ju p l)):=by
 refine zj 19 Tryz.func120 Tryz.ntmps120 rfl ?_;change FW _ _ _ ⟨[(0,.list 1 (l.map yw)),(1,.fn cf aI)],[]⟩;refine za ?_;refine FW.loop (fun i:Nat=>⟨[(0,.list 1 (l.map yw)),(1,.fn cf aI),(7,.int .i64 l.length),(8,.int .i64 i)],[]⟩) (fun i=>i≤l.length∧∀ j,j<i→p (nth l j)=false) (fun i=>l.length - i) 0 ⟨zN _,fun j hj=>by omega⟩ (aC.cv [] XS zt) ?_;rintro i ⟨hi,hf⟩;refine za ?_;refine FW.cond rfl (fun h=>?_) (fun h=>?_)
 ·have aM:i<l.length:=by simpa using h
  clear h;refine za ?_;refine YL rfl (hp (nth l i) (Ym aM)) (by repeat (first|exact zh.nil|refine zh.cons zi ?_)) rfl rfl ?_;refine za ?_;refine FW.cond rfl (fun h=>?_) (fun h=>?_)
  ·refine za ?_;exact FW.ret ⟨.inl rfl,zg rfl rfl (congrArg (FV.int .i64) (qh aM h hf).symm) rfl⟩
  ·refine za ?_;refine ⟨i+1,⟨by omega,fun j hj=>?_⟩,by omega,(aC.cv [] XS zt)⟩;rcases xa j i with h1|h1
   ·exact hf j h1
   ·have:j=i:=by omega
    subst this;exact h
 ·obtain rfl:i=l.length:=by simp at h;omega
  refine za ?_;exact FW.ret ⟨.inl rfl,zg rfl rfl (by rw [qj hf];rfl) rfl⟩
theorem xb (l:List Int) (cf:Nat) (aI:List FV) (p:Int→Bool) (hl:l.length≤1000000000) (hp:∀ o∈l,zQ Tryz.prog cf ([.int .i64 o]++aI) .fr (.bool (p o))):zQ Tryz.prog 66 [.list 1 (l.map yw),.fn cf aI] .fr (.bool (l.any p)):=by
 refine zj 9 Tryz.func66 Tryz.ntmps66 rfl ?_;change FW _ _ _ ⟨[(0,.list 1 (l.map yw)),(1,.fn cf aI)],[]⟩;refine za ?_;refine zy (Wh l cf aI p hl hp) (by repeat (first|exact zh.nil|refine zh.cons zi ?_)) rfl rfl ?_;refine za ?_;exact FW.ret ⟨.inl rfl,zg rfl rfl (congrArg FV.bool qi) rfl⟩
theorem sF (l:List Int) (v:Int) (hl:l.length≤1000000):zQ Tryz.prog 85 [.list 1 (l.map yw),.int .i64 v] .fr (.int .i64 (ju (fun x=>decide (v=x)) l)):=by
 refine zj 19 Tryz.func85 Tryz.ntmps85 rfl ?_;change FW _ _ _ ⟨[(0,.list 1 (l.map yw)),(1,.int .i64 v)],[]⟩;refine za ?_;refine FW.loop (fun j:Nat=>⟨[(0,.list 1 (l.map yw)),(1,.int .i64 v),(4,.int .i64 0),(7,.int .i64 l.length),(8,.int .i64 j)],[]⟩) (fun j=>j≤l.length∧∀ i,i<j→decide (v=nth l i)=false) (fun j=>l.length - j) 0 ⟨zN _,fun j hj=>by omega⟩ (aC.cv [] XS zt) ?_;rintro j ⟨hj,hf⟩;refine za ?_;refine FW.cond rfl (fun h=>?_) (fun h=>?_)
 ·have aM:j<l.length:=by simpa using h
  clear h;have oZ:=qh (p:=fun x=>decide (v=x)) aM;obtain ⟨x,hx⟩:∃ x,nth l j=x:=⟨_,rfl⟩
  rw [hx] at oZ;refine za ?_;rw [hx];skip;refine FW.cond rfl (fun h2=>?_) (fun h2=>?_)
  ·refine za ?_;exact FW.ret ⟨.inl rfl,zg rfl rfl (congrArg (FV.int .i64) (oZ h2 hf).symm) rfl⟩
  ·refine za ?_;refine ⟨j+1,⟨by omega,fun i hi=>?_⟩,by omega,(aC.cv [] XS zt)⟩;rcases xa i j with h1|h1
   ·exact hf i h1
   ·have:i=j:=by omega
    subst this;rw [hx];exact h2
 ·obtain rfl:j=l.length:=by simp at h;omega
  refine za ?_;exact FW.ret ⟨.inl rfl,zg rfl rfl (by rw [qj hf];rfl) rfl⟩
theorem WG (l:List Int) (v:Int) (hl:l.length≤1000000):zQ Tryz.prog 37 [.list 1 (l.map yw),.int .i64 v] .fr (.bool (l.any fun x=>decide (v=x))):=by
 refine zj 9 Tryz.func37 Tryz.ntmps37 rfl ?_;change FW _ _ _ ⟨[(0,.list 1 (l.map yw)),(1,.int .i64 v)],[]⟩;refine za ?_;refine zy (sF l v hl) (by repeat (first|exact zh.nil|refine zh.cons zi ?_)) rfl rfl ?_;refine za ?_;exact FW.ret ⟨.inl rfl,zg rfl rfl (congrArg FV.bool qi) rfl⟩
def gj (k:Int):List Int:=if k=2∨k=5∨k=6 then [0,1] else if k=3∨k=4 then [0,2] else if k=7 then [3,4] else []
def jA (k:Int):FV:=if gj k=[] then .nil else .list 1 ((gj k).map yw)
theorem XU (k:Int) (h1:1≤k) (h2:k≤8):zQ Tryz.prog 19 [.int .i64 k] .sh (jA k):=by
 obtain rfl|rfl|rfl|rfl|rfl|rfl|rfl|rfl:k=1∨k=2∨k=3∨k=4∨k=5∨k=6∨k=7∨k=8:=by omega
 ·change zQ Tryz.prog 19 [.int .i64 1] .sh .nil;refine zj 16 Tryz.func19 Tryz.ntmps19 rfl ?_;change FW _ _ _ ⟨[(0,.int .i64 1)],[]⟩;refine za ?_;exact FW.ret ⟨.inl rfl,.sh (.cons (.tmp 2 rfl rfl) .nil) rfl rfl⟩
 ·change zQ Tryz.prog 19 [.int .i64 2] .sh (.list 1 [[.int .i64 0],[.int .i64 1]]);refine zj 16 Tryz.func19 Tryz.ntmps19 rfl ?_;change FW _ _ _ ⟨[(0,.int .i64 2)],[]⟩;refine za ?_;refine zw (es:=[[.int .i64 0],[.int .i64 1]]) rfl rfl rfl (by refine zY.int rfl rfl ?_;refine zY.int rfl rfl ?_;exact zY.nil) rfl rfl rfl rfl rfl ?_;refine za ?_;exact FW.ret ⟨.inl rfl,.sh (.cons (.tmp 2 rfl rfl) .nil) rfl rfl⟩
 ·change zQ Tryz.prog 19 [.int .i64 3] .sh (.list 1 [[.int .i64 0],[.int .i64 2]]);refine zj 16 Tryz.func19 Tryz.ntmps19 rfl ?_;change FW _ _ _ ⟨[(0,.int .i64 3)],[]⟩;refine za ?_;refine zw (es:=[[.int .i64 0],[.int .i64 2]]) rfl rfl rfl (by refine zY.int rfl rfl ?_;refine zY.int rfl rfl ?_;exact zY.nil) rfl rfl rfl rfl rfl ?_;refine za ?_;exact FW.ret ⟨.inl rfl,.sh (.cons (.tmp 2 rfl rfl) .nil) rfl rfl⟩
 ·change zQ Tryz.prog 19 [.int .i64 4] .sh (.list 1 [[.int .i64 0],[.int .i64 2]]);refine zj 16 Tryz.func19 Tryz.ntmps19 rfl ?_;change FW _ _ _ ⟨[(0,.int .i64 4)],[]⟩;refine za ?_;refine zw (es:=[[.int .i64 0],[.int .i64 2]]) rfl rfl rfl (by refine zY.int rfl rfl ?_;refine zY.int rfl rfl ?_;exact zY.nil) rfl rfl rfl rfl rfl ?_;refine za ?_;exact FW.ret ⟨.inl rfl,.sh (.cons (.tmp 2 rfl rfl) .nil) rfl rfl⟩
 ·change zQ Tryz.prog 19 [.int .i64 5] .sh (.list 1 [[.int .i64 0],[.int .i64 1]]);refine zj 16 Tryz.func19 Tryz.ntmps19 rfl ?_;change FW _ _ _ ⟨[(0,.int .i64 5)],[]⟩;refine za ?_;refine zw (es:=[[.int .i64 0],[.int .i64 1]]) rfl rfl rfl (by refine zY.int rfl rfl ?_;refine zY.int rfl rfl ?_;exact zY.nil) rfl rfl rfl rfl rfl ?_;refine za ?_;exact FW.ret ⟨.inl rfl,.sh (.cons (.tmp 2 rfl rfl) .nil) rfl rfl⟩
 ·change zQ Tryz.prog 19 [.int .i64 6] .sh (.list 1 [[.int .i64 0],[.int .i64 1]]);refine zj 16 Tryz.func19 Tryz.ntmps19 rfl ?_;change FW _ _ _ ⟨[(0,.int .i64 6)],[]⟩;refine za ?_;refine zw (es:=[[.int .i64 0],[.int .i64 1]]) rfl rfl rfl (by refine zY.int rfl rfl ?_;refine zY.int rfl rfl ?_;exact zY.nil) rfl rfl rfl rfl rfl ?_;refine za ?_;exact FW.ret ⟨.inl rfl,.sh (.cons (.tmp 2 rfl rfl) .nil) rfl rfl⟩
 ·change zQ Tryz.prog 19 [.int .i64 7] .sh (.list 1 [[.int .i64 3],[.int .i64 4]]);refine zj 16 Tryz.func19 Tryz.ntmps19 rfl ?_;change FW _ _ _ ⟨[(0,.int .i64 7)],[]⟩;refine za ?_;refine zw (es:=[[.int .i64 3],[.int .i64 4]]) rfl rfl rfl (by refine zY.int rfl rfl ?_;refine zY.int rfl rfl ?_;exact zY.nil) rfl rfl rfl rfl rfl ?_;refine za ?_;exact FW.ret ⟨.inl rfl,.sh (.cons (.tmp 2 rfl rfl) .nil) rfl rfl⟩
 ·change zQ Tryz.prog 19 [.int .i64 8] .sh .nil;refine zj 16 Tryz.func19 Tryz.ntmps19 rfl ?_;change FW _ _ _ ⟨[(0,.int .i64 8)],[]⟩;refine za ?_;exact FW.ret ⟨.inl rfl,.sh (.cons (.tmp 2 rfl rfl) .nil) rfl rfl⟩
def jy (o:aG):Bool:=decide (o.k=1) || decide (o.k=2) || decide (o.k=3)
def pq (o:aG):Bool:=o.done && (decide (o.k=0) || decide (o.k=2) || decide (o.k=4))
theorem Ys (o:aG):zQ Tryz.prog 38 [.agg o.fv] .fr (.bool (jy o)):=by
 obtain ⟨p,k,ke,ar,re,ca,rt,dn⟩:=o;refine zj 16 Tryz.func38 Tryz.ntmps38 rfl ?_;change FW _ _ _ ⟨[(0,.agg (aG.fv ⟨p,k,ke,ar,re,ca,rt,dn⟩))],[]⟩;unfold jy aG.fv;dsimp only;refine za ?_;refine yd (fun h1=>?_) (fun h1=>?_)
 ·rw [h1];refine za ?_;exact FW.ret ⟨.inl rfl,zg rfl rfl rfl rfl⟩
 ·rw [h1];refine za ?_;refine yd (fun h2=>?_) (fun h2=>?_)
  ·rw [h2];refine za ?_;exact FW.ret ⟨.inl rfl,zg rfl rfl rfl rfl⟩
  ·rw [h2];refine za ?_;exact FW.ret ⟨.inl rfl,zg rfl rfl rfl rfl⟩
theorem Zo (o:aG):zQ Tryz.prog 92 [.agg o.fv] .fr (.bool (pq o)):=by
 obtain ⟨p,k,ke,ar,re,ca,rt,dn⟩:=o;refine zj 20 Tryz.func92 Tryz.ntmps92 rfl ?_;change FW _ _ _ ⟨[(0,.agg (aG.fv ⟨p,k,ke,ar,re,ca,rt,dn⟩))],[]⟩;unfold pq aG.fv;dsimp only;refine za ?_;refine yd (fun h1=>?_) (fun h1=>?_)
 ·subst h1;refine za ?_;refine yd (fun h2=>?_) (fun h2=>?_)
  ·rw [h2];refine za ?_;exact FW.ret ⟨.inl rfl,zg rfl rfl rfl rfl⟩
  ·rw [h2];refine za ?_;refine yd (fun h3=>?_) (fun h3=>?_)
   ·rw [h3];refine za ?_;exact FW.ret ⟨.inl rfl,zg rfl rfl rfl rfl⟩
   ·rw [h3];refine za ?_;exact FW.ret ⟨.inl rfl,zg rfl rfl rfl rfl⟩
 ·subst h1;refine za ?_;exact FW.ret ⟨.inl rfl,zg rfl rfl rfl rfl⟩
theorem ql:Maps.Keyed Tryz.prog 92:=Maps.Keyed.of_law (deep_law_laid pY (m:=2) zc (of_decide_eq_true zq) zq zq)
theorem oh (ha:bq a) (hb:bq b):ZV Tryz.prog 92 (fx a b):=
 ⟨rfl,Uu (i:=3) (fs:=pP Tryz.prog 92) zq zq zq zq zq zq zq (Tryz.prog.types.size - 1) zq (Ux ha) (Ux hb)⟩
def Yb (l:List aG) (i:Nat):List (Int×Int):=((l.take i).filter jy).map fun o=>(o.key,o.arg)
def VM (l:List aG) (i:Nat):List (List FV):=(Yb l i).map fun p=>[fx p.1 p.2,.bool true]
theorem sJ (hi:i<l.length):Yb l (i+1)=Yb l i++if jy (nth l i)=true then [((nth l i).key,(nth l i).arg)] else []:=by
 unfold Yb;rw [Zj hi,List.filter_append,xM,← Zc hi];congr 1;by_cases h:jy (nth l i)=true <;> simp [h]
theorem tS (hi:i<l.length):VM l (i+1)=VM l i++if jy (nth l i)=true then [[fx (nth l i).key (nth l i).arg,.bool true]] else []:=by
 unfold VM;rw [sJ hi,xM];congr 1;split <;> rfl
theorem uL (ck:∀ o∈l,kl o) {p:Int×Int} (hp:p∈Yb l i):bq p.1∧bq p.2:=by
 obtain ⟨o,ho,rfl⟩:=zM.1 hp;have:=ck o (yF (List.mem_filter.1 ho).1);exact ⟨this.2.2.1,this.2.2.2.1⟩
theorem ug (ck:∀ o∈l,kl o):∀ row∈VM l i,∀ kf,row.head? = some kf→ZV Tryz.prog 92 kf:=fun row hr kf hk=>by
 obtain ⟨p,hp,rfl⟩:=zM.1 hr;have ho:=uL ck hp;injection hk with hk
 subst hk;exact oh ho.1 ho.2
theorem WY (h:(a,b)∉Yb l i):∀ row∈VM l i,row.head?≠some (fx a b):=fun row hr he=>by
 obtain ⟨p,hp,rfl⟩:=zM.1 hr;injection he with he
 unfold fx at he;injection he with he
 injection he with h1 h2
 injection h1 with _ h1
 injection h2 with h2 _
 injection h2 with _ h2
 obtain ⟨x,y⟩:=p;dsimp only at h1 h2;rw [h1,h2] at hp;exact h hp
theorem vt {B:Bool} (hB:decide ((a,b)∈Yb l i)=B):WE (VM l i) (fx a b) (.bool false) (.bool B) B:=by
 by_cases h:(a,b)∈Yb l i
 ·rw [decide_eq_true h] at hB;subst hB;exact .inl ⟨rfl,zM.2 ⟨(a,b),h,rfl⟩⟩
 ·rw [decide_eq_false h] at hB;subst hB;exact .inr ⟨rfl,rfl,WY h⟩
def jw (K:List Int) (l:List aG) (i:Nat):Bool:=(K.any fun x=>decide ((nth l i).k=x)) && (!jy (nth l i) || (!decide ((nth l i).arg=0) && !decide (((nth l i).key,(nth l i).arg)∈Yb l i)))
def jB (K:List Int) (l:List aG):Bool:=decide (YH l=0) && (List.range l.length).all (jw K l)
theorem uW {K:List Int} (hi:i<l.length) (h:jw K l i=false):jB K l=false:=by
 cases hd:jB K l with
 | false => rfl
 | true =>
  unfold jB at hd;rw [zC,zG] at hd;rw [hd.2 i (by simpa using hi)] at h;cases h
theorem VX (k:Int) (h1:2≤k) (h2:k≤7):zQ Tryz.prog 19 [.int .i64 k] .sh (.list 1 ((gj k).map yw)):=by
 have h3:jA k=.list 1 ((gj k).map yw):=by
  unfold jA;rw [if_neg];obtain rfl|rfl|rfl|rfl|rfl|rfl:k=2∨k=3∨k=4∨k=5∨k=6∨k=7:=by omega
  all_goals decide
 rw [← h3];exact XU k zc zc
theorem VA (k:Int) (h1:2≤k) (h2:k≤7) (l:List aG) (hl:l.length≤1000000) (ck:∀ o∈l,kl o):zQ Tryz.prog 20 [.int .i64 k,.list 8 (l.map aG.fv)] .fr (.bool (jB (gj k) l)):=by
 have gN:=VX k h1 h2;have hlen:(gj k).length≤1000000:=by
  unfold gj;split
  ·decide
  ·split
   ·decide
   ·split <;> decide
 generalize gj k=K at gN hlen;have oV:=sD l ck zc;obtain ⟨E,hE⟩:∃ E,jB K l=E:=⟨_,rfl⟩
 rw [hE];have ik:YH l≠0→E=false:=fun h=>by rw [← hE];unfold jB;rw [decide_eq_false h];rfl
 have oL:YH l=0→(∀ j,j<l.length→jw K l j=true)→E=true:=fun h hd=>by
  rw [← hE];unfold jB;rw [decide_eq_true h,Bool.true_and,zG];exact fun j hj=>hd j (by simpa using hj)
 have qF:∀ i,i<l.length→jw K l i=false→E=false:=fun i hi h=>by rw [← hE];exact uW hi h
 generalize YH l=C at oV ik oL;refine zj 46 Tryz.func20 Tryz.ntmps20 rfl ?_;change FW _ _ _ ⟨[(0,.int .i64 k),(1,.list 8 (l.map aG.fv))],[]⟩;refine za ?_;refine zy oV (by repeat (first|exact zh.nil|refine zh.cons zi ?_)) rfl rfl ?_;refine za ?_;refine FW.cond rfl (fun h=>?_) (fun h=>?_)
 ·obtain rfl:=ik (by simpa using h);refine za ?_;exact FW.ret ⟨.inl rfl,zg rfl rfl rfl rfl⟩
 have h0:C=0:=by simpa using h
 refine za ?_;refine FW.loop (fun i:Nat=>⟨[(0,.int .i64 k),(5,.omap 100 0),(12,.list 8 (l.map aG.fv)),(13,.int .i64 l.length),(14,.int .i64 i)],[(100,⟨0,.aX,90,0,VM l i⟩)]⟩) (fun i=>i≤l.length∧∀ j,j<i→jw K l j=true) (fun i=>l.length - i) 0 ⟨zN _,fun j hj=>absurd hj zc⟩ ?_ ?_
 ·exact (aC.cv [⟨100,some 11,1,⟨0,.aX,90,0,[]⟩⟩] zn zt)
 rintro i ⟨hi,df⟩;refine za ?_;refine FW.cond rfl (fun h=>?_) (fun h=>?_)
 ·have aM:i<l.length:=by simpa using h
  clear h;have step:jw K l i=true→∀ j,j<i+1→jw K l j=true:=fun h0 j hj=>by
   rcases xa j i with h1|h1
   ·exact df j h1
   ·have:j=i:=by omega
    subst this;exact h0
  have bad:=qF i aM;have ho:=ck _ (Ym aM);have hw:=Ys (nth l i);have j1:=tS aM;obtain ⟨o,o8⟩:∃ o,nth l i=o:=⟨_,rfl⟩
  unfold jw at step bad;rw [o8] at step bad ho j1 hw;have fh:=ug (i:=i) ck;have k6:=WG K o.k hlen;obtain ⟨B,hB⟩:∃ B,decide ((o.key,o.arg)∈Yb l i)=B:=⟨_,rfl⟩
  have jh:=vt hB;have dZ:B=false→∀ row∈VM l i,row.head?≠some (fx o.key o.arg):=fun h=>WY (of_decide_eq_false (hB.trans h));rw [hB] at step bad;generalize VM l i=R at j1 fh jh dZ;generalize (K.any fun x=>decide (o.k=x))=KB at k6 step bad;generalize jy o=WB at hw step bad j1;refine za ?_;rw [o8];refine yp ?_;refine zF gN (by repeat (first|exact zh.nil|refine zh.cons zi ?_)) rfl rfl ?_;refine zp ?_;refine xT k6 (by repeat (first|exact zh.nil|refine zh.cons zi ?_)) rfl rfl ?_;refine zp ?_;refine ⟨by kernel_rfl,?_⟩;skip;refine FW.cond rfl (fun h=>?_) (fun h=>?_)
  ·obtain rfl:KB=false:=by simpa using h
   obtain rfl:=bad rfl;refine za ?_;exact FW.ret ⟨.inl rfl,zg rfl rfl rfl rfl⟩
  obtain rfl:KB=true:=by simpa using h
  refine za ?_;refine zy hw (by repeat (first|exact zh.nil|refine zh.cons zi ?_)) rfl rfl ?_;refine za ?_;refine FW.cond rfl (fun h3=>?_) (fun h3=>?_)
  ·obtain rfl:WB=false:=by simpa using h3
   rw [if_neg zb,Zh] at j1;refine za ?_;refine ⟨i+1,⟨by omega,step rfl⟩,by omega,?_⟩;rw [j1];exact (aC.cv [⟨100,some 100,0,⟨0,.aX,90,0,R⟩⟩] zn zt)
  obtain rfl:WB=true:=by simpa using h3
  refine za ?_;refine yd (fun h4=>?_) (fun h4=>?_)
  ·obtain rfl:=bad (by rw [h4];rfl);refine za ?_;exact FW.ret ⟨.inl rfl,zg rfl rfl rfl rfl⟩
  refine za ?_;refine UL (e:=4) ql fh (oh ho.2.2.1 ho.2.2.2.1) jh rfl rfl zb rfl rfl rfl rfl rfl ⟨_,_,rfl,rfl,rfl⟩ ?_;refine za ?_;refine FW.cond rfl (fun h5=>?_) (fun h5=>?_)
  ·obtain rfl:B=true:=h5;obtain rfl:=bad (by rw [h4];rfl);refine za ?_;exact FW.ret ⟨.inl rfl,zg rfl rfl rfl rfl⟩
  obtain rfl:B=false:=h5;refine za ?_;refine yN ql fh (oh ho.2.2.1 ho.2.2.2.1) (.inr ⟨dZ rfl,rfl⟩) rfl rfl rfl rfl rfl rfl rfl ?_;refine za ?_;rw [if_pos rfl] at j1;refine ⟨i+1,⟨by omega,step (by rw [h4];rfl)⟩,by omega,?_⟩;rw [j1];exact (aC.cv [⟨100,some 100,0,⟨0,.aX,90,0,R++[[fx o.key o.arg,.bool true]]⟩⟩] zn zt)
 ·obtain rfl:i=l.length:=by simp at h;omega
  obtain rfl:=oL h0 df;refine za ?_;exact FW.ret ⟨.inl rfl,zg rfl rfl rfl rfl⟩
structure br where
 k:Int
 nd:Int:=0
 fk:Int:=0
 fa:Int:=0
 fb:Int:=0
 fn:Int:=0
 kids:List (List FV):=[]
 ops:List (List FV):=[]
 tr:List (List FV):=[]
 fl:List (List FV):=[]
 cl:Int:=0
 ar:Int:=0
 ed:List (List FV):=[]
def br.c (x:br):FV:=.agg [.int .i64 x.k,.int .i64 x.nd,.int .i64 x.fk,.int .i64 x.fa,.int .i64 x.fb,.int .i64 x.fn,.list 5 x.kids]
def br.e (x:br):FV:=.agg [.list 8 x.ops,.list 1 x.tr,.list 4 x.fl]
def br.v (x:br) (od:FV):FV:=.agg [.int .i64 x.k,.int .i64 x.cl,.int .i64 x.ar,od,.list 3 x.ed]
def br.x (x:br) (od:FV):FV:=.agg [.int .i64 x.k,.int .i64 x.nd,.int .i64 x.fk,.int .i64 x.fa,.int .i64 x.fb,.int .i64 x.fn,.list 5 x.kids,.list 8 x.ops,.list 1 x.tr,.list 4 x.fl,.int .i64 x.k,.int .i64 x.cl,.int .i64 x.ar,od,.list 3 x.ed]
def kj (od:FV):Prop:=od.one=true
theorem Xd:∀ row∈xQ.map YQ,∀ kf,row.head? = some kf→ZV Tryz.prog 72 kf:=oi UP
theorem sr {k cl:Int} (h:∀ p∈xQ,¬ (p.1=k∧p.2.1=cl)):∀ row∈xQ.map YQ,row.head?≠some (fx k cl):=fun row hr e=>by
 obtain ⟨p,hp,rfl⟩:=zM.1 hr;injection e with e
 exact h p hp (VE e)
theorem xx (x:br) (od:FV) (cn:kj od) (hk:1≤x.k∧x.k≤8) (bO:bq x.cl) (bd:Bool) (gN:(jA x.k=.nil∧bd=true)∨(jA x.k=.list 1 ((gj x.k).map yw)∧gj x.k≠[]∧zQ Tryz.prog 20 [.int .i64 x.k,.list 8 x.ops] .fr (.bool bd)))
  (known:Bool) (cU:known=false→∀ p∈xQ,¬ (p.1=x.k∧p.2.1=x.cl)) (sf pf:Nat) (sc pc:List FV) (j3:known=true→(x.k,x.cl,.agg [.fn sf sc,.fn pf pc])∈xQ) (bs bi bp:Bool)
  (hs:known=true→zQ Tryz.prog sf ([x.x od]++sc) .fr (.bool bs)) (hi:known=true→bs=true→zQ Tryz.prog 22 [x.x od] .fr (.bool bi)) (hp:known=true→bs=true→bi=true→zQ Tryz.prog pf ([x.x od]++pc) .fr (.bool bp))
  (E:Int) (oK:bd=false→E=22) (ik:bd=true→E=if known && (bs && bi) then (if bp then 0 else 31) else 30):zQ Tryz.prog 8 [x.c,x.e,x.v od] .fr (.int .i64 E):=by
 have gM:=XU x.k hk.1 hk.2;obtain ⟨k,nd,fk,fa,fb,fn,kids,ops,tr,fl,cl,ar,ed⟩:=x;obtain ⟨h1,h2⟩:=hk;have e7:bq k:=⟨by dsimp only at h1;omega,by dsimp only at h2;omega⟩
 unfold br.c br.e br.v;unfold br.x at hs hi hp;dsimp only at h1 h2 bO gN cU j3 hs hi hp gM ⊢;have jH:[FV.int .i64 k,.int .i64 cl,.int .i64 ar,od,.list 3 ed].all FV.one=true:=by simp only [Zg,Yw,show od.one=true from cn];rfl
 have kV:[FV.int .i64 k,.int .i64 nd,.int .i64 fk,.int .i64 fa,.int .i64 fb,.int .i64 fn,.list 5 kids,.list 8 ops,.list 1 tr,.list 4 fl,.int .i64 k,.int .i64 cl,.int .i64 ar,od,.list 3 ed].all FV.one=true:=by simp only [Zg,Yw,show od.one=true from cn];rfl
 rcases gN with ⟨hd,rfl⟩|⟨hd,bM,ja⟩
 all_goals rw [hd] at gM
 all_goals (
  refine zj 72 Tryz.func8 Tryz.ntmps8 rfl ?_;change FW _ _ _ ⟨[(0,_),(1,_),(2,_)],[]⟩;refine za ?_;refine zu.bn (yh rfl rfl jH rfl rfl) rfl rfl ?_;refine za ?_;refine yd (fun h=>absurd (of_decide_eq_true h) zc) (fun h3=>?_);rw [h3];refine za ?_;refine yd (fun h=>absurd (of_decide_eq_true h) zc) (fun h4=>?_);rw [h4];refine za ?_;refine FW.cond rfl (fun h=>absurd (of_decide_eq_true h) zd) (fun h5=>?_);refine za ?_;refine ZT gM (by repeat (first|exact zh.nil|refine zh.cons zi ?_)) rfl rfl ?_
  first
  | (
    refine zu.aj (td rfl rfl rfl (by simpa using bM)) rfl rfl ?_;refine za ?_;refine zy ja (by repeat (first|exact zh.nil|refine zh.cons zi ?_)) rfl ⟨_,_,rfl,rfl,rfl⟩ ?_;refine za ?_;refine FW.cond rfl (fun h=>?_) (fun h=>?_)
    (·
      obtain rfl:bd=false:=by simpa using h
      obtain rfl:=oK rfl;refine za ?_;exact FW.ret ⟨.inl rfl,zg rfl rfl rfl rfl⟩)
    obtain rfl:bd=true:=by simpa using h
    refine za ?_)
  | refine za ?_
  refine xn.agg rfl rfl jH rfl (Xo _ _) rfl ?_;refine xn.nil ?_;show zu _ _ _ ⟨(40,.agg [.int .i64 k,.int .i64 nd,.int .i64 fk,.int .i64 fa,.int .i64 fb,.int .i64 fn,.list 5 kids,.list 8 ops,.list 1 tr,.list 4 fl,.int .i64 k,.int .i64 cl,.int .i64 ar,od,.list 3 ed])::_,_⟩ _
  (repeat (first|refine zu.bn (Zl rfl rfl rfl rfl rfl) rfl rfl ?_))
  refine zu.dU (xu rfl rfl kV rfl rfl rfl rfl rfl) rfl ?_;refine za ?_;have ik:=ik rfl;clear jH kV hd gM h3 h4 h5 oK;refine FW.le (s':=⟨[(3,.ptr 103 0 0 0),(5,.ptr 105 0 0 0),(7,.ptr 107 0 0 0)],[(103,⟨0,.own,36,7,[[.int .i64 k,.int .i64 nd,.int .i64 fk,.int .i64 fa,.int .i64 fb,.int .i64 fn,.list 5 kids]]⟩),(105,⟨0,.own,43,5,[[.int .i64 k,.int .i64 cl,.int .i64 ar,od,.list 3 ed]]⟩),(107,⟨0,.own,64,15,[[.int .i64 k,.int .i64 nd,.int .i64 fk,.int .i64 fa,.int .i64 fb,.int .i64 fn,.list 5 kids,.list 8 ops,.list 1 tr,.list 4 fl,.int .i64 k,.int .i64 cl,.int .i64 ar,od,.list 3 ed]]⟩)]⟩) ?_ (aC.cv [⟨103,some 3,1,⟨0,.own,36,7,[[.int .i64 k,.int .i64 nd,.int .i64 fk,.int .i64 fa,.int .i64 fb,.int .i64 fn,.list 5 kids]]⟩⟩,⟨105,some 5,1,⟨0,.own,43,5,[[.int .i64 k,.int .i64 cl,.int .i64 ar,od,.list 3 ed]]⟩⟩,⟨107,some 7,1,⟨0,.own,64,15,[[.int .i64 k,.int .i64 nd,.int .i64 fk,.int .i64 fa,.int .i64 fb,.int .i64 fn,.list 5 kids,.list 8 ops,.list 1 tr,.list 4 fl,.int .i64 k,.int .i64 cl,.int .i64 ar,od,.list 3 ed]]⟩⟩] zn zt);refine yp ?_;refine zF sT (by repeat (first|exact zh.nil)) rfl rfl ?_;refine zp ?_;cases known
  (·
    obtain rfl:=ik;refine UF (e:=67) Ya rfl Xd (yM e7 bO) (.inr ⟨rfl,rfl,sr (cU rfl)⟩) rfl rfl rfl rfl rfl rfl rfl ?_;refine zp ?_;refine ⟨by kernel_rfl,?_⟩;refine FW.le (s':=⟨[(9,.bool false)],[]⟩) ?_ (aC.cv [] XS zt);refine za ?_;exact FW.ret ⟨.inl rfl,zg rfl rfl rfl rfl⟩)
  refine UF (e:=67) Ya rfl Xd (yM e7 bO) (.inl ⟨rfl,zM.2 ⟨_,j3 rfl,rfl⟩⟩) rfl rfl rfl rfl rfl rfl rfl ?_;refine zp ?_;refine ⟨by kernel_rfl,?_⟩;refine FW.le (s':=⟨[(7,.ptr 107 0 0 0),(8,.ptr 108 0 0 0),(9,.bool true)],[(107,⟨0,.own,64,15,[[.int .i64 k,.int .i64 nd,.int .i64 fk,.int .i64 fa,.int .i64 fb,.int .i64 fn,.list 5 kids,.list 8 ops,.list 1 tr,.list 4 fl,.int .i64 k,.int .i64 cl,.int .i64 ar,od,.list 3 ed]]⟩),(108,⟨0,.own,67,2,[[.fn sf sc,.fn pf pc]]⟩)]⟩) ?_ (aC.cv [⟨107,some 107,0,⟨0,.own,64,15,[[.int .i64 k,.int .i64 nd,.int .i64 fk,.int .i64 fa,.int .i64 fb,.int .i64 fn,.list 5 kids,.list 8 ops,.list 1 tr,.list 4 fl,.int .i64 k,.int .i64 cl,.int .i64 ar,od,.list 3 ed]]⟩⟩,⟨108,some 8,1,⟨0,.own,67,2,[[.fn sf sc,.fn pf pc]]⟩⟩] zn zt);have hs:=hs rfl;have hi:=hi rfl;have hp:=hp rfl;clear j3 cU;refine za ?_;refine YL rfl hs (by repeat (first|exact zh.nil|refine zh.cons zi ?_)) rfl ⟨_,_,rfl,rfl,rfl⟩ ?_;cases bs
  (·
    obtain rfl:=ik;refine za ?_;exact FW.ret ⟨.inl rfl,zg rfl rfl rfl rfl⟩)
  refine za ?_;refine zy (hi rfl) (by repeat (first|exact zh.nil|refine zh.cons zi ?_)) rfl ⟨_,_,rfl,rfl,rfl⟩ ?_;cases bi
  (·
    obtain rfl:=ik;refine za ?_;exact FW.ret ⟨.inl rfl,zg rfl rfl rfl rfl⟩)
  refine za ?_;refine YL rfl (hp rfl rfl) (by repeat (first|exact zh.nil|refine zh.cons zi ?_)) rfl rfl ?_;cases bp
  (·
    obtain rfl:=ik;refine za ?_;exact FW.ret ⟨.inl rfl,zg rfl rfl rfl rfl⟩)
  obtain rfl:=ik;refine za ?_;exact FW.ret ⟨.inl rfl,zg rfl rfl rfl rfl⟩)
theorem br.one (x:br) {od:FV} (h:od.one=true):[FV.int .i64 x.k,.int .i64 x.nd,.int .i64 x.fk,.int .i64 x.fa,.int .i64 x.fb,.int .i64 x.fn,.list 5 x.kids,.list 8 x.ops,.list 1 x.tr,.list 4 x.fl,.int .i64 x.k,.int .i64 x.cl,.int .i64 x.ar,od,.list 3 x.ed].all FV.one=true:=by
 simp only [Zg,Yw,h];rfl
def eb (od:FV) (n:Nat):Prop:=(od=.nil∧n=0)∨∃ es,od=.list 1 es∧es.length=n
theorem eb.ok {od:FV} {n:Nat} (h:eb od n):kj od:=by
 rcases h with ⟨rfl,_⟩|⟨es,rfl,_⟩ <;> rfl
theorem Yq (x:br) (od:FV) (n:Nat) (cn:eb od n) (o g:Int):zQ Tryz.prog 86 ([x.x od]++[vc (.int .i64 o),vc (.int .i64 g)]) .fr (.bool (decide ((n:Int)=o) && decide ((x.ed.length:Int)=g))):=by
 obtain ⟨m,hm⟩:∃ m,x.ed.length=m:=⟨_,rfl⟩
 rw [hm];unfold br.x vc;rcases cn with ⟨rfl,rfl⟩|⟨es,rfl,rfl⟩
 all_goals (
  refine zj 21 Tryz.func86 Tryz.ntmps86 rfl ?_;change FW _ _ _ ⟨[(0,_),(1,_),(2,_)],[]⟩;refine za ?_;refine yd (fun h=>?_) (fun h=>?_)
  (·
    rw [h];refine za ?_;rw [hm];exact FW.ret ⟨.inl rfl,zg rfl rfl (congrArg FV.bool (by simp at h;simp [h])) rfl⟩)
  rw [h];refine za ?_;exact FW.ret ⟨.inl rfl,zg rfl rfl (congrArg FV.bool (by simp at h;simp [h])) rfl⟩)
theorem sm (x:br) (od:FV) (cn:kj od):zQ Tryz.prog 40 ([x.x od]++[]) .fr (.bool (decide ((x.fl.length:Int)=0) && decide (x.ar=0))):=by
 have hA:=x.one cn;obtain ⟨m,hm⟩:∃ m,x.fl.length=m:=⟨_,rfl⟩
 rw [hm];unfold br.x;refine zj 14 Tryz.func40 Tryz.ntmps40 rfl ?_;change FW _ _ _ ⟨[(0,_)],[]⟩;refine yG ?_;refine zu.bn (yh rfl rfl hA rfl rfl) rfl rfl ?_;refine za ?_;refine yd (fun h=>?_) (fun h=>?_)
 ·rw [h];refine za ?_;exact FW.ret ⟨.inl rfl,zg rfl rfl (congrArg FV.bool (by rw [hm] at h;simp at h;simp [h])) rfl⟩
 ·rw [h];refine za ?_;exact FW.ret ⟨.inl rfl,zg rfl rfl (congrArg FV.bool (by rw [hm] at h;simp at h;simp [h])) rfl⟩
def dp (c:Int):List FV:=[.int .i64 0,.int .i64 0,.int .i64 0,.int .i64 c]
theorem sq (x:br) (a c:Int) (r:List Int) (bJ:x.fl=(c::r).map dp):zQ Tryz.prog 41 ([x.x (.list 1 [[.int .i64 a]])]++[]) .fr (.bool (decide (a=0) && decide (c=x.ar))):=by
 unfold br.x;rw [bJ];refine zj 22 Tryz.func41 Tryz.ntmps41 rfl ?_;change FW _ _ _ ⟨[(0,_)],[]⟩;refine yp ?_;refine nW (fun h=>?_) (fun h=>?_)
 ·rw [h];refine zp ?_;refine ⟨by kernel_rfl,?_⟩;skip;exact FW.ret ⟨.inl rfl,zg rfl rfl (congrArg FV.bool (by simp at h;simp [h])) rfl⟩
 ·rw [h];refine zp ?_;refine ⟨by kernel_rfl,?_⟩;skip;exact FW.ret ⟨.inl rfl,zg rfl rfl (congrArg FV.bool (by simp at h;simp [h])) rfl⟩
theorem Zm (lo hi i:Int):zQ Tryz.prog 67 ([.int .i64 i]++[vc (.int .i64 lo),vc (.int .i64 hi)]) .fr (.bool (decide (i<lo) || decide (i > hi))):=by
 unfold vc;refine zj 13 Tryz.func67 Tryz.ntmps67 rfl ?_;change FW _ _ _ ⟨[(0,_),(1,_),(2,_)],[]⟩;refine za ?_;refine yd (fun h=>?_) (fun h=>?_)
 ·rw [h];refine za ?_;exact FW.ret ⟨.inl rfl,zg rfl rfl rfl rfl⟩
 ·rw [h];refine za ?_;exact FW.ret ⟨.inl rfl,zg rfl rfl rfl rfl⟩
theorem Yj (l:List Int) (hl:l≠[]) (hlen:l.length≤1000000):zQ Tryz.prog 65 [.list 1 (l.map yw)] (.ow 3 1) (.list 1 (l.map yw)):=by
 refine zj 8 Tryz.func65 Tryz.ntmps65 rfl ?_;change FW _ _ _ ⟨[(0,.list 1 (l.map yw))],[]⟩;refine za ?_;refine zu.aj (s5 rfl rfl rfl (by simpa using hl)) rfl rfl ?_;refine za ?_;refine FW.ret ⟨.inl rfl,vQ rfl rfl rfl zd zb rfl (fun e he=>by obtain ⟨b,_,rfl⟩:=zM.1 he;rfl)⟩
theorem Yk:zQ Tryz.prog 65 [.nil] .fr .nil:=by
 refine zj 8 Tryz.func65 Tryz.ntmps65 rfl ?_;change FW _ _ _ ⟨[(0,.nil)],[]⟩;refine za ?_;exact FW.ret ⟨.inl rfl,zg rfl rfl rfl rfl⟩
theorem uk (a b c:Int) (os es:List (List FV)) (h1:os.length≤1000000) (h2:es.length≤1000000):zQ Tryz.prog 24 [.agg [.int .i64 a,.int .i64 b,.int .i64 c,.list 1 os,.list 3 es]] .fr (.int .i64 ((os.length:Int)+es.length)):=by
 refine zj 12 Tryz.func24 Tryz.ntmps24 rfl ?_;change FW _ _ _ ⟨[(0,_)],[]⟩;refine za ?_;exact FW.ret ⟨.inl rfl,zg rfl rfl rfl rfl⟩
def lI (x:br):Int:=if x.k=8 then -1 else 0
def lg (x:br):Int:=if x.k=1 then (x.fl.length:Int) - 1 else if x.k=8 then (x.tr.length:Int) - 1 else (x.ops.length:Int) - 1
def gx (x:br) (i:Int):Bool:=decide (i<lI x) || decide (i > lg x)
def bT (O:List Int):FV:=if O=[] then .nil else .list 1 (O.map yw)
def cN (E:List (Int×Int×Int)):List Int:=E.flatMap fun e=>[e.1,e.2.1]
def ki (e:Int×Int×Int):List FV:=[.int .i64 e.1,.int .i64 e.2.1,.int .i64 e.2.2]
theorem Vs {E:List (Int×Int×Int)} (hi:i<E.length):cN (E.take (i+1))=cN (E.take i)++[(nth E i).1,(nth E i).2.1]:=by
 unfold cN;rw [Zj hi,List.flatMap_append,Zc hi];simp
theorem n2 (E:List (Int×Int×Int)):(cN E).length=2 * E.length:=by
 unfold cN
 induction E with
 | nil => rfl
 | cons e E ih => rw [ZL, ye, ih]; simp; omega
theorem VB (x:br) (O:List Int) (E:List (Int×Int×Int)) (hE:x.ed=E.map ki) (hO:O.length≤100000) (kp:E.length≤100000) (h1:x.fl.length≤1000000) (h2:x.tr.length≤1000000) (h3:x.ops.length≤1000000) (c0:x.k=1):zQ Tryz.prog 22 [x.x (bT O)] .fr (.bool (!((O++cN E).any (gx x)))):=by
 have g4:gx x=fun i=>decide (i<0) || decide (i > (x.fl.length:Int) - 1):=by
  funext i;unfold gx lI lg;simp [c0]
 rw [g4];have ck:=Zm (0) ((x.fl.length:Int) - 1);generalize ct:(x.fl.length:Int) - 1=mx at ck ⊢;obtain ⟨A,hA⟩:∃ A:Nat→List Int,A=fun i=>O++cN (E.take i):=⟨_,rfl⟩
 have dv:A 0=O:=by rw [hA];simp [cN]
 have fc:∀ i,i<E.length→A (i+1)=A i++[(nth E i).1,(nth E i).2.1]:=fun i hi=>by rw [hA];show O++cN (E.take (i+1))=_;rw [Vs hi,← zD]
 have iW:O++cN E=A E.length:=by rw [hA];show _=O++cN (E.take E.length);rw [ZO]
 have iX:∀ i,i≤E.length→(A i).length=O.length+2 * i:=fun i hi=>by rw [hA];show (O++cN (E.take i)).length=_;rw [ye,n2,zT,yI hi]
 rw [iW];clear hA iW;have k7:=xb (A E.length) 67 [vc (.int .i64 0),vc (.int .i64 mx)] _ (by rw [iX _ (zm _)];omega) (fun o _=>ck o);unfold br.x bT;rw [hE];rw [c0];by_cases fB:O=[]
 all_goals simp only [fB,if_true,if_false]
 all_goals (
  refine zj 56 Tryz.func22 Tryz.ntmps22 rfl ?_;change FW _ _ _ ⟨[(0,_)],[]⟩;refine yp ?_;refine ⟨by kernel_rfl,?_⟩;refine za ?_
  first
  | refine VL (Yj O fB zc) (by repeat (first|exact zh.nil|refine zh.cons zi ?_)) (zx _) rfl rfl rfl ?_
  | refine zy Yk (by repeat (first|exact zh.nil|refine zh.cons zi ?_)) rfl rfl ?_
  refine za ?_;rw [ct];refine FW.loop (fun i:Nat=>⟨[(3,.ptr 103 0 0 0),(4,.ptr 104 0 0 0),(5,.own 100 0 0 (A i).length),(38,.list 3 (E.map ki)),(39,.int .i64 E.length),(40,.int .i64 i)],[(100,⟨0,.own,3,1,(A i).map yw⟩),(103,⟨0,.own,3,1,[[.int .i64 0]]⟩),(104,⟨0,.own,3,1,[[.int .i64 mx]]⟩)]⟩) (fun i=>i≤E.length) (fun i=>E.length - i) 0 (zN _) ?_ ?_
  (·
    dsimp only;rw [dv]
    first
    | (rw [fB]; exact (aC.cv [⟨100, none, 0, ⟨0, .own, 3, 1, []⟩⟩, ⟨103, some 3, 1, ⟨0, .own, 3, 1, [[.int .i64 0]]⟩⟩, ⟨104, some 4, 1, ⟨0, .own, 3, 1, [[.int .i64 mx]]⟩⟩] zn zt))
    | exact (aC.cv [⟨100, some 34, 1, ⟨0, .own, 3, 1, O.map yw⟩⟩, ⟨103, some 3, 1, ⟨0, .own, 3, 1, [[.int .i64 0]]⟩⟩, ⟨104, some 4, 1, ⟨0, .own, 3, 1, [[.int .i64 mx]]⟩⟩] zn zt))
  intro i hi;have oJ:=iX i hi;refine za ?_;refine FW.cond rfl (fun h=>?_) (fun h=>?_)
  (·
    have aM:i<E.length:=by simpa using h
    clear h;have fc:=fc i aM;obtain ⟨e,he⟩:∃ e,nth E i=e:=⟨_,rfl⟩
    rw [he] at fc;obtain ⟨e1,e2,e3⟩:=e;refine za ?_;rw [he];skip;refine zw (es:=[[.int .i64 e1],[.int .i64 e2]]) rfl rfl rfl (by refine zY.int rfl rfl ?_;refine zY.int rfl rfl ?_;exact zY.nil) rfl rfl rfl rfl rfl ?_;refine za ?_;refine ⟨i+1,by omega,by omega,?_⟩;dsimp only;rw [fc,xM];exact (aC.cv [⟨100,some 50,0+1,⟨0,.own,3,1,(A i).map yw++[e1,e2].map yw⟩⟩,⟨103,some 103,0,⟨0,.own,3,1,[[.int .i64 0]]⟩⟩,⟨104,some 104,0,⟨0,.own,3,1,[[.int .i64 mx]]⟩⟩] zn zt))
  obtain rfl:i=E.length:=by simp at h;omega
  refine Zw ?_;refine zu.le ?_ (aC.bx 3 rfl rfl);refine zu.le ?_ (aC.bx 4 rfl rfl);refine za ?_;refine zy k7 XD rfl rfl ?_;refine za ?_;exact FW.ret ⟨.inl rfl,zg rfl rfl rfl rfl⟩)
theorem VC (x:br) (O:List Int) (E:List (Int×Int×Int)) (hE:x.ed=E.map ki) (hO:O.length≤100000) (kp:E.length≤100000) (h1:x.fl.length≤1000000) (h2:x.tr.length≤1000000) (h3:x.ops.length≤1000000) (jd:x.k=8):zQ Tryz.prog 22 [x.x (bT O)] .fr (.bool (!((O++cN E).any (gx x)))):=by
 have g4:gx x=fun i=>decide (i < -1) || decide (i > (x.tr.length:Int) - 1):=by
  funext i;unfold gx lI lg;simp [jd]
 rw [g4];have ck:=Zm (-1) ((x.tr.length:Int) - 1);obtain ⟨lo,cS⟩:∃ lo:Int,(-1)=lo:=⟨_,rfl⟩
 rw [cS] at ck ⊢;generalize ct:(x.tr.length:Int) - 1=mx at ck ⊢;obtain ⟨A,hA⟩:∃ A:Nat→List Int,A=fun i=>O++cN (E.take i):=⟨_,rfl⟩
 have dv:A 0=O:=by rw [hA];simp [cN]
 have fc:∀ i,i<E.length→A (i+1)=A i++[(nth E i).1,(nth E i).2.1]:=fun i hi=>by rw [hA];show O++cN (E.take (i+1))=_;rw [Vs hi,← zD]
 have iW:O++cN E=A E.length:=by rw [hA];show _=O++cN (E.take E.length);rw [ZO]
 have iX:∀ i,i≤E.length→(A i).length=O.length+2 * i:=fun i hi=>by rw [hA];show (O++cN (E.take i)).length=_;rw [ye,n2,zT,yI hi]
 rw [iW];clear hA iW;have k7:=xb (A E.length) 67 [vc (.int .i64 lo),vc (.int .i64 mx)] _ (by rw [iX _ (zm _)];omega) (fun o _=>ck o);unfold br.x bT;rw [hE];rw [jd];by_cases fB:O=[]
 all_goals simp only [fB,if_true,if_false]
 all_goals (
  refine zj 56 Tryz.func22 Tryz.ntmps22 rfl ?_;change FW _ _ _ ⟨[(0,_)],[]⟩;refine yp ?_;refine ⟨by kernel_rfl,?_⟩;refine za ?_;refine yp ?_;refine ⟨by kernel_rfl,?_⟩;refine za ?_
  first
  | refine VL (Yj O fB zc) (by repeat (first|exact zh.nil|refine zh.cons zi ?_)) (zx _) rfl rfl rfl ?_
  | refine zy Yk (by repeat (first|exact zh.nil|refine zh.cons zi ?_)) rfl rfl ?_
  refine za ?_;rw [ct];rw [cS];refine FW.loop (fun i:Nat=>⟨[(3,.ptr 103 0 0 0),(4,.ptr 104 0 0 0),(5,.own 100 0 0 (A i).length),(38,.list 3 (E.map ki)),(39,.int .i64 E.length),(40,.int .i64 i)],[(100,⟨0,.own,3,1,(A i).map yw⟩),(103,⟨0,.own,3,1,[[.int .i64 lo]]⟩),(104,⟨0,.own,3,1,[[.int .i64 mx]]⟩)]⟩) (fun i=>i≤E.length) (fun i=>E.length - i) 0 (zN _) ?_ ?_
  (·
    dsimp only;rw [dv]
    first
    | (rw [fB]; exact (aC.cv [⟨100, none, 0, ⟨0, .own, 3, 1, []⟩⟩, ⟨103, some 3, 1, ⟨0, .own, 3, 1, [[.int .i64 lo]]⟩⟩, ⟨104, some 4, 1, ⟨0, .own, 3, 1, [[.int .i64 mx]]⟩⟩] zn zt))
    | exact (aC.cv [⟨100, some 34, 1, ⟨0, .own, 3, 1, O.map yw⟩⟩, ⟨103, some 3, 1, ⟨0, .own, 3, 1, [[.int .i64 lo]]⟩⟩, ⟨104, some 4, 1, ⟨0, .own, 3, 1, [[.int .i64 mx]]⟩⟩] zn zt))
  intro i hi;have oJ:=iX i hi;refine za ?_;refine FW.cond rfl (fun h=>?_) (fun h=>?_)
  (·
    have aM:i<E.length:=by simpa using h
    clear h;have fc:=fc i aM;obtain ⟨e,he⟩:∃ e,nth E i=e:=⟨_,rfl⟩
    rw [he] at fc;obtain ⟨e1,e2,e3⟩:=e;refine za ?_;rw [he];skip;refine zw (es:=[[.int .i64 e1],[.int .i64 e2]]) rfl rfl rfl (by refine zY.int rfl rfl ?_;refine zY.int rfl rfl ?_;exact zY.nil) rfl rfl rfl rfl rfl ?_;refine za ?_;refine ⟨i+1,by omega,by omega,?_⟩;dsimp only;rw [fc,xM];exact (aC.cv [⟨100,some 50,0+1,⟨0,.own,3,1,(A i).map yw++[e1,e2].map yw⟩⟩,⟨103,some 103,0,⟨0,.own,3,1,[[.int .i64 lo]]⟩⟩,⟨104,some 104,0,⟨0,.own,3,1,[[.int .i64 mx]]⟩⟩] zn zt))
  obtain rfl:i=E.length:=by simp at h;omega
  refine Zw ?_;refine zu.le ?_ (aC.bx 3 rfl rfl);refine zu.le ?_ (aC.bx 4 rfl rfl);refine za ?_;refine zy k7 XD rfl rfl ?_;refine za ?_;exact FW.ret ⟨.inl rfl,zg rfl rfl rfl rfl⟩)
theorem VD (x:br) (O:List Int) (E:List (Int×Int×Int)) (hE:x.ed=E.map ki) (hO:O.length≤100000) (kp:E.length≤100000) (h1:x.fl.length≤1000000) (h2:x.tr.length≤1000000) (h3:x.ops.length≤1000000) (c0:x.k≠1) (jd:x.k≠8):zQ Tryz.prog 22 [x.x (bT O)] .fr (.bool (!((O++cN E).any (gx x)))):=by
 have g4:gx x=fun i=>decide (i<0) || decide (i > (x.ops.length:Int) - 1):=by
  funext i;unfold gx lI lg;simp [c0,jd]
 rw [g4];have ck:=Zm (0) ((x.ops.length:Int) - 1);generalize ct:(x.ops.length:Int) - 1=mx at ck ⊢;obtain ⟨A,hA⟩:∃ A:Nat→List Int,A=fun i=>O++cN (E.take i):=⟨_,rfl⟩
 have dv:A 0=O:=by rw [hA];simp [cN]
 have fc:∀ i,i<E.length→A (i+1)=A i++[(nth E i).1,(nth E i).2.1]:=fun i hi=>by rw [hA];show O++cN (E.take (i+1))=_;rw [Vs hi,← zD]
 have iW:O++cN E=A E.length:=by rw [hA];show _=O++cN (E.take E.length);rw [ZO]
 have iX:∀ i,i≤E.length→(A i).length=O.length+2 * i:=fun i hi=>by rw [hA];show (O++cN (E.take i)).length=_;rw [ye,n2,zT,yI hi]
 rw [iW];clear hA iW;have k7:=xb (A E.length) 67 [vc (.int .i64 0),vc (.int .i64 mx)] _ (by rw [iX _ (zm _)];omega) (fun o _=>ck o);unfold br.x bT;rw [hE];by_cases fB:O=[]
 all_goals simp only [fB,if_true,if_false]
 all_goals (
  refine zj 56 Tryz.func22 Tryz.ntmps22 rfl ?_;change FW _ _ _ ⟨[(0,_)],[]⟩;refine yp ?_;refine ⟨by kernel_rfl,?_⟩;refine za ?_;refine FW.fz (by show FV.bool (decide (x.k=1))=_;rw [decide_eq_false c0]) ?_;refine za ?_;refine FW.fz (by show FV.bool (decide (x.k=8))=_;rw [decide_eq_false jd]) ?_;refine za ?_
  first
  | refine VL (Yj O fB zc) (by repeat (first|exact zh.nil|refine zh.cons zi ?_)) (zx _) rfl rfl rfl ?_
  | refine zy Yk (by repeat (first|exact zh.nil|refine zh.cons zi ?_)) rfl rfl ?_
  refine za ?_;rw [ct];refine FW.loop (fun i:Nat=>⟨[(3,.ptr 103 0 0 0),(4,.ptr 104 0 0 0),(5,.own 100 0 0 (A i).length),(38,.list 3 (E.map ki)),(39,.int .i64 E.length),(40,.int .i64 i)],[(100,⟨0,.own,3,1,(A i).map yw⟩),(103,⟨0,.own,3,1,[[.int .i64 0]]⟩),(104,⟨0,.own,3,1,[[.int .i64 mx]]⟩)]⟩) (fun i=>i≤E.length) (fun i=>E.length - i) 0 (zN _) ?_ ?_
  (·
    dsimp only;rw [dv]
    first
    | (rw [fB]; exact (aC.cv [⟨100, none, 0, ⟨0, .own, 3, 1, []⟩⟩, ⟨103, some 3, 1, ⟨0, .own, 3, 1, [[.int .i64 0]]⟩⟩, ⟨104, some 4, 1, ⟨0, .own, 3, 1, [[.int .i64 mx]]⟩⟩] zn zt))
    | exact (aC.cv [⟨100, some 34, 1, ⟨0, .own, 3, 1, O.map yw⟩⟩, ⟨103, some 3, 1, ⟨0, .own, 3, 1, [[.int .i64 0]]⟩⟩, ⟨104, some 4, 1, ⟨0, .own, 3, 1, [[.int .i64 mx]]⟩⟩] zn zt))
  intro i hi;have oJ:=iX i hi;refine za ?_;refine FW.cond rfl (fun h=>?_) (fun h=>?_)
  (·
    have aM:i<E.length:=by simpa using h
    clear h;have fc:=fc i aM;obtain ⟨e,he⟩:∃ e,nth E i=e:=⟨_,rfl⟩
    rw [he] at fc;obtain ⟨e1,e2,e3⟩:=e;refine za ?_;rw [he];skip;refine zw (es:=[[.int .i64 e1],[.int .i64 e2]]) rfl rfl rfl (by refine zY.int rfl rfl ?_;refine zY.int rfl rfl ?_;exact zY.nil) rfl rfl rfl rfl rfl ?_;refine za ?_;refine ⟨i+1,by omega,by omega,?_⟩;dsimp only;rw [fc,xM];exact (aC.cv [⟨100,some 50,0+1,⟨0,.own,3,1,(A i).map yw++[e1,e2].map yw⟩⟩,⟨103,some 103,0,⟨0,.own,3,1,[[.int .i64 0]]⟩⟩,⟨104,some 104,0,⟨0,.own,3,1,[[.int .i64 mx]]⟩⟩] zn zt))
  obtain rfl:i=E.length:=by simp at h;omega
  refine Zw ?_;refine zu.le ?_ (aC.bx 3 rfl rfl);refine zu.le ?_ (aC.bx 4 rfl rfl);refine za ?_;refine zy k7 XD rfl rfl ?_;refine za ?_;exact FW.ret ⟨.inl rfl,zg rfl rfl rfl rfl⟩)
theorem ZA (x:br) (O:List Int) (E:List (Int×Int×Int)) (hE:x.ed=E.map ki) (hO:O.length≤100000) (kp:E.length≤100000) (h1:x.fl.length≤1000000) (h2:x.tr.length≤1000000) (h3:x.ops.length≤1000000):zQ Tryz.prog 22 [x.x (bT O)] .fr (.bool (!((O++cN E).any (gx x)))):=by
 by_cases c0:x.k=1
 ·exact VB x O E hE hO kp h1 h2 h3 c0
 ·by_cases jd:x.k=8
  ·exact VC x O E hE hO kp h1 h2 h3 jd
  ·exact VD x O E hE hO kp h1 h2 h3 c0 jd
end
end Go.Proofs.YtedkppfghdipdaaGreatDoor
