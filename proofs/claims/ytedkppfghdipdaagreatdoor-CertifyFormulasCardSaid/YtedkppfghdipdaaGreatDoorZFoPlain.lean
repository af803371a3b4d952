/-
  Lemmas, in parts.
-/
import Derived.Test.YtedkppfghdipdaaGreatDoorZA
import Derived.Test.YtedkppfghdipdaaGreatDoorZB
import Derived.Test.YtedkppfghdipdaaGreatDoorZC
import Derived.Lib.SliceRun
namespace Go.Proofs.YtedkppfghdipdaaGreatDoor
set_option linter.unusedVariables false
set_option maxHeartbeats 16000000
variable {i t:Nat} {r:List (List Int)}
inductive Fo where
 | mk (k a b n:Int) (ks:List Fo)
def Fo.k:Fo→Int|.mk k _ _ _ _=>k
def Fo.a:Fo→Int|.mk _ a _ _ _=>a
def Fo.b:Fo→Int|.mk _ _ b _ _=>b
def Fo.n:Fo→Int|.mk _ _ _ n _=>n
def Fo.ks:Fo→List Fo|.mk _ _ _ _ ks=>ks
theorem Fo.induct {P:Fo→Prop} (h:∀ k a b n ks,(∀ f∈ks,P f)→P (.mk k a b n ks)) (f:Fo):P f:=
 Fo.rec (motive_1:=P) (motive_2:=fun ks=>∀ f∈ks,P f) (fun k a b n ks ih=>h k a b n ks ih) (fun _ hf=>absurd hf (Za)) (fun f ks hf kj g hg=>by
  rcases zT.1 hg with rfl|hg
  ·exact hf
  ·exact kj g hg) f
mutual
def Yi:Fo→Fo→Bool
 | .mk k a b n ks, .mk k' a' b' n' ck => decide (k=k') && (decide (a=a') && (decide (b=b') && (decide (n=n') && Wl ks ck)))
def Wl:List Fo→List Fo→Bool
 | [], [] => true
 | f :: fs, g :: gs => Yi f g && Wl fs gs
 | _, _ => false
end
theorem Vs {ks:List Fo} (h:∀ f∈ks,∀ g,Yi f g=true↔f=g):∀ ck,Wl ks ck=true↔ks=ck:=by
 induction ks with
 | nil => intro ck; cases ck <;> simp [Wl]
 | cons f fs ih=>
  intro ck;cases ck with
  | nil => simp [Wl]
  | cons g gs =>
   rw [Wl,zU,h f (XC ..),ih (fun x hx=>h x (Yg _ hx))];simp
theorem Zc (f g:Fo):Yi f g=true↔f=g:=by
 induction f using Fo.induct generalizing g with
 | h k a b n ks ih =>
  obtain ⟨k',a',b',n',ck⟩:=g;rw [Yi];simp only [zU,decide_eq_true_eq,Vs ih,Fo.mk.injEq]
def fT:Fo:=.mk 3 0 0 0 []
def fF:Fo:=.mk 4 0 0 0 []
def Wt (b:Bool):Fo:=if b then fT else fF
def Fo.cst (f:Fo):Bool:=(decide (f.k=3) || decide (f.k=4)) && decide (f.ks=[])
instance:DecidableEq Fo:=fun f g=>decidable_of_iff _ (Zc f g)
def bW (acc xs:List Fo):List Fo:=xs.foldl (fun l f=>if l.any (Yi f) then l else l++[f]) acc
def yv (k:Int) (kids:List Fo):List Fo:=kids.flatMap fun f=>if f.k=k then f.ks else [f]
def gI (k:Int):Fo:=Wt (decide (k=4))
def iA (k:Int):List Fo→Fo
 | [x] => x
 | l => .mk k 0 0 0 l
def xA (k:Int) (kids:List Fo):Fo:=if (bW [] (yv k kids)).any (fun f=>Yi f (gI k)) then gI k else iA k (bW [] (yv k kids))
def gF (k:Int):Int:=if k=3 then 4 else 3
def lI (k:Int) (kids:List Fo):Fo:=
 match (yv k kids).find? (fun f=>decide (f.k=gF k) && decide (f.ks=[])) with
 | some f => f
 | none => iA k (bW [] (yv k kids))
theorem pU {acc xs:List Fo} {g:Fo}:g∈bW acc xs↔g∈acc∨g∈xs:=by
 unfold bW
 induction xs generalizing acc with
 | nil => simp
 | cons f xs ih=>
  rw [rR,ih];by_cases h:acc.any (Yi f)=true
  ·rw [if_pos h];obtain ⟨y,hy,e⟩:=Yb.1 h;have e:=(Zc f y).1 e;constructor
   ·rintro (h|h)
    ·exact .inl h
    ·exact .inr (Yg _ h)
   ·rintro (h|h)
    ·exact .inl h
    ·rcases zT.1 h with rfl|h
     ·rw [e];exact .inl hy
     ·exact .inr h
  ·rw [if_neg h];simp only [yT,zT,Za,or_false];constructor
   ·rintro ((h|h)|h)
    ·exact .inl h
    ·exact .inr (.inl h)
    ·exact .inr (.inr h)
   ·rintro (h|h|h)
    ·exact .inl (.inl h)
    ·exact .inl (.inr h)
    ·exact .inr h
inductive Wf:Fo→Prop where
 | var (a b n:Int) (ha:0 ≤ a) (hb:0 ≤ b) (dc:b ≤ 2):Wf (.mk 1 a b n [])
 | un (k:Int) (f:Fo) (hk:k=2 ∨ k=5 ∨ k=7 ∨ k=8) (h:Wf f):Wf (.mk k 0 0 0 [f])
 | bG (f g:Fo) (hf:Wf f) (hg:Wf g):Wf (.mk 6 0 0 0 [f, g])
 | many (k:Int) (ks:List Fo) (hk:k=3 ∨ k=4) (h:∀ f ∈ ks, Wf f):Wf (.mk k 0 0 0 ks)
theorem Wf.lR {f:Fo} (h:Wf f) {k:Int} (hk:k=3∨k=4) (h1:f.k=k) (h2:f.ks=[]):f=.mk k 0 0 0 []:=by
 cases h with
 | var a b n => simp only [Fo.k] at h1; omega
 | un k' f eE => simp only [Fo.ks] at h2; cases h2
 | bG f g => simp only [Fo.ks] at h2; cases h2
 | many k' ks => simp only [Fo.k, Fo.ks] at h1 h2; rw [h1, h2]
theorem Wf.kids {f:Fo} (h:Wf f):∀ g∈f.ks,Wf g:=by
 cases h with
 | var a b n => intro g hg; cases hg
 | un k f hk hf => intro g hg; simp only [Fo.ks, yf] at hg; rw [hg]; exact hf
 | bG f g hf hg => intro x hx; simp only [Fo.ks, zT, Za, or_false] at hx; rcases hx with rfl|rfl <;> assumption
 | many k ks hk kj => exact kj
theorem vI {k:Int} {kids:List Fo} (h:∀ f∈kids,Wf f):∀ f∈yv k kids,Wf f:=by
 intro f hf;obtain ⟨g,hg,hf⟩:=rU.1 hf;by_cases hk:g.k=k
 ·rw [if_pos hk] at hf;exact (h g hg).kids f hf
 ·rw [if_neg hk,yf] at hf;rw [hf];exact h g hg
theorem Ff (k:Int):Wf (gI k):=by
 unfold gI Wt;split
 ·exact .many 3 [] (.inl rfl) (fun _ h=>absurd h (Za))
 ·exact .many 4 [] (.inr rfl) (fun _ h=>absurd h (Za))
theorem EZ {k:Int} {l:List Fo} (hk:k=3∨k=4) (h:∀ f∈l,Wf f):Wf (iA k l):=by
 unfold iA;split
 ·exact h _ (rX _)
 ·exact .many k _ hk h
theorem ss {k:Int} {kids:List Fo} (hk:k=3∨k=4) (h:∀ f∈kids,Wf f):Wf (xA k kids):=by
 unfold xA;split
 ·exact Ff k
 ·refine EZ hk fun f hf=>?_;rcases pU.1 hf with hf|hf
  ·cases hf
  ·exact vI h f hf
theorem ED {k:Int} {kids:List Fo} (hk:k=3∨k=4) (h:∀ f∈kids,Wf f):lI k kids=xA k kids:=by
 have jB:gI k=.mk (gF k) 0 0 0 []:=by rcases hk with rfl|rfl <;> rfl
 have ho:gF k=3∨gF k=4:=by rcases hk with rfl|rfl <;> simp [gF]
 unfold lI xA;have hw:=vI (k:=k) h;generalize yv k kids=xs at hw ⊢;have fu:(bW [] xs).any (fun f=>Yi f (gI k))=true↔gI k∈xs:=by
  rw [Yb];constructor
  ·rintro ⟨f,hf,e⟩;rw [(Zc _ _).1 e] at hf;rcases pU.1 hf with h|h
   ·cases h
   ·exact h
  ·exact fun hf=>⟨gI k,pU.2 (.inr hf),(Zc _ _).2 rfl⟩
 cases qP:xs.find? (fun f=>decide (f.k=gF k) && decide (f.ks=[])) with
 | some f =>
  have hf:=rW qP;have hp:=se qP;rw [zU,decide_eq_true_eq,decide_eq_true_eq] at hp;have he:=(hw f hf).lR ho hp.1 hp.2;rw [if_pos (fu.2 (by rw [jB,← he];exact hf)),jB];exact he
 | none =>
  rw [if_neg];rw [fu];intro hf;have:=sb.1 qP _ hf;rw [jB] at this;simp [Fo.k,Fo.ks] at this
instance:Inhabited Fo:=⟨fT⟩
def yM (f:Fo) (kids:List Fo):Fo:=
 if f.k=3∨f.k=4 then xA f.k kids
 else if f.k=2 then (if (nth kids 0).cst then Wt (decide ((nth kids 0).k=4)) else if (nth kids 0).k=2 then nth (nth kids 0).ks 0 else .mk f.k f.a f.b f.n kids)
 else if f.k=6 then (if (nth kids 1).cst || Yi (nth kids 0) fF then nth kids 1 else .mk f.k f.a f.b f.n kids)
 else if f.k=5∨f.k=7∨f.k=8 then (if (nth kids 0).cst then nth kids 0 else .mk f.k f.a f.b f.n kids)
 else .mk f.k f.a f.b f.n kids
mutual
def zE:Fo→Fo
 | .mk k a b n ks => yM (.mk k a b n ks) (pY ks)
def pY:List Fo→List Fo
 | [] => []
 | f :: fs => zE f :: pY fs
end
theorem EW (ks:List Fo):pY ks=ks.map zE:=by
 induction ks with
 | nil => rfl
 | cons f fs ih => rw [pY, ih]; rfl
theorem Zs (k a b n:Int) (ks:List Fo):zE (.mk k a b n ks)=yM (.mk k a b n ks) (ks.map zE):=by
 rw [zE,EW]
def g9 (vs:List Int) (a:Int):Int:=if a<vs.length then nth vs a.toNat else 0
def ky (b v n:Int):Bool:=if b=0 then decide (v<n) else if b=1 then decide (v=n) else decide (v > n)
def pa (vs:List Int) (f:Fo) (ps:List Fo):Fo:=
 if f.k=1 then Wt (ky f.b (g9 vs f.a) f.n)
 else if f.k=5 then zE (nth f.ks 0)
 else if f.k=7 then xA 3 [nth ps 0,zE f]
 else if f.k=8 then xA 4 [nth ps 0,zE f]
 else if f.k=6 then xA 4 [nth ps 1,xA 3 [nth ps 0,zE f]]
 else yM f ps
mutual
def yw (vs:List Int):Fo→Fo
 | .mk k a b n ks => pa vs (.mk k a b n ks) (qe vs ks)
def qe (vs:List Int):List Fo→List Fo
 | [] => []
 | f :: fs => yw vs f :: qe vs fs
end
theorem DG (vs:List Int) (ks:List Fo):qe vs ks=ks.map (yw vs):=by
 induction ks with
 | nil => rfl
 | cons f fs ih => rw [qe, ih]; rfl
theorem ZJ (vs:List Int) (k a b n:Int) (ks:List Fo):yw vs (.mk k a b n ks)=pa vs (.mk k a b n ks) (ks.map (yw vs)):=by
 rw [yw,DG]
def pg (vs:List Int) (f:Fo) (ps:List Fo):Fo:=
 if f.k=1 then Wt (ky f.b (g9 vs f.a) f.n)
 else if f.k=5 then nth f.ks 0
 else if f.k=7 then .mk 3 0 0 0 [nth ps 0,f]
 else if f.k=8 then .mk 4 0 0 0 [nth ps 0,f]
 else if f.k=6 then .mk 4 0 0 0 [nth ps 1,.mk 3 0 0 0 [nth ps 0,f]]
 else .mk f.k 0 0 0 ps
mutual
def yW (vs:List Int):Fo→Fo
 | .mk k a b n ks => pg vs (.mk k a b n ks) (pZ vs ks)
def pZ (vs:List Int):List Fo→List Fo
 | [] => []
 | f :: fs => yW vs f :: pZ vs fs
end
theorem Em (vs:List Int) (ks:List Fo):pZ vs ks=ks.map (yW vs):=by
 induction ks with
 | nil => rfl
 | cons f fs ih => rw [pZ, ih]; rfl
theorem Ym (vs:List Int) (k a b n:Int) (ks:List Fo):yW vs (.mk k a b n ks)=pg vs (.mk k a b n ks) (ks.map (yW vs)):=by
 rw [yW,Em]
theorem Ul (b:Bool):Wf (Wt b):=by
 cases b
 ·exact .many 4 [] (.inr rfl) (fun _ h=>absurd h (Za))
 ·exact .many 3 [] (.inl rfl) (fun _ h=>absurd h (Za))
theorem Wf.fG {g:Fo} (h:Wf g) (h2:g.k=2):∃ x,g=.mk 2 0 0 0 [x]∧Wf x:=by
 cases h with
 | var a b n => simp [Fo.k] at h2
 | un k f hk hf => simp only [Fo.k] at h2; subst h2; exact ⟨f, rfl, hf⟩
 | bG f g => simp [Fo.k] at h2
 | many k ks hk => simp only [Fo.k] at h2; omega
theorem uO {k:Int} {f g:Fo} (hk:k=2∨k=5∨k=7∨k=8) (hg:Wf g):Wf (yM (.mk k 0 0 0 [f]) [g]):=by
 have hd:Wf (.mk k 0 0 0 [g]):=.un k g hk hg;rcases hk with rfl|rfl|rfl|rfl
 ·show Wf (if g.cst then Wt (decide (g.k=4)) else if g.k=2 then nth g.ks 0 else .mk 2 0 0 0 [g]);split
  ·exact Ul _
  ·split
   ·rename_i h;obtain ⟨x,rfl,hx⟩:=hg.fG h;exact hx
   ·exact hd
 all_goals (
  show Wf (if g.cst then g else .mk _ 0 0 0 [g]);split
  ·exact hg
  ·exact hd)
theorem XM {f:Fo} (h:Wf f):Wf (zE f):=by
 induction h with
 | var a b n ha hb dc => exact .var a b n ha hb dc
 | un k f hk hf ih => rw [Zs]; exact uO hk ih
 | bG f g hf hg mE lx =>
  rw [Zs];show Wf (if (zE g).cst || Yi (zE f) fF then zE g else .mk 6 0 0 0 [zE f,zE g]);split
  ·exact lx
  ·exact .bG _ _ mE lx
 | many k ks hk h ih =>
  rw [Zs];have e:yM (.mk k 0 0 0 ks) (ks.map zE)=xA k (ks.map zE):=by unfold yM;exact if_pos hk
  rw [e];refine ss hk fun g hg=>?_;obtain ⟨x,hx,rfl⟩:=zM.1 hg;exact ih x hx
theorem VY {k:Int} {f g:Fo} (hk:k=3∨k=4) (hf:Wf f) (hg:Wf g):Wf (xA k [f,g]):=
 ss hk fun x hx=>by
  simp only [zT,Za,or_false] at hx;rcases hx with rfl|rfl <;> assumption
theorem vT (vs:List Int) {f:Fo} (h:Wf f):Wf (yw vs f):=by
 induction h with
 | var a b n ha hb dc => exact Ul _
 | un k f hk hf ih =>
  have hs:=XM (Wf.un k f hk hf);rw [ZJ];rcases hk with rfl|rfl|rfl|rfl
  ·exact uO (.inl rfl) ih
  ·exact XM hf
  ·exact VY (.inl rfl) ih hs
  ·exact VY (.inr rfl) ih hs
 | bG f g hf hg mE lx =>
  have hs:=XM (Wf.bG f g hf hg);rw [ZJ];exact VY (.inr rfl) lx (VY (.inl rfl) mE hs)
 | many k ks hk h ih =>
  rw [ZJ];have e:pa vs (.mk k 0 0 0 ks) (ks.map (yw vs))=xA k (ks.map (yw vs)):=by rcases hk with rfl|rfl <;> rfl
  rw [e];refine ss hk fun g hg=>?_;obtain ⟨x,hx,rfl⟩:=zM.1 hg;exact ih x hx
theorem VZ {k:Int} {f g:Fo} (hk:k=3∨k=4) (hf:Wf f) (hg:Wf g):Wf (.mk k 0 0 0 [f,g]):=
 .many k _ hk fun x hx=>by
  simp only [zT,Za,or_false] at hx;rcases hx with rfl|rfl <;> assumption
theorem FD (vs:List Int) {f:Fo} (h:Wf f):Wf (yW vs f):=by
 induction h with
 | var a b n ha hb dc => exact Ul _
 | un k f hk hf ih =>
  have hs:=Wf.un k f hk hf;rw [Ym];rcases hk with rfl|rfl|rfl|rfl
  ·exact .un 2 _ (.inl rfl) ih
  ·exact hf
  ·exact VZ (.inl rfl) ih hs
  ·exact VZ (.inr rfl) ih hs
 | bG f g hf hg mE lx =>
  have hs:=Wf.bG f g hf hg;rw [Ym];exact VZ (.inr rfl) lx (VZ (.inl rfl) mE hs)
 | many k ks hk h ih =>
  rw [Ym];have e:pg vs (.mk k 0 0 0 ks) (ks.map (yW vs))=.mk k 0 0 0 (ks.map (yW vs)):=by rcases hk with rfl|rfl <;> rfl
  rw [e];refine .many k _ hk fun g hg=>?_;obtain ⟨x,hx,rfl⟩:=zM.1 hg;exact ih x hx
theorem FB (b:Bool):zE (Wt b)=Wt b:=by cases b <;> rfl
theorem qk {k:Int} {f g:Fo} (hk:k=3∨k=4):zE (.mk k 0 0 0 [f,g])=xA k [zE f,zE g]:=by
 rw [Zs];unfold yM;exact if_pos hk
theorem DH (vs:List Int) {f:Fo} (h:Wf f):zE (yW vs f)=yw vs f:=by
 induction h with
 | var a b n ha hb dc => exact FB _
 | un k f hk hf ih=>
  rw [Ym,ZJ];rcases hk with rfl|rfl|rfl|rfl
  ·show zE (.mk 2 0 0 0 [yW vs f])=yM (.mk 2 0 0 0 [f]) [yw vs f];rw [Zs,← ih];rfl
  ·rfl
  ·exact (qk (.inl rfl)).trans (by rw [show nth ([f].map (yW vs)) 0=yW vs f from rfl,ih];rfl)
  ·exact (qk (.inr rfl)).trans (by rw [show nth ([f].map (yW vs)) 0=yW vs f from rfl,ih];rfl)
 | bG f g hf hg mE lx =>
  rw [Ym,ZJ];refine (qk (.inr rfl)).trans ?_;rw [qk (.inl rfl),show nth ([f,g].map (yW vs)) 0=yW vs f from rfl,show nth ([f,g].map (yW vs)) 1=yW vs g from rfl,mE,lx];rfl
 | many k ks hk h ih =>
  rw [Ym,ZJ];have e:pg vs (.mk k 0 0 0 ks) (ks.map (yW vs))=.mk k 0 0 0 (ks.map (yW vs)):=by rcases hk with rfl|rfl <;> rfl
  have e2:pa vs (.mk k 0 0 0 ks) (ks.map (yw vs))=xA k (ks.map (yw vs)):=by rcases hk with rfl|rfl <;> rfl
  rw [e,e2,Zs];have e3:yM (.mk k 0 0 0 (ks.map (yW vs))) ((ks.map (yW vs)).map zE)=xA k ((ks.map (yW vs)).map zE):=by unfold yM;exact if_pos hk
  rw [e3,List.map_map];congr 1;exact XB fun x hx=>ih x hx
mutual
def zW:Fo→Nat
 | .mk _ _ _ _ ks => 1+zG ks
def zG:List Fo→Nat
 | [] => 0
 | f :: fs => zW f+zG fs
end
theorem DX (f:Fo):1≤zW f:=by cases f;rw [zW];omega
theorem yo (ks:List Fo):ks.length≤zG ks:=by
 induction ks with
 | nil => exact zB _
 | cons f fs ih => rw [zG, xo]; have := DX f; omega
theorem yC {ks:List Fo} {f:Fo} (h:f∈ks):zW f≤zG ks:=by
 induction ks with
 | nil => cases h
 | cons g fs ih =>
  rw [zG];rcases zT.1 h with rfl|h
  ·omega
  ·have:=ih h;omega
def eX (k:Int):Nat:=if k=5∨k=6∨k=7∨k=8 then 1 else 0
mutual
def bU:Fo→Nat
 | .mk k _ _ _ ks => eX k+Vw ks
def Vw:List Fo→Nat
 | [] => 0
 | f :: fs => max (bU f) (Vw fs)
end
theorem YY {ks:List Fo} {f:Fo} (h:f∈ks):bU f≤Vw ks:=by
 induction ks with
 | nil => cases h
 | cons g fs ih =>
  rw [Vw];rcases zT.1 h with rfl|h
  ·omega
  ·have:=ih h;omega
theorem pT {ks:List Fo} {n:Nat} (h:∀ f∈ks,bU f≤n):Vw ks≤n:=by
 induction ks with
 | nil => exact zB _
 | cons g fs ih =>
  rw [Vw];have:=h g (XC ..);have:=ih fun f hf=>h f (Yg _ hf);omega
theorem YO (f:Fo):zW f=1+zG f.ks:=by cases f;rw [zW];rfl
theorem o7 (f:Fo):bU f=eX f.k+Vw f.ks:=by cases f;rw [bU];rfl
theorem XJ (xs ys:List Fo):zG (xs++ys)=zG xs+zG ys:=by
 induction xs with
 | nil => simp [zG]
 | cons f fs ih => rw [List.cons_append, zG, zG, ih]; omega
theorem XK {ks:List Fo} {h:Fo→Fo} {c:Nat} (hh:∀ f∈ks,zW (h f)≤zW f * c):zG (ks.map h)≤zG ks * c:=by
 induction ks with
 | nil => exact zB _
 | cons f fs ih =>
  rw [zH,zG,zG,zQ];have:=hh f (XC ..);have:=ih fun g hg=>hh g (Yg _ hg);omega
theorem YQ (l:List Fo) (i:Nat):zW (nth l i)≤1+zG l:=by
 by_cases h:i<l.length
 ·have:=yC (yn h);omega
 ·rw [nth,xX,List.getElem?_eq_none zc];show zW fT≤_;have:zW fT=1:=rfl;omega
theorem nz (l:List Fo) (i:Nat):bU (nth l i)≤Vw l:=by
 by_cases h:i<l.length
 ·exact YY (yn h)
 ·rw [nth,xX,List.getElem?_eq_none zc];exact zB _
theorem Ds (k:Int) (f:Fo) (fs:List Fo):yv k (f::fs)=(if f.k=k then f.ks else [f])++yv k fs:=by
 unfold yv;rw [Yd]
theorem Yy (k:Int) (kids:List Fo):zG (yv k kids)≤zG kids:=by
 induction kids with
 | nil => exact zi _
 | cons f fs ih =>
  rw [Ds,XJ,zG];split
  ·have:=YO f;omega
  ·simp only [zG];omega
theorem F5 (k:Int) (kids:List Fo):∀ f∈yv k kids,bU f≤Vw kids:=by
 intro f hf;obtain ⟨g,hg,hf⟩:=rU.1 hf;have:=YY hg;by_cases hk:g.k=k
 ·rw [if_pos hk] at hf;have:=YY hf;have:=o7 g;omega
 ·rw [if_neg hk,yf] at hf;rw [hf];exact this
theorem Wm (acc xs:List Fo):zG (bW acc xs)≤zG acc+zG xs:=by
 unfold bW
 induction xs generalizing acc with
 | nil => exact zi _
 | cons f fs ih =>
  rw [rR,zG];refine zR (ih _) ?_;split
  ·omega
  ·rw [XJ];simp only [zG];omega
theorem vQ (k:Int):zW (gI k)=1:=by unfold gI Wt;split <;> rfl
theorem F4 (k:Int):bU (gI k)=0:=by unfold gI Wt;split <;> rfl
theorem Yz (k:Int) (kids:List Fo):zW (xA k kids)≤1+zG kids:=by
 have h1:=Yy k kids;have h2:=Wm [] (yv k kids);rw [show zG []=0 from rfl] at h2;unfold xA;split
 ·rw [vQ];omega
 ·unfold iA;split
  ·rename_i x e;rw [e] at h2;simp only [zG] at h2;omega
  ·rw [zW];omega
theorem wB {k:Int} (hk:k=3∨k=4):eX k=0:=by rcases hk with rfl|rfl <;> rfl
theorem UW {k:Int} (hk:k=3∨k=4) (kids:List Fo):bU (xA k kids)≤Vw kids:=by
 have h1:=F5 k kids;have h2:∀ f∈bW [] (yv k kids),bU f≤Vw kids:=fun f hf=>by
  rcases pU.1 hf with h|h
  ·cases h
  ·exact h1 f h
 unfold xA;split
 ·rw [F4];exact zB _
 ·unfold iA;split
  ·rename_i x e;exact h2 x (by rw [e];exact rX _)
  ·rw [bU,wB hk];have:=pT h2;omega
theorem sx (b:Bool):zW (Wt b)=1:=by cases b <;> rfl
theorem wT (b:Bool):bU (Wt b)=0:=by cases b <;> rfl
theorem ur (f:Fo) (kids:List Fo):zW (yM f kids)≤1+zG kids:=by
 have h0:=YQ kids 0;have h1:=YQ kids 1;have h2:=YQ (nth kids 0).ks 0;have h3:=YO (nth kids 0);have h4:=Yz f.k kids;have h5:=sx (decide ((nth kids 0).k=4));have h6:zW (.mk f.k f.a f.b f.n kids)=1+zG kids:=by rw [zW]
 unfold yM;split
 ·exact h4
 split
 ·split
  ·omega
  split <;> omega
 split
 ·split <;> omega
 split
 ·split <;> omega
 ·omega
theorem vB (f:Fo) (kids:List Fo):bU (yM f kids)≤eX f.k+Vw kids:=by
 have h0:=nz kids 0;have h1:=nz kids 1;have h2:=nz (nth kids 0).ks 0;have h3:=o7 (nth kids 0);have h5:=wT (decide ((nth kids 0).k=4));have h6:bU (.mk f.k f.a f.b f.n kids)=eX f.k+Vw kids:=by rw [bU]
 unfold yM;split
 ·rename_i hk;have:=UW hk kids;omega
 split
 ·split
  ·omega
  split <;> omega
 split
 ·split <;> omega
 split
 ·split <;> omega
 ·omega
theorem YA (f:Fo):zW (zE f)≤zW f:=by
 induction f using Fo.induct with
 | h k a b n ks ih =>
  rw [Zs,zW];have h1:=ur (.mk k a b n ks) (ks.map zE);have h2:=XK (ks:=ks) (h:=zE) (c:=1) fun f hf=>by have:=ih f hf;omega
  omega
theorem sJ (f:Fo):bU (zE f)≤bU f:=by
 induction f using Fo.induct with
 | h k a b n ks ih=>
  rw [Zs,bU];have h1:=vB (.mk k a b n ks) (ks.map zE);have h2:Vw (ks.map zE)≤Vw ks:=pT fun g hg=>by
   obtain ⟨x,hx,rfl⟩:=zM.1 hg;have:=ih x hx;have:=YY hx;omega
  simp only [Fo.k] at h1;omega
theorem WS {ks:List Fo} {h:Fo→Fo} (hh:∀ f∈ks,zW (h f)≤zW f * (1+4 * bU f)):zG (ks.map h)≤zG ks * (1+4 * Vw ks):=
 XK fun f hf=>zR (hh f hf) (Ui _ (by have:=YY hf;omega))
theorem Fx {ks:List Fo} {h:Fo→Fo} (hh:∀ f∈ks,bU (h f)≤bU f):Vw (ks.map h)≤Vw ks:=pT fun g hg=>by
 obtain ⟨x,hx,rfl⟩:=zM.1 hg;exact zR (hh x hx) (YY hx)
theorem vr (l:List Fo):zW (nth l 0)+zW (nth l 1)≤2+zG l:=by
 match l with
 | [] => exact zi _
 | [a] =>
  show zW a+zW fT≤2+(zW a+0)
  have:zW fT=1:=rfl;omega
 | a :: b :: r =>
  show zW a+zW b≤2+(zW a+(zW b+zG r))
  omega
theorem Uh {n p:Nat} (h:p≤n * (1+4 * t)):p+n+5≤(1+n) * (1+4 * (1+t)):=by
 have e:(1+n) * (1+4 * (1+t))=n * (1+4 * t)+4 * n+4 * t+5:=by
  rw [zQ,ZR,show 1+4 * (1+t)=(1+4 * t)+4 by omega,Nat.mul_add,Nat.mul_comm n 4];omega
 omega
theorem qf {n p u:Nat} (h:p≤n * (1+4 * t)):p+1≤(1+n) * (1+4 * (u+t)):=by
 have e:(1+n) * (1+4 * (u+t))=n * (1+4 * t)+n * (4 * u)+(1+4 * (u+t)):=by
  rw [zQ,ZR,show 1+4 * (u+t)=(1+4 * t)+4 * u by omega,Nat.mul_add];omega
 have:=zB (n * (4 * u));omega
theorem wI {n:Nat}:1+n≤(1+n) * (1+t):=by
 rw [Nat.mul_add,xR];omega
theorem vS (vs:List Int) (k a b n:Int) (ks ps:List Fo):pa vs (.mk k a b n ks) ps=if k=1 then Wt (ky b (g9 vs a) n)
 else if k=5 then zE (nth ks 0)
 else if k=7 then xA 3 [nth ps 0,zE (.mk k a b n ks)]
 else if k=8 then xA 4 [nth ps 0,zE (.mk k a b n ks)]
 else if k=6 then xA 4 [nth ps 1,xA 3 [nth ps 0,zE (.mk k a b n ks)]]
 else yM (.mk k a b n ks) ps:=rfl
theorem FC (vs:List Int) (k a b n:Int) (ks ps:List Fo):pg vs (.mk k a b n ks) ps=if k=1 then Wt (ky b (g9 vs a) n)
 else if k=5 then nth ks 0
 else if k=7 then .mk 3 0 0 0 [nth ps 0,.mk k a b n ks]
 else if k=8 then .mk 4 0 0 0 [nth ps 0,.mk k a b n ks]
 else if k=6 then .mk 4 0 0 0 [nth ps 1,.mk 3 0 0 0 [nth ps 0,.mk k a b n ks]]
 else .mk k 0 0 0 ps:=rfl
theorem UI (vs:List Int) (f:Fo):zW (yw vs f)≤zW f * (1+4 * bU f):=by
 induction f using Fo.induct with
 | h k a b n ks ih=>
  rw [ZJ,zW,bU];have hk:=WS ih;generalize ks.map (yw vs)=ps at hk ⊢;have h0:=YQ ps 0;have h1:=vr ps;have hs:=YA (.mk k a b n ks);rw [zW] at hs;have hn:=YQ ks 0;rw [vS];split
  ·rw [sx];have:=qf (u:=eX k) hk;omega
  split
  ·have:=YA (nth ks 0);have:=wI (n:=zG ks) (t:=4 * (eX k+Vw ks));omega
  split
  ·rename_i jN;subst jN;have:=Yz 3 [nth ps 0,zE (.mk 7 a b n ks)];simp only [zG] at this;have:=Uh hk;rw [show eX 7=1 from rfl];omega
  split
  ·rename_i jN;subst jN;have:=Yz 4 [nth ps 0,zE (.mk 8 a b n ks)];simp only [zG] at this;have:=Uh hk;rw [show eX 8=1 from rfl];omega
  split
  ·rename_i jN;subst jN;have h2:=Yz 3 [nth ps 0,zE (.mk 6 a b n ks)];have h3:=Yz 4 [nth ps 1,xA 3 [nth ps 0,zE (.mk 6 a b n ks)]];simp only [zG] at h2 h3;have:=Uh hk;rw [show eX 6=1 from rfl];omega
  ·have:=ur (.mk k a b n ks) ps;have:=qf (u:=eX k) hk;omega
theorem F6 (vs:List Int) (f:Fo):bU (yw vs f)≤bU f:=by
 induction f using Fo.induct with
 | h k a b n ks ih=>
  rw [ZJ,bU];have hk:=Fx ih;generalize ks.map (yw vs)=ps at hk ⊢;have h0:=nz ps 0;have h1:=nz ps 1;have hs:=sJ (.mk k a b n ks);rw [bU] at hs;have hn:=nz ks 0;rw [vS];split
  ·rw [wT];exact zB _
  split
  ·have:=sJ (nth ks 0);omega
  split
  ·have:=UW (.inl rfl) [nth ps 0,zE (.mk k a b n ks)];simp only [Vw] at this;omega
  split
  ·have:=UW (.inr rfl) [nth ps 0,zE (.mk k a b n ks)];simp only [Vw] at this;omega
  split
  ·have h2:=UW (.inl rfl) [nth ps 0,zE (.mk k a b n ks)];have h3:=UW (.inr rfl) [nth ps 1,xA 3 [nth ps 0,zE (.mk k a b n ks)]];simp only [Vw] at h2 h3;omega
  ·have:=vB (.mk k a b n ks) ps;simp only [Fo.k] at this;omega
theorem DY (vs:List Int) (f:Fo):zW (yW vs f)≤zW f * (1+4 * bU f):=by
 induction f using Fo.induct with
 | h k a b n ks ih=>
  rw [Ym,zW,bU];have hk:=WS ih;generalize ks.map (yW vs)=ps at hk ⊢;have h0:=YQ ps 0;have h1:=vr ps;have hn:=YQ ks 0;rw [FC];split
  ·rw [sx];have:=qf (u:=eX k) hk;omega
  split
  ·have:=wI (n:=zG ks) (t:=4 * (eX k+Vw ks));omega
  split
  ·rename_i jN;subst jN;have:=Uh hk;rw [show eX 7=1 from rfl];simp only [zW,zG];omega
  split
  ·rename_i jN;subst jN;have:=Uh hk;rw [show eX 8=1 from rfl];simp only [zW,zG];omega
  split
  ·rename_i jN;subst jN;have:=Uh hk;rw [show eX 6=1 from rfl];simp only [zW,zG];omega
  ·rw [zW];have:=qf (u:=eX k) hk;omega
structure Sm (i:Nat) (f:Fo):Prop where
 wf:Wf f
 td:bU f≤3
 nd:zW f≤40 * 13 ^ i
theorem Sm.simp {f:Fo} (h:Sm i f):Sm i (zE f):=⟨XM h.wf,zR (sJ f) h.td,zR (YA f) h.nd⟩
theorem Sm.prog {f:Fo} (h:Sm i f) (vs:List Int):Sm (i+1) (yw vs f):=⟨vT vs h.wf,zR (F6 vs f) h.td,by
 have h1:=UI vs f;have h2:=WE h.nd (show 1+4 * bU f≤13 by have:=h.td;omega);rw [Nat.pow_succ];omega⟩
theorem Sm.mono {j:Nat} {f:Fo} (h:Sm i f) (jg:i≤j):Sm j f:=⟨h.wf,h.td,zR h.nd (Ui _ (Nat.pow_le_pow_right zc jg))⟩
theorem Sm.iD {f:Fo} (h:Sm i f) (hi:i≤8):zW f * (1+4 * bU f)≤1000000000000:=by
 have h1:=(h.mono hi).nd;have h2:=WE h1 (show 1+4 * bU f≤13 by have:=h.td;omega);have:40 * 13 ^ 8 * 13≤1000000000000:=by decide
 omega
theorem VS {f:Fo} (h:zW f * (1+4 * bU f)≤1000000000000):zW f≤1000000000000:=by
 have:=Ui (zW f) (show 1≤1+4 * bU f by omega);omega
def xw (g:Fo) (i:Nat):List (List Int)→Option (Nat×Bool)
 | [] => if g.cst then some (i, decide (g.k=3)) else none
 | vs :: r => if g.cst then some (i, decide (g.k=3)) else xw (yw vs g) (i+1) r
theorem Ua {g:Fo} (h:g.cst=true):xw g i r=some (i,decide (g.k=3)):=by
 cases r <;> rw [xw,if_pos h]
theorem pS {g:Fo} {m:Nat} {b:Bool} (h:xw g i r=some (m,b)):i≤m∧m≤i+r.length:=by
 induction r generalizing g i with
 | nil =>
  rw [xw] at h;split at h
  ·injection h with h;injection h with h1 h2;simp only [VM];omega
  ·cases h
 | cons vs r ih =>
  rw [xw] at h;split at h
  ·injection h with h;injection h with h1 h2;simp only [xo];omega
  ·have:=ih h;simp only [xo];omega
theorem ES (g:Fo) (i:Nat) (r:List (List Int)) (j:Nat):xw g i (r.take j)=match xw g i r with
  | none => none
  | some (m, b) => if m ≤ i+j then some (m, b) else none := by
 induction r generalizing g i j with
 | nil =>
  rw [List.take_nil,xw];split
  ·simp
  ·rfl
 | cons vs r ih=>
  cases hc:g.cst with
  | true => rw [Ua hc, Ua hc]; simp
  | false=>
   cases j with
   | zero=>
    rw [List.take_zero,xw,xw,if_neg (by simp [hc]),if_neg (by simp [hc])];cases h:xw (yw vs g) (i+1) r with
    | none => rfl
    | some p =>
     obtain ⟨m,b⟩:=p;have:=pS h;simp only;rw [if_neg zc]
   | succ j=>
    rw [List.take_succ_cons,xw,xw,if_neg (by simp [hc]),if_neg (by simp [hc]),ih];cases xw (yw vs g) (i+1) r with
    | none => rfl
    | some p =>
     simp only;rw [show i+1+j=i+(j+1) by omega]
def dp:Option (Nat×Bool)→Int
 | none => 14
 | some (_, b) => if b then 0 else 13
def fR:Option (Nat×Bool)→List Int
 | none => []
 | some (m, _) => [(m:Int) - 1]
section
open Go.RowKit
section
variable {c:Ctx} {w0:World} {J:JJ} {ops:Array Oper} {Q:Exit→Act→World→Prop}
theorem CA {s0:ae} {tr:List Rec} (F:(Nat→Bool)→ae→Act→World→Prop) (hlen:tr.length=ops.size) (gq:∀ k,k<ops.size→(tr.getD k default).o=ops.toList.getD k default) (c8:Xn ops tr=true)
  (oc:∀ S s s2 a w,(∀ t,s2.get t=s.get t)→(∀ id,s2.ob id=s.ob id)→F S s a w→F S s2 a w)
  (cg:∀ (S:Nat→Bool) (s:ae) (a:Act) (w:World) (i:Nat) (o:Oper),ops[i]? = some o→S i=false→(∀ e∈o.after.toList,Region.binds .any e=true→S e.on=true)→(∀ t∈o.looksAt ops,s.get t=(sig tr s0 (fun _=>true) i).get t)→(∀ id∈(tr.getD i default).ft,s.ob id=(sig tr s0 (fun _=>true) i).ob id)→F S s a w→
   ∀ K:Act→World→Prop,(∀ a' w',F (fun k=>k == i || S k) (s.jt (tr.getD i default)) a' w'→K a' w')→wpOp c.P ops Q i K a w)
  (hQ:∀ S a w,(∀ k,k<ops.size→S k=true)→F S (sig tr s0 (fun _=>true) ops.size) a w→Q .normal a w) :
  ∀ (fuel:Nat) (listed:Array Bool) (a:Act) (w:World),listed.size=ops.size→(∀ i,i<ops.size→listed.getD i false=true→∀ e∈(ops.toList.getD i default).after.toList,Region.binds .any e=true→listed.getD e.on false=true)→
   g6 (fun k=>listed.getD k false) ops.size≤fuel→F (fun k=>listed.getD k false) (sig tr s0 (fun k=>listed.getD k false) ops.size) a w→wpAny c.P .any ops Q fuel listed a w:=by
 unfold Xn at c8;rw [zU] at c8;obtain ⟨eC,dh⟩:=c8;have dg : ∀ i,i<ops.size→∀ e∈(ops.toList.getD i default).after.toList,Region.binds .any e=true→e.on<i:=by
  intro i hi e he hb;unfold sF at eC;rw [zV] at eC;have:=eC i (by simpa using hi);rw [zV] at this;have:=this e he;simpa [hb] using this
 have dz : ∀ i,i<ops.size→∀ j,j<i→j∈(jm ops.toList []).getD i []∨xQ ops (tr.getD j default) (tr.getD i default)=true:=by
  intro i hi j hj;unfold sG at dh;rw [zV] at dh;have:=dh i (by simp [hlen];exact hi);rw [zV] at this;have:=this j (by simpa using hj);rw [VF] at this;exact this.imp (fun h=>by simpa using h) id
 have gQ:∀ (listed:Array Bool) (i:Nat),i<listed.size→listed.getD i true=listed.getD i false:=fun listed i hi=>by simp [hi]
 have jJ:∀ (listed:Array Bool) (a:Act) (w:World),(∀ k,k<ops.size→listed.getD k false=true)→F (fun k=>listed.getD k false) (sig tr s0 (fun k=>listed.getD k false) ops.size) a w→Q .normal a w:=by
  intro listed a w aP hF;refine hQ _ a w aP (oc _ _ _ _ _ (fun k=>?_) (fun k=>?_) hF)
  ·rw [xB,xB];exact xJ _ _ _ _ _ (fun k hk _=>(aP k hk).symm)
  ·rw [ZE,ZE];exact xJ _ _ _ _ _ (fun k hk _=>(aP k hk).symm)
 have c7:∀ (listed:Array Bool),listed.size=ops.size→Region.ready .any ops listed=[]→∀ k,k<ops.size→listed.getD k false=true:=by
  intro listed aK hr k
  induction k using Nat.strongRecOn with
  | _ k ih=>
   intro hk;cases hl:listed.getD k false with
   | true => rfl
   | false=>
    exfalso;have:k∈Region.ready .any ops listed:=by
     rw [mem_ready];refine ⟨by rw [gQ listed k zc];exact hl,ops.toList.getD k default,by simp [hk],fun e he hb=>?_⟩;have az:=dg k hk e (by simpa using he) hb;exact ih e.on az zc
    rw [hr] at this;simp at this
 intro fuel
 induction fuel with
 | zero=>
  intro listed a w aK cD l7 hF;have aP:=Uk (S:=fun k=>listed.getD k false) ops.size zc;refine ⟨?_,jJ listed a w aP hF⟩;cases hr:Region.ready .any ops listed with
  | nil => rfl
  | cons i l =>
   exfalso;have:i∈Region.ready .any ops listed:=by rw [hr];simp
   rw [mem_ready] at this;obtain ⟨h0,o,ho,_⟩:=this;have hi:i<ops.size:=(Zh.1 ho).1;rw [gQ listed i zc,aP i hi] at h0;cases h0
 | succ fuel ih=>
  intro listed a w aK cD l7 hF;refine ⟨fun hr=>jJ listed a w (c7 listed aK hr) hF,fun i hi=>?_⟩;rw [mem_ready] at hi;obtain ⟨h0,o,ho,aP⟩:=hi;have dJ:i<ops.size:=(Zh.1 ho).1;rw [gQ listed i zc] at h0;have mn:ops.toList.getD i default=o:=by simp [ho]
  have gu:=gq i dJ;rw [mn] at gu;have cN : ∀ k,k<ops.size→(k == i || listed.getD k false)=true→∀ e∈(ops.toList.getD k default).after.toList,Region.binds .any e=true→(e.on == i || listed.getD e.on false)=true:=by
   intro k hk hS e he hb;by_cases iN:k=i
   ·subst iN;rw [mn] at he;rw [aP e (by simpa using he) hb,VG]
   ·have:(k == i)=false:=by simpa using iN
    rw [this,yX] at hS;rw [cD k hk hS e he hb,VG]
  have lV:∀ j∈(jm ops.toList []).getD i [],(j == i || listed.getD j false)=true:=
   Uf (fun k=>k == i || listed.getD k false) ops.toList [] (fun i hi=>by simp at hi) (fun k hk hS e he hb=>cN k (by simpa using hk) (by simpa using hS) e he hb) (fun k hk e he hb=>by simpa using dg k (by simpa using hk) e he hb) i (by simpa using dJ) zg
  have jE:∀ k,listed.getD k false=true→k<ops.size→∀ j∈(jm ops.toList []).getD k [],listed.getD j false=true:=fun k hS hk=>
   Uf (fun k=>listed.getD k false) ops.toList [] (fun i hi=>by simp at hi) (fun k hk hS e he hb=>cD k (by simpa using hk) (by simpa using hS) e he hb) (fun k hk e he hb=>by simpa using dg k (by simpa using hk) e he hb) k (by simpa using hk) hS
  have lW:∀ k,k<ops.size→∀ j∈(jm ops.toList []).getD k [],j<k∨j=k→True:=fun _ _ _ _ _=>trivial;have dx:∀ k,k<i→xQ ops (tr.getD k default) (tr.getD i default)=true∨listed.getD k false=true:=by
   intro k hk;rcases dz i dJ k hk with h|h
   ·have:=lV k h;have bQ:(k == i)=false:=by simp;omega
    rw [bQ,yX] at this;exact .inr this
   ·exact .inl h
  have bX:∀ k,i<k→k<ops.size→listed.getD k false=true→xQ ops (tr.getD i default) (tr.getD k default)=true:=by
   intro k hk e8 hS;rcases dz k e8 i hk with h|h
   ·rw [jE k hS e8 i h] at h0;cases h0
   ·exact h
  have iI:∀ {r q:Rec},xQ ops r q=true→(∀ d,r.o.dst=some d→d∉q.o.looksAt ops)∧(∀ d,r.o.dst=some d→q.o.dst≠some d)∧(∀ d,q.o.dst=some d→d∉r.o.looksAt ops)∧
    (∀ id,(Zk r.wr id).isSome→id∉q.ft∧Zk q.wr id=none)∧(∀ id,(Zk q.wr id).isSome→id∉r.ft):=by
   intro r q h;unfold xQ at h;rw [zU,zU] at h;obtain ⟨⟨h1,h2⟩,h3⟩:=h;obtain ⟨k1,k2,k3⟩:=Oper.apart_spec h1;rw [zV] at h2 h3;refine ⟨k1,k2,k3,fun id hid=>?_,fun id hid=>?_⟩
   ·obtain ⟨p,hp,rfl⟩:=zM.1 (ZB hid);have:=h2 p hp;rw [zU] at this;refine ⟨by simpa using this.1,?_⟩;cases hl:Zk q.wr p.1 with
    | none => rfl
    | some b =>
     have hm:=ZB (l:=q.wr) (id:=p.1) (by rw [hl];rfl);have h4:=this.2;simp only [rZ,sa,decide_eq_false_iff_not] at h4;exact absurd hm h4
   ·obtain ⟨p,hp,rfl⟩:=zM.1 (ZB hid);have:=h3 p hp;simpa using this
  have cu:∀ t∈(tr.getD i default).o.looksAt ops,(sig tr s0 (fun k=>listed.getD k false) ops.size).get t=(sig tr s0 (fun _=>true) i).get t:=by
   intro t ht;rw [xB,xB];obtain ⟨m,hm⟩:∃ m,ops.size=i+m:=⟨ops.size - i,by omega⟩
   rw [hm,Zf _ _ _ i m]
   ·refine xJ _ _ _ _ _ (fun k hk hu=>?_);rcases dx k hk with h|h
    ·exfalso;unfold fV at hu;split at hu
     ·rename_i hd;exact (iI h).1 t hd ht
     ·simp at hu
    ·exact h
   ·intro k cz e8 hS;rcases WC cz with e|az
    ·subst e;rw [h0] at hS;cases hS
    ·unfold fV;rw [if_neg];intro hd;exact (iI (bX k az zc hS)).2.2.1 t hd ht
  have iP:∀ id∈(tr.getD i default).ft,(sig tr s0 (fun k=>listed.getD k false) ops.size).ob id=(sig tr s0 (fun _=>true) i).ob id:=by
   intro id hid;rw [ZE,ZE];obtain ⟨m,hm⟩:∃ m,ops.size=i+m:=⟨ops.size - i,by omega⟩
   rw [hm,Zf _ _ _ i m]
   ·refine xJ _ _ _ _ _ (fun k hk hu=>?_);rcases dx k hk with h|h
    ·exact absurd hid ((iI h).2.2.2.1 id hu).1
    ·exact h
   ·intro k cz e8 hS;rcases WC cz with e|az
    ·subst e;rw [h0] at hS;cases hS
    ·cases hl:Zk (tr.getD k default).wr id with
     | none => rfl
     | some b => exact absurd hid ((iI (bX k az zc hS)).2.2.2.2 id (by rw [hl]; rfl))
  refine cg _ _ a w i o ho h0 (fun e he hb=>aP e (by simpa using he) hb) (by rw [← gu];exact cu) iP hF _ (fun a' w' dZ=>?_);have gX:∀ k,(listed.setIfInBounds i true).getD k false=(k == i || listed.getD k false):=by
   intro k;by_cases iN:k=i
   ·subst iN;have:k<listed.size:=by omega
    simp [this]
   ·have bQ:(k == i)=false:=by simpa using iN
    rw [bQ,yX];simp [wk (fun e=>iN e.symm)]
  have jK:(fun k=>(listed.setIfInBounds i true).getD k false)=(fun k=>k == i || listed.getD k false):=funext gX;refine ih _ a' w' (by simp [aK]) (fun k hk hS e he hb=>?_) ?_ ?_
  ·rw [gX] at hS ⊢;exact cN k hk hS e he hb
  ·rw [jK];have:=sm (S:=fun k=>listed.getD k false) h0 ops.size dJ;omega
  ·rw [jK];refine oc _ _ _ _ _ (fun t=>?_) (fun id=>?_) dZ
   ·rw [Xr,xB,xB];refine Va _ _ _ i h0 ops.size dJ (fun k cz e8 hS hu=>?_);cases j1:fV (tr.getD i default) t with
    | none => rfl
    | some v=>
     exfalso;unfold fV at hu j1;split at j1
     ·rename_i nb;split at hu
      ·rename_i kW;exact (iI (bX k cz e8 hS)).2.1 t nb kW
      ·simp at hu
     ·cases j1
   ·rw [WW,ZE,ZE];refine Va _ _ _ i h0 ops.size dJ (fun k cz e8 hS hu=>?_);cases j1:Zk (tr.getD i default).wr id with
    | none => rfl
    | some v =>
     exfalso;have:=((iI (bX k cz e8 hS)).2.2.2.1 id (by rw [j1];rfl)).2;rw [this] at hu;cases hu
end
section
variable {c:Ctx} {ops:Array Oper} {rest:List Oper} {t:List (Nat×FV)} {ob:List (Nat×zL)} {dst:Option Nat} {ty:TypeId} {pos:String} {af:Array Edge} {gd:Option (Nat×Bool)} {QS:ae→Prop}
end
section
variable {c:Ctx} {w0 w:World} {J:JJ} {s:ae} {a:Act} {β:Nat→Option Nat}
end
section
variable {c:Ctx} {ops:Array Oper} {rest:List Oper} {t:List (Nat×FV)} {ob:List (Nat×zL)} {d:Nat} {ty:TypeId} {pos:String} {af:Array Edge} {gd:Option (Nat×Bool)} {QS:ae→Prop}
end
section
variable {c:Ctx} {ops:Array Oper} {rest:List Oper} {t:List (Nat×FV)} {ob:List (Nat×zL)} {d:Nat} {ty GI:TypeId} {pos Bt:String} {af Gq:Array Edge} {QS:ae→Prop}
end
section
variable {c:Ctx} {w0 w:World} {J:JJ} {s:ae} {a:Act} {β:Nat→Option Nat} {dst:Option Nat} {ty:TypeId} {pos:String} {after:Array Edge} {g:Option (Nat×Bool)}
end
section
variable {c:Ctx} {ops:Array Oper} {rest:List Oper} {t:List (Nat×FV)} {ob:List (Nat×zL)} {d:Nat} {ty:TypeId} {pos:String} {af:Array Edge} {g:Option (Nat×Bool)} {Q:ae→Prop}
end
theorem EJ {w:World} {base:Nat} {I I' : Nat→Prop} {aA:Option Nat} {ob:zL} {u:Value} {o n:Nat} (hg:Vc w aA ob u o n) (hr:mX w base I aA ob) (hb:∀ b,aA=some b→I' b) (hI:∀ b,I b→I' b):Rd w I' u (.list ob.sz ((ob.es.drop o).take n)):=by
 obtain ⟨A,cc,rfl,e2,e3,e4,e5⟩:=hg.ex;have hw:=hr.wide;have bf:=hr.one;have iR:∀ e∈ob.es.drop o,e.length=ob.sz:=fun e he=>hw e (xq he);have hlen:((ob.es.drop o).take n).length=n:=by simp;omega
 have bY:((ob.es.drop o).take n).flatten=(ob.es.flatten.drop (o * ob.sz)).take (n * ob.sz):=by rw [ZV _ iR,Zj _ hw]
 have gm : ∀ f∈((ob.es.drop o).take n).flatten,f.one=true:=fun f hf=>by rw [bY] at hf;exact bf f (xq (xj hf))
 cases dQ:aA with
 | none =>
  obtain ⟨rfl,rfl⟩:=e4 dQ;obtain rfl:n=0:=by omega
  exact .list none 0 0 _ _ [] zg (zi _) zg zg zg zg zg
 | some b=>
  obtain ⟨o',rfl,k2,k3⟩:=e5 b dQ;obtain ⟨v',us,r1,r2,r3⟩:=hr.row;have hR:aD w I' ((us.drop (o * ob.sz)).take (n * ob.sz)) ((ob.es.drop o).take n).flatten:=by
   rw [bY];exact ((r3.mono fun b hb=>⟨hI b hb,rfl⟩).drop _).take _
  refine .list _ n cc ob.sz _ _ hlen e2 (fun e he=>iR e (xj he)) gm (fun h0=>⟨b,o',rfl,hb b dQ,fun j u hu=>?_⟩) hR.1 hR.2;have:=k2 (.inl zc);subst this;rw [xg] at hu;split at hu
  ·rw [xY] at hu;have aW:=r1.cells (g:=b) (by rw [r2];exact dQ) _ u hu;rwa [xn,yr] at aW
  ·cases hu
end
end Go.Proofs.YtedkppfghdipdaaGreatDoor
