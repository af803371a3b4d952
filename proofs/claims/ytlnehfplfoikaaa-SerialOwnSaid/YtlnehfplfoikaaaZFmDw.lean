/-
  Some texts as one: FmDw, FmL.
-/
import Derived.Test.YtlnehfplfoikaaaZBx
import Derived.Deep.LoopGhost
import Derived.RangeFuncRecord
import Derived.OrdersIn
import Derived.TacticsIn
import Derived.RangeFuncCalls
namespace Go.Proofs.Ytlnehfplfoikaaa
set_option linter.unusedVariables false
set_option maxHeartbeats 16000000
open Go.RowKit
def zd8 (K:Act→World→Prop):Exit→Act→World→Prop
 | .normal, a, w => K a w
 | _, _, _ => False
def dwp (P:Program):Code→(Exit→Act→World→Prop)→Act→World→Prop
 | .skip, Q, a, w => Q .normal a w
 | .label _, Q, a, w => Q .normal a w
 | .exit id, Q, a, w => Q (.exit id) a w
 | .ret, Q, a, w => Q .ret a w
 | .seq x y, Q, a, w => dwp P x (Exit.then (dwp P y Q) Q) a w
 | .block id x, Q, a, w => dwp P x (Exit.inBlock id Q) a w
 | .cond c x y, Q, a, w => ∃ t, a.eval c=.bool t ∧ (t=true → dwp P x Q a w) ∧ (t=false → dwp P y Q a w)
 | .loop x, Q, a, w => ∃ (I:Nat → Act → World → Prop) (n:Nat), I n a w ∧ ∀ n a w, I n a w → dwp P x (Exit.then (fun a w => ∃ m, m<n ∧ I m a w) Q) a w
 | .region _ ops false, Q, a, w => wpList P ops (zd8 (Q .normal)) ops.toList a w
 | .region _ ops true, Q, a, w => wpAny P .any ops (zd8 (Q .normal)) ops.size (Array.replicate ops.size false) a { w with drawn := w.drawn+1 }
 | _, _, _, _ => False
section
variable {P:Program}
theorem Vr (K:Act→World→Prop):¬ LetsOut (zd8 K):=fun ⟨_,_,h⟩=>h
theorem Vs {o:Oper} {a:Act} {w:World} {K K' G G' : Act→World→Prop} (h:∀ a w,K a w→K' a w) (hg:∀ a w,G a w→G' a w) (hh:o.wp P a w K (zd8 G)):o.wp P a w K' (zd8 G'):=by
 unfold Oper.wp at *;generalize (execOp a.eval o).run P w=r at *;cases r with
 | ok n w'=>
  cases n <;> simp only [Oper.upon] at hh ⊢ <;>
   first
    | exact h _ _ hh
    | exact Calls.mono hh (fun e w'' he => by cases e <;> first|exact h _ _ he|exact he.elim|(obtain ⟨_, _, q⟩ := he; exact q.elim))
    | exact Rows.mono hh (fun _ _ he => h _ _ he)
 | halt x w' => cases x <;> simp only [Oper.upon] at hh ⊢ <;> exact hh.elim
theorem Yh {ops:Array Oper} {K K' : Act→World→Prop} (h:∀ a w,K a w→K' a w):∀ {l:List Oper} {a:Act} {w:World},wpList P ops (zd8 K) l a w→wpList P ops (zd8 K') l a w
 | [], a, w, hh => h a w hh
 | o::l,a,w,hh=>by
  unfold wpList at hh ⊢;split
  ·rename_i hw;rw [if_pos hw] at hh;rcases hh with hh|hh
   ·exact .inl (Vs (fun a w q=>Yh h q) h hh)
   ·exact absurd hh.2 (Vr _)
  ·rename_i hw;rw [if_neg hw] at hh;exact Yh h hh
theorem zfm {ops:Array Oper} {K K' G G' : Act→World→Prop} (h:∀ a w,K a w→K' a w) (hg:∀ a w,G a w→G' a w) {i:Nat} {a:Act} {w:World} (hh:wpOp P ops (zd8 G) i K a w):wpOp P ops (zd8 G') i K' a w:=by
 unfold wpOp at *;split
 ·rename_i ho;rw [ho] at hh;exact h _ _ hh
 ·rename_i o ho;rw [ho] at hh;dsimp only at hh;split
  ·rename_i hw;rw [if_pos hw] at hh;rcases hh with hh|hh
   ·exact .inl (Vs h hg hh)
   ·exact absurd hh.2 (Vr _)
  ·rename_i hw;rw [if_neg hw] at hh;exact h _ _ hh
theorem Uf {ops:Array Oper} {K K' : Act→World→Prop} (h:∀ a w,K a w→K' a w):∀ {fuel:Nat} {listed:Array Bool} {a:Act} {w:World},wpAny P .any ops (zd8 K) fuel listed a w→wpAny P .any ops (zd8 K') fuel listed a w
 | 0, _, a, w, hh => ⟨hh.1, h a w hh.2⟩
 | fuel+1, listed, a, w, hh => ⟨fun e => h a w (hh.1 e), fun i hi => zfm (fun a w q => Uf h q) h (hh.2 i hi)⟩
theorem xb:∀ {c:Code} {Q Q' : Exit→Act→World→Prop} {a:Act} {w:World},dwp P c Q a w→(∀ e a w,Q e a w→Q' e a w)→dwp P c Q' a w
 | .skip, _, _, _, _, h, hq => hq _ _ _ h
 | .label _, _, _, _, _, h, hq => hq _ _ _ h
 | .exit _, _, _, _, _, h, hq => hq _ _ _ h
 | .ret, _, _, _, _, h, hq => hq _ _ _ h
 | .seq x y,Q,Q',a,w,h,hq=>xb (c:=x) h fun e a w q=>by
   cases e <;> first|exact xb (c:=y) q hq|exact hq _ _ _ q
 | .block id x,Q,Q',a,w,h,hq=>xb (c:=x) h fun e a w q=>by
   cases e with
   | exit id' =>
    simp only [Exit.inBlock] at q ⊢;split
    ·rename_i e;rw [if_pos e] at q;exact hq _ _ _ q
    ·rename_i e;rw [if_neg e] at q;exact hq _ _ _ q
   | _ => exact hq _ _ _ q
 | .cond c x y, Q, Q', a, w, ⟨t, h, h1, h2⟩, hq => ⟨t, h, fun e => xb (c := x) (h1 e) hq, fun e => xb (c := y) (h2 e) hq⟩
 | .loop x,Q,Q',a,w,⟨I,n,h0,h⟩,hq=>⟨I,n,h0,fun n a w hi=>xb (c:=x) (h n a w hi) fun e a w q=>by
   cases e <;> first|exact q|exact hq _ _ _ q⟩
 | .region _ ops false, _, _, _, _, h, hq => Yh (fun a w q => hq _ _ _ q) h
 | .region _ ops true, _, _, _, _, h, hq => Uf (fun a w q => hq _ _ _ q) h
theorem Wf (hm:P.follows .mixedOrders=true):∀ {c:Code} {Q:Exit→Act→World→Prop} {a:Act} {w:World},dwp P c Q a w→c.wp P Q a w
 | .skip, _, _, _, h => wp_skip h
 | .label _, _, _, _, h => wp_label h
 | .exit _, _, _, _, h => wp_exit h
 | .ret, _, _, _, h => wp_ret h
 | .seq x y, Q, a, w, h => wp_seq (Wf hm (xb (c := x) h fun e a w q => by cases e <;> first|exact Wf hm (c := y) q|exact q))
 | .block id x, Q, a, w, h => wp_block (Wf hm (c := x) h)
 | .cond c x y, Q, a, w, ⟨t, h, h1, h2⟩ => by
  cases t with
  | true => exact wp_cond_true h (Wf hm (c := x) (h1 rfl))
  | false => exact wp_cond_false h (Wf hm (c := y) (h2 rfl))
 | .loop x, Q, a, w, ⟨I, n, h0, h⟩ => wp_loop_ghost I n h0 fun n a w hi => Wf hm (c := x) (h n a w hi)
 | .region _ ops false, Q, _, _, h => wp_mono (wp_region_list h) fun e a w q => by cases e <;> first|exact q|exact q.elim
 | .region _ ops true, Q, _, _, h => wp_mono (wp_region_any hm h) fun e a w q => by cases e <;> first|exact q|exact q.elim
/-! in a round -/
section
variable {l n:Nat}
end
/-! the slots that the code does not write -/
end
def FW (c:Ctx) (code:Code) (Q:Exit→FSt→Prop) (s:FSt):Prop:=
 ∀ (w0:World) (J:JJ) (a:Act) (w:World) (β:Nat→Option Nat),FR c.N w0 J s a w β→dwp c.P code (fun e a' w'=>∃ s' β',Q e s'∧FR c.N w0 J s' a' w' β') a w
def FLe (s s' : FSt):Prop:=∀ (N:Nat) (w0:World) (J:JJ) (a:Act) (w:World) (β:Nat→Option Nat),FR N w0 J s a w β→∃ β',FR N w0 J s' a w β'
theorem FLe.refl (s:FSt):FLe s s:=fun _ _ _ _ _ β h=>⟨β,h⟩
theorem FLe.trans {s s' s'' : FSt} (h:FLe s s') (k:FLe s' s''):FLe s s'':=fun N w0 J a w β hF=>let ⟨_,h1⟩:=h N w0 J a w β hF;k N w0 J a w _ h1
def zgL (next:FSt→Prop) (Q:Exit→FSt→Prop):Exit→FSt→Prop
 | .normal, s => next s
 | e, s => Q e s
def zhR (id:Nat) (Q:Exit→FSt→Prop):Exit→FSt→Prop
 | .exit id', s => if id'=id then Q .normal s else Q (.exit id') s
 | e, s => Q e s
section
variable {c:Ctx} {Q:Exit→FSt→Prop} {s:FSt}
theorem FW.le {code:Code} {s' : FSt} (h:FW c code Q s') (hs:FLe s s'):FW c code Q s:=fun w0 J a w β hF=>let ⟨β',h1⟩:=hs _ _ _ _ _ _ hF;h w0 J a w β' h1
theorem FW.mono {code:Code} {Q' : Exit→FSt→Prop} (h:FW c code Q s) (hq:∀ e s,Q e s→Q' e s):FW c code Q' s:=fun w0 J a w β hF=>
 xb (h w0 J a w β hF) fun _ _ _ ⟨s',β',q,f⟩=>⟨s',β',hq _ _ q,f⟩
theorem FW.skip (h:Q .normal s):FW c .skip Q s:=fun _ _ _ _ β hF=>⟨s,β,h,hF⟩
theorem FW.exit {id:Nat} (h:Q (.exit id) s):FW c (.exit id) Q s:=fun _ _ _ _ β hF=>⟨s,β,h,hF⟩
theorem FW.ret (h:Q .ret s):FW c .ret Q s:=fun _ _ _ _ β hF=>⟨s,β,h,hF⟩
theorem FW.seq {x y:Code} (h:FW c x (zgL (FW c y Q) Q) s):FW c (.seq x y) Q s:=fun w0 J a w β hF=>
 xb (c:=x) (h w0 J a w β hF) fun e a' w' ⟨s',β',q,f⟩=>by
  cases e with
  | normal => exact q w0 J a' w' β' f
  | _ => exact ⟨s', β', q, f⟩
theorem FW.block {id:Nat} {x:Code} (h:FW c x (zhR id Q) s):FW c (.block id x) Q s:=fun w0 J a w β hF=>
 xb (c:=x) (h w0 J a w β hF) fun e a' w' ⟨s',β',q,f⟩=>by
  cases e with
  | exit id' =>
   simp only [Exit.inBlock];simp only [zhR] at q;split
   ·rename_i e;rw [if_pos e] at q;exact ⟨s',β',q,f⟩
   ·rename_i e;rw [if_neg e] at q;exact ⟨s',β',q,f⟩
  | _ => exact ⟨s', β', q, f⟩
theorem FW.cond {cnd:Operand} {x y:Code} {b:Bool} (hc:s.ev cnd=.bool b) (ht:b=true→FW c x Q s) (hf:b=false→FW c y Q s):FW c (.cond cnd x y) Q s:=fun w0 J a w β hF=>
 ⟨b,hF.ev_bool hc,fun e=>ht e w0 J a w β hF,fun e=>hf e w0 J a w β hF⟩
theorem FW.condT {cnd:Operand} {x y:Code} (hc:s.ev cnd=.bool true) (ht:FW c x Q s):FW c (.cond cnd x y) Q s:=FW.cond hc (fun _=>ht) (fun h=>by cases h)
theorem FW.condF {cnd:Operand} {x y:Code} (hc:s.ev cnd=.bool false) (ht:FW c y Q s):FW c (.cond cnd x y) Q s:=FW.cond hc (fun h=>by cases h) (fun _=>ht)
theorem FW.loop {σ:Type} {body:Code} (inv:σ→FSt) (pre:σ→Prop) (μ:σ→Nat) (x0:σ) (h0:pre x0) (hs:FLe s (inv x0))
  (round:∀ x,pre x→FW c body (zgL (fun s'=>∃ x',pre x'∧μ x'<μ x∧FLe s' (inv x')) Q) (inv x)):FW c (.loop body) Q s:=fun w0 J a w β hF=>by
 obtain ⟨β0,hF0⟩:=hs _ _ _ _ _ _ hF;refine ⟨fun n a w=>∃ x,pre x∧μ x=n∧∃ β,FR c.N w0 J (inv x) a w β,μ x0,⟨x0,h0,rfl,β0,hF0⟩,?_⟩;rintro n a w ⟨x,hp,rfl,β,hF⟩;refine xb (c:=body) (round x hp w0 J a w β hF) fun e a' w' ⟨s',β',q,f⟩=>?_;cases e with
 | normal =>
  obtain ⟨x',h1,h2,h3⟩:=q;obtain ⟨β'',hF''⟩:=h3 _ _ _ _ _ _ f;exact ⟨μ x',h2,x',h1,rfl,β'',hF''⟩
 | _ => exact ⟨s', β', q, f⟩
theorem FW.join {x y:Code} {ι:Type} (fam:ι→FSt) (pre:ι→Prop) (h1:FW c x (fun e s'=>e=.normal∧∃ i,pre i∧FLe s' (fam i)) s) (h2:∀ i,pre i→FW c y Q (fam i)):FW c x (zgL (FW c y Q) Q) s:=
 h1.mono fun e s' h=>by
  obtain ⟨rfl,i,hp,hle⟩:=h;exact (h2 i hp).le hle
def zi (c:Ctx) (ops:Array Oper) (l:List Oper) (s:FSt) (Q:FSt→Prop):Prop:=
 ∀ (QQ:Exit→Act→World→Prop) (w0:World) (J:JJ) (a:Act) (w:World) (β:Nat→Option Nat),(∀ s a w β,Q s→FR c.N w0 J s a w β→QQ .normal a w)→FR c.N w0 J s a w β→wpList c.P ops QQ l a w
def zK (c:Ctx) (ops:Array Oper) (l:List Oper) (s:FSt) (tr:List Rec) (Q:FSt→List Rec→Prop):Prop:=∃ tr' s',zfu c ops s l tr' s'∧Q s' (tr++tr')
theorem FW.region {id:Nat} {l:List Oper} (h:zi c l.toArray l s (Q .normal)):FW c (.region id l.toArray false) Q s:=fun w0 J a w β hF=>
 h (zd8 fun a' w'=>∃ s' β',Q .normal s'∧FR c.N w0 J s' a' w' β') w0 J a w β (fun s a w β q f=>⟨s,β,q,f⟩) hF
theorem FW.draw {id:Nat} {l:List Oper} (h:zK c l.toArray l s [] fun s' tr=>XO l.toArray tr=true∧Q .normal s'):FW c (.region id l.toArray true) Q s:=fun w0 J a w β hF=>by
 obtain ⟨tr,s',hx,hok,hq⟩:=h;exact zb0 (Q:=zd8 fun a' w'=>∃ s' β',Q .normal s'∧FR c.N w0 J s' a' w' β') (ops:=l.toArray) (by simpa using hx) (by simpa using hok) (fun a w β f=>⟨s',β,hq,f⟩) hF
end
structure Stp (c:Ctx) (s:FSt) (o:Oper) (f:FV) (wr:List (Nat×zn)) (d:Nat):Prop where
 dst:o.dst=some d∨(o.dst=none∧zam o.op)
 lt:∀ d,o.dst=some d→d<c.N
 eff:Eff c s d o.op f wr
section
variable {c:Ctx} {ops:Array Oper} {s:FSt} {o:Oper} {rest:List Oper} {f:FV} {wr:List (Nat×zn)} {d:Nat} {tr:List Rec}
theorem zi.nil {Q:FSt→Prop} (h:Q s):zi c ops [] s Q:=fun _ _ _ a w β hQ hF=>hQ s a w β h hF
theorem zi.le {l:List Oper} {Q:FSt→Prop} {s' : FSt} (h:zi c ops l s' Q) (hs:FLe s s'):zi c ops l s Q:=fun QQ w0 J a w β hQ hF=>let ⟨β',h1⟩:=hs _ _ _ _ _ _ hF;h QQ w0 J a w β' hQ h1
theorem zK.nil {Q:FSt→List Rec→Prop} (h:Q s tr):zK c ops [] s tr Q:=⟨[],s,.nil s,by rw [List.append_nil];exact h⟩
theorem zi.cons {Q:FSt→Prop} {s' : FSt} (h:Stp c s o f wr d) (hw:zM ops s o true) (hs:s.app o.dst f wr=s') (k:zi c ops rest s' Q):zi c ops (o::rest) s Q:=fun QQ w0 J a w β hQ hF=>by
 unfold wpList;rw [if_pos (hw.model hF)];exact .inl (h.eff.sound hF o rfl h.dst h.lt fun a' w' β' hF'=>k QQ w0 J a' w' β' hQ (hs▸hF'))
theorem zK.cons {Q:FSt→List Rec→Prop} {s' : FSt} {ft:List Nat} (h:Stp c s o f wr d) (hw:zM ops s o true) (hs:s.app o.dst f wr=s') (hf:yT s d o.op=ft) (k:zK c ops rest s' (tr++[⟨o,f,wr,ft⟩]) Q):zK c ops (o::rest) s tr Q:=by
 obtain ⟨tr',s'',hx,hq⟩:=k;refine ⟨_,s'',.step hw h.dst h.lt h.eff (hs▸hx),?_⟩;rw [hf];simpa using hq
theorem zi.skip {Q:FSt→Prop} {s' : FSt} (hw:zM ops s o false) (hd:∀ d,o.dst=some d→d<c.N) (hs:s.app o.dst (.tup []) []=s') (k:zi c ops rest s' Q):zi c ops (o::rest) s Q:=fun QQ w0 J a w β hQ hF=>by
 unfold wpList;rw [if_neg (by rw [hw.model hF];decide)];refine k QQ w0 J _ w β hQ (hs▸?_);unfold FSt.app;cases hdd:o.dst with
 | none => exact hF
 | some d => exact hF.put (hd d hdd) (VR.of_rd (Rd.tup [] [] rfl zc) rfl) (fun id ver e => by cases e)
theorem zK.skip {Q:FSt→List Rec→Prop} {s' : FSt} (hw:zM ops s o false) (hd:∀ d,o.dst=some d→d<c.N) (hs:s.app o.dst (.tup []) []=s') (k:zK c ops rest s' (tr++[⟨o,.tup [],[],[]⟩]) Q):zK c ops (o::rest) s tr Q:=by
 obtain ⟨tr',s'',hx,hq⟩:=k;refine ⟨_,s'',.skip hw hd (hs▸hx),?_⟩;simpa using hq
end
def FV.flat:FV→Bool
 | .int _ _|.bool _|.str _|.nil => true
 | .agg cs => flats cs
 | .tup cs => flats cs
 | .iface _ f => f.flat
 | _ => false
where flats:List FV→Bool
 | [] => true
 | f :: fs => f.flat && flats fs
theorem FV.flats_get:∀ {fs:List FV},FV.flat.flats fs=true→∀ (j:Nat) f,fs[j]? = some f→f.flat=true
 | [], _, j, f, h => by simp at h
 | g :: fs, h, 0, f, hf => by simp only [FV.flat.flats, Bool.and_eq_true] at h; simp at hf; subst hf; exact h.1
 | g :: fs, h, j+1, f, hf => by simp only [FV.flat.flats, Bool.and_eq_true] at h; simp at hf; exact FV.flats_get h.2 j f hf
theorem Rd.flat {w:World} {I:Nat→Prop} {v:Value} {f:FV} (h:Rd w I v f):f.flat=true→∀ (w' : World) (I' : Nat→Prop),Rd w' I' v f:=by
 induction h with
 | undef v => intro hf; simp [FV.flat] at hf
 | int k n => exact fun _ _ _ => .int k n
 | bool b => exact fun _ _ _ => .bool b
 | str s => exact fun _ _ _ => .str s
 | nil => exact fun _ _ _ => .nil
 | nilm => exact fun _ _ _ => .nilm
 | list => intro hf; simp [FV.flat] at hf
 | eptr => intro hf; simp [FV.flat] at hf
 | perm => intro hf; simp [FV.flat] at hf
 | bnd => intro hf; simp [FV.flat] at hf
 | smap => intro hf; simp [FV.flat] at hf
 | fn => intro hf; simp [FV.flat] at hf
 | iface t v f hr ih => exact fun hf w' I' => .iface t v f (ih (by simpa [FV.flat] using hf) w' I')
 | agg us fs hl hr ih => exact fun hf w' I' => .agg us fs hl fun j u f hu hff => ih j u f hu hff (FV.flats_get hf j f hff) w' I'
 | tup us fs hl hr ih => exact fun hf w' I' => .tup us fs hl fun j u f hu hff => ih j u f hu hff (FV.flats_get hf j f hff) w' I'
theorem FV.flat_hand {f:FV} (h:f.flat=true):f.hand=none:=by cases f <;> first|rfl|(simp [FV.flat] at h)
inductive zh8 (c:Ctx) (s:FSt):ResultVar→FV→Prop where
 | tmp (t:Nat) {f:FV} (h:s.get t=f) (hn:f.hand=none):zh8 c s (.tmp t) f
 | cell (t T:Nat) {bb:Bool} (hk:(c.ty T).k.agg? = some bb) {id ver j o:Nat} (h:s.get t=.ptr id ver j o) (hl:s.live id ver) (hrl:(s.ob id).life.row=true) (hj:j<(s.ob id).es.length) (ho:o+(c.ty T).size≤(s.ob id).sz) (ho' : o<(s.ob id).sz) :
   zh8 c s (.cell t T) (xX (c.ty T) (((s.ob id).es.getD j []).drop o))
inductive Uj (c:Ctx) (s:FSt):List ResultVar→List FV→Prop where
 | nil:Uj c s [] []
 | cons {r:ResultVar} {rs:List ResultVar} {f:FV} {fs:List FV} (h:zh8 c s r f) (hs:Uj c s rs fs):Uj c s (r :: rs) (f :: fs)
def zaK:List FV→FV
 | [f] => f
 | fs => .tup fs
def zb1 (tmps:Array Value):ResultVar→Sem Value
 | .tmp t => pure (tmps.getD t undef)
 | .cell a t => do loadVar t (← asAddr (tmps.getD a undef))
section
variable {c:Ctx} {w0 w:World} {J:JJ} {s:FSt} {a:Act} {β:Nat→Option Nat}
theorem zh8.run (hF:FR c.N w0 J s a w β) {r:ResultVar} {f:FV} (h:zh8 c s r f):∃ v,(zb1 a.tmps r).run c.P w=.ok v w∧Rd w (Imm J w β s) v f:=by
 cases h with
 | tmp t h hn => exact ⟨_, rfl, hF.ev_rd (x := .tmp t) h hn⟩
 | cell t T hk h hl hrl hj ho ho'=>
  obtain ⟨v,w',β',h1,h2,h3,h4⟩:=Xi (dst:=none) (ty:=0) (pos:="") (after:=#[]) (g:=none) hF hk (.tmp t) h hl hrl hj ho ho';obtain ⟨hslic,b,hb,hv⟩:=hF.ev_ptr (x:=.tmp t) h hl.1 hl.2;rename_i id ver j o;obtain ⟨cur,cap,hblk,hn,hm,hcs,hr,hrow⟩:=hF.block hl.1 hrl hb;have hw:=((hF.obj id hl.1).rowR hrl).wide;have hd:=hr.drop (j * (s.ob id).sz+o);rw [ZU _ hw j o hj zb] at hd;have hlen:(((s.ob id).es.getD j []).drop o).length=(s.ob id).sz - o:=by rw [List.length_drop,WC hw hj]
  have hul:=hd.1;rw [List.length_append,hlen] at hul;obtain ⟨v,r1,r2⟩:=YS hk w b (j * (s.ob id).sz+o) ((cur.toList.take ((s.ob id).es.length * (s.ob id).sz)).drop (j * (s.ob id).sz+o)) zb (fun _=>by omega) (fun i u hu=>by
   rw [List.getElem?_drop,List.getElem?_take] at hu;rw [cell_of_row w b _ cur (s.ob id).E (0,0) hblk];split at hu
   ·simpa using hu
   ·cases hu) hd
  rw [Yb zb (fun e=>by rw [e] at hlen;simp at hlen;omega)] at r2;have hv' : a.tmps.getD t undef=.pointer (some ⟨b,j * (s.ob id).sz+o,none⟩):=hv;refine ⟨v,?_,r2⟩;simp only [zb1,hv',asAddr,Sem.run_bind,Sem.run_pure,Result.andThen_ok];exact r1
theorem Uj.run (hF:FR c.N w0 J s a w β):∀ {rs:List ResultVar} {fs:List FV},Uj c s rs fs→∃ vs,(rs.mapM (zb1 a.tmps)).run c.P w=.ok vs w∧RdL w (Imm J w β s) vs fs
 | _, _, .nil => ⟨[], rfl, RdL.nil⟩
 | _, _, .cons h hs => by
  obtain ⟨v,h1,h2⟩:=h.run hF;obtain ⟨vs,h3,h4⟩:=Uj.run hF hs;exact ⟨v::vs,by simp [List.mapM_cons,h1,h3],RdL.cons h2 h4⟩
theorem YQ (hF:FR c.N w0 J s a w β) (fn:Func) {fs:List FV} (h:Uj c s fn.results.toList fs):∃ v,(results fn a.tmps).run c.P w=.ok v w∧Rd w (Imm J w β s) v (zaK fs):=by
 obtain ⟨vs,h1,h2⟩:=h.run hF;have e:results fn a.tmps=(do let vs ← fn.results.mapM (zb1 a.tmps);pure (if h:vs.size=1 then vs[0] else .tuple vs)):=by
  unfold results;congr 1
 have h3:(fn.results.mapM (zb1 a.tmps)).run c.P w=.ok vs.toArray w:=by
  rw [Array.mapM_eq_mapM_toList];simp [h1]
 rw [e];refine ⟨if h:vs.toArray.size=1 then vs.toArray[0] else .tuple vs.toArray,by simp [h3],?_⟩;have hl:=h2.1;split
 ·rename_i hs
  match vs,fs,hl,h2 with
  | [v], [f], _, h2 => exact h2.2 0 v f rfl rfl
  | [], _, _, _ => simp at hs
  | _ :: _ :: _, _, _, _ => simp at hs
  | [_], [], hl, _ => simp at hl
  | [_], _ :: _ :: _, hl, _ => simp at hl
 ·rename_i hs;have:zaK fs=.tup fs:=by
   match fs,hl with
   | [], _ => rfl
   | [f], hl => exact absurd (by simpa using hl) hs
   | _ :: _ :: _, _ => rfl
  rw [this];exact .tup vs fs h2.1 h2.2
end
def entry (args:List FV):FSt:=⟨args.zipIdx.map fun p=>(p.2,p.1),[]⟩
theorem WV (args:List FV) (d:Nat):(entry args).get d=args.getD d .undef:=by
 have key:∀ (l:List FV) (k d:Nat),look FV.undef ((l.zipIdx k).map fun p=>(p.2,p.1)) d=if k≤d then l.getD (d - k) .undef else .undef:=by
  intro l
  induction l with
  | nil => intro k d; simp [look]
  | cons f l ih=>
   intro k d;rw [List.zipIdx_cons,List.map_cons,zE,ih];by_cases h:k=d
   ·subst h;simp
   ·rw [if_neg h];by_cases hk:k≤d
    ·rw [if_pos zb,if_pos hk,show d - k=(d - (k+1))+1 by omega,List.getD_cons_succ]
    ·rw [if_neg zb,if_neg hk]
 have:=key args 0 d;simpa [entry,FSt.get] using this
structure zjq (c:Ctx) (f:Nat) (fn:Func) (code:Code):Prop where
 at_:c.P.funcs[f]? = some fn
 b:fn.body=some code
 n:fn.ntmps=c.N
 g:ziL c.P f=true
theorem FR.entry {N:Nat} {w:World} {I:Nat→Prop} (hI:∀ b,I b→b<w.heap.size) {vs:List Value} {args:List FV} (h:RdL w I vs args) (hn:∀ f∈args,f.hand=none) (hl:args.length≤N) :
  FR N w { ok:=fun b=>I b∨w.heap.size≤b } (entry args) { tmps:=vs.toArray++Array.replicate (N - vs.toArray.size) undef,defers:=[] } w (fun _=>none) where
 size:=by have:=h.1;simp;omega
 defers:=rfl
 bel:=Below.refl _ _
 fresh0 b hb:=.inl (.inr hb)
 slot d:=by
  rw [WV];have him:∀ b,I b→Imm { ok:=fun b=>I b∨w.heap.size≤b } w (fun _=>none) (Ytlnehfplfoikaaa.entry args) b∧w.heap[b]? = w.heap[b]?:=fun b hb=>⟨⟨hI b hb,.inl hb,fun id _=>by simp⟩,rfl⟩
  rcases Nat.lt_or_ge d args.length with hd|hd
  ·have hd' : d<vs.length:=by rw [h.1];exact hd
   have e1:args.getD d .undef=args[d]:=by simp [hd]
   have e2:(vs.toArray++Array.replicate (N - vs.toArray.size) undef).getD d undef=vs[d]:=by
    rw [Array.getD_eq_getD_getElem?,Array.getElem?_append_left (by simpa using hd')];simp [hd']
   rw [e1,e2];exact VR.of_rd ((h.2 d _ _ (by simp [hd']) (by simp [hd])).mono him) (hn _ (List.getElem_mem hd))
  ·have e1:args.getD d .undef=.undef:=by simp [hd]
   rw [e1];exact VR.of_rd (.undef _) rfl
 vers d id ver hf:=by
  rw [WV] at hf;rcases Nat.lt_or_ge d args.length with hd|hd
  ·have e1:args.getD d .undef=args[d]:=by simp [hd]
   rw [e1] at hf;exact (FV.no_hands (hn _ (List.getElem_mem hd)) hf).elim
  ·have e1:args.getD d .undef=.undef:=by simp [hd]
   rw [e1] at hf;cases hf
 obj id hl:=absurd rfl hl
 inj id id' b hl:=absurd rfl hl
 kept b hb:=hb.elim
 gh v f hg:=hg.elim
inductive Ret (c:Ctx) (fn:Func) (s:FSt):za1→FV→Prop where
 | flat {fs:List FV} {f:FV} (h:Uj c s fn.results.toList fs) (he:zaK fs=f) (hf:f.flat=true):Ret c fn s .fr f
 | sh {fs:List FV} {f:FV} (h:Uj c s fn.results.toList fs) (he:zaK fs=f) (hf:f.hand=none):Ret c fn s .sh f
 | ow {t id ver n:Nat} (hr:fn.results.toList=[.tmp t]) (h:s.get t=.own id ver 0 n) (hl:(s.ob id).life=.own) (hv:(s.ob id).ver=ver) (hn:n=(s.ob id).es.length) (hp:0<(s.ob id).sz) (hflat:∀ e∈(s.ob id).es,FV.flat.flats e=true) :
   Ret c fn s (.ow (s.ob id).E (s.ob id).sz) (.list (s.ob id).sz (s.ob id).es)
 | owNil {t:Nat} (E sz:Nat) (hr:fn.results.toList=[.tmp t]) (h:s.get t=.nil):Ret c fn s (.ow E sz) (.list sz [])
theorem zav {es:List (List FV)} (h:∀ e∈es,FV.flat.flats e=true):∀ f∈es.flatten,f.flat=true:=by
 intro f hf;obtain ⟨e,he,hfe⟩:=List.mem_flatten.1 hf;obtain ⟨j,hj,rfl⟩:=List.getElem_of_mem hfe;exact FV.flats_get (h e he) j _ (by simp [hj])
theorem zY.of_body {c:Ctx} {f:Nat} {fn:Func} {code:Code} (hf:zjq c f fn code) {args:List FV} {m:za1} {res:FV} (hn:∀ f∈args,f.hand=none) (hl:args.length≤c.N) (hh:res.hand=none)
  (h:FW c code (fun e s=>(e=.ret∨e=.normal)∧Ret c fn s m res) (entry args)):zY c.P f args m res where
 go:=hf.g
 hand:=hh
 calls w I vs hI hv:=by
  refine calls_of_wp hf.at_ hf.b ?_;rw [hf.n];refine wp_mono (Wf c.mixed (h w _ _ w _ (FR.entry hI hv hn hl))) ?_;rintro e a' w' ⟨s',β',⟨he,hr⟩,hF⟩;have key:a'.defers=[]∧∃ v,(results fn a'.tmps).run c.P w'=.ok v w'∧∃ v',Ending.returned v=.returned v'∧Below w.heap.size w w'∧zgV w w' I m v' res:=by
   refine ⟨hF.defers,?_⟩;cases hr with
   | flat hrs he hfl =>
    obtain ⟨v,h1,h2⟩:=YQ hF fn hrs;rw [he] at h2;exact ⟨v,h1,v,rfl,hF.bel,h2.flat hfl _ _⟩
   | sh hrs he hfl =>
    obtain ⟨v,h1,h2⟩:=YQ hF fn hrs;rw [he] at h2;refine ⟨v,h1,v,rfl,hF.bel,h2.mono fun b hb=>⟨?_,rfl⟩⟩;rcases hb.2.1 with h|h
    ·exact .inl h
    ·exact .inr ⟨h,hb.1⟩
   | @ow t id ver n hrs hg hlv hv hn hp hflat=>
    have hlive:(s'.ob id).life≠.dead:=by rw [hlv];decide
    obtain ⟨A,cc,e1,e2,e3,e4,e5⟩:=(hF.ev_own (x:=.tmp t) hg hlive hv).ex;have hrl:(s'.ob id).life.row=true:=by rw [hlv];rfl
    obtain ⟨v,us,r1,r2,r3⟩:=((hF.obj id hlive).rowR hrl).row;have hw:=((hF.obj id hlive).rowR hrl).wide;have hone:=((hF.obj id hlive).rowR hrl).one;have hveq:a'.tmps.getD t undef=v:=by
     have e1' : a'.tmps.getD t undef=.slice A n cc:=e1;rw [e1'];rcases r1.2 with ⟨rfl,h0⟩|⟨b,cap,cur,rfl,_,hgg,_,_,hcs,_⟩
     ·have hb0:β' id=none:=by rw [← r2];rfl
      obtain ⟨rfl,rfl⟩:=e4 hb0;rw [hn,h0]
     ·have hb0:β' id=some b:=by rw [← r2];rfl
      obtain ⟨o',rfl,k2,k3⟩:=e5 b hb0;have:=k3 cur hgg;rw [hcs,Nat.zero_add] at this;have hcc:cap=cc:=Nat.eq_of_mul_eq_mul_right hp this;rw [k2 (.inr rfl),hcc,hn];simp
    refine ⟨v,?_,v,rfl,hF.bel,_,us,rfl,hw,hone,r1,?_⟩
    ·have hra:fn.results=#[.tmp t]:=by apply Array.ext';simpa using hrs
     rw [results_tmp hra,hveq]
    ·have hfl:=zav hflat;exact ⟨r3.1,fun j u f hu hf=>(r3.2 j u f hu hf).flat (hfl f (List.mem_of_getElem? hf)) _ _⟩
   | @owNil t E sz hrs hg =>
    refine ⟨.slice none 0 0,?_,_,rfl,hF.bel,[],[],rfl,by simp,by simp,World.ownsRow_nil _ _ _ _,RdL.nil⟩;have hra:fn.results=#[.tmp t]:=by apply Array.ext';simpa using hrs
    rw [results_tmp hra];have:=hF.ev_nil (x:=.tmp t) hg;have:a'.tmps.getD t undef=.slice none 0 0:=this;rw [this]
  rcases he with rfl|rfl
  ·exact key
  ·exact key
end Go.Proofs.Ytlnehfplfoikaaa
