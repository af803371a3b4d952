/-
  Some texts as one: Types, Maps, HCheck, FmT, FmO, CheckBase, Around, FmHist0, ShelfI, FmSort, Row, RowOps, RowFm.
-/
import Derived.Test.YtlnehfplfoikaaaZA
import Derived.Test.YtlnehfplfoikaaaProg
import Derived.KernelRfl
import Derived.Maps.OwnSet
import Derived.DeepKeys4
import Derived.Deep.RegionHeld3
import Derived.Deep.DrawnRows
import Derived.Deep.DeepCutAuto
import Derived.Test.YtlnehfplfoikaaaZFmDw
import Derived.Test.YtlnehfplfoikaaaZC
import Derived.Test.YtlnehfplfoikaaaChecked
import Derived.Shelf.Sort.Plain
import Derived.Shelf.Slices.CompactI
import Derived.ProofKit
import Derived.OpenShut
import Derived.ShutString
import Derived.ChangeOld
import Derived.Below
import Derived.Deep.Slices
import Derived.Deep.Fields
import Derived.ChangeSame
namespace Go.Proofs.Ytlnehfplfoikaaa
set_option linter.unusedVariables false
set_option maxHeartbeats 16000000
section
open Go.RowKit
structure OpV where
 p:Int
 k:Int
 key:Int
 arg:Int
 res:Int
 call:Int
 ret:Int
 done:Bool
 deriving DecidableEq,Inhabited
def OpV.vals (o:OpV):List Value:=[.int .i64 o.p,.int .i64 o.k,.int .i64 o.key,.int .i64 o.arg,.int .i64 o.res,.int .i64 o.call,.int .i64 o.ret,.bool o.done]
def ziK (x:Int):List Value:=[.int .i64 x]
section
variable {w:World} {B:Nat} {A:Option Addr}
end
theorem Zl (l:List Int):flat ziK l=l.map (Value.int .i64):=by
 induction l with
 | nil => rfl
 | cons a l ih => simp only [flat, List.flatMap_cons, ziK, List.map_cons, List.cons_append, List.nil_append] at *; rw [ih]
def zjv (x y:OpV):Bool:=decide (x=y)
@[go_sem] theorem OpV.eta (x:OpV):(⟨x.p,x.k,x.key,x.arg,x.res,x.call,x.ret,x.done⟩:OpV)=x:=rfl
@[go_sem ↓] theorem eqIn_op (w:World) (a1 a2 a3 a4 a5 a6 a7 b1 b2 b3 b4 b5 b6 b7:Int) (a8 b8:Bool):(Op.equalIn 10000 37 (.agg #[.int .i64 a1,.int .i64 a2,.int .i64 a3,.int .i64 a4,.int .i64 a5,.int .i64 a6,.int .i64 a7,.bool a8])
  (.agg #[.int .i64 b1,.int .i64 b2,.int .i64 b3,.int .i64 b4,.int .i64 b5,.int .i64 b6,.int .i64 b7,.bool b8])).run Try.prog w=.ok (zjv ⟨a1,a2,a3,a4,a5,a6,a7,a8⟩ ⟨b1,b2,b3,b4,b5,b6,b7,b8⟩) w:=by
 unfold zjv;have hS:Try.prog.underlying 37=some (.struct (Try.prog.fieldsOf 37)):=by kernel_rfl
 have hp:Try.prog.stoodInHeld 37=false:=by kernel_rfl
 rw [show (10000:Nat)=9999+1 from rfl,run_equalIn_agg w 9999 37 _ _ hS hp];simp only [Program.fieldsOf,Try.underlying37];simp [go_sem];by_cases h1:a1=b1
 ·by_cases h2:a2=b2
  ·by_cases h3:a3=b3
   ·by_cases h4:a4=b4
    ·by_cases h5:a5=b5
     ·by_cases h6:a6=b6
      ·by_cases h7:a7=b7
       ·by_cases h8:a8=b8 <;> simp [h1,h2,h3,h4,h5,h6,h7,h8]
       ·simp [h1,h2,h3,h4,h5,h6,h7]
      ·simp [h1,h2,h3,h4,h5,h6]
     ·simp [h1,h2,h3,h4,h5]
    ·simp [h1,h2,h3,h4]
   ·simp [h1,h2,h3]
  ·simp [h1,h2]
 ·simp [h1]
end
section
open Go.RowKit Go.Maps Go.MapKept Go.ChangeMaps
section
variable {κ:Type} {ek:κ→Value} {ok:κ→Prop} {P:Program} {k:TypeId} {w w' : World} {b n:Nat} {f:κ→Option Value}
end
end
section
open Go.RowKit
attribute [local go_sem ↓] Go.wp_at_zero Go.wp_at_succ
def zgU (o:OpV):Prop:=I64 o.p∧I64 o.k∧I64 o.key∧I64 o.arg∧I64 o.res∧I64 o.call∧I64 o.ret
end
section
set_option maxRecDepth 100000
def ziA:List (Nat×TS):=[
 (3,⟨.int .i64,1,8,[.int .i64 0]⟩),
 (4,⟨.bool,1,1,[.bool false]⟩),
 (1,⟨.any,1,8,[.undef]⟩),
 (2,⟨.int .i64,1,8,[.int .i64 0]⟩),
 (5,⟨.int .u8,1,1,[.int .u8 0]⟩),
 (6,⟨.int .u8,1,1,[.int .u8 0]⟩),
 (7,⟨.strct [(0,2),(1,3),(2,4),(3,6)],4,24,[.int .i64 0,.int .i64 0,.bool false,.int .u8 0]⟩),
 (8,⟨.strct [(0,2),(1,3),(2,4),(3,6)],4,24,[.int .i64 0,.int .i64 0,.bool false,.int .u8 0]⟩),
 (9,⟨.str,1,16,[.str ByteArray.empty]⟩),
 (10,⟨.str,1,16,[.str ByteArray.empty]⟩),
 (11,⟨.str,1,16,[.str ByteArray.empty]⟩),
 (12,⟨.int .u64,1,8,[.int .u64 0]⟩),
 (13,⟨.strct [(0,9),(1,12)],2,24,[.str ByteArray.empty,.int .u64 0]⟩),
 (14,⟨.strct [(0,9),(1,12)],2,24,[.str ByteArray.empty,.int .u64 0]⟩),
 (15,⟨.any,1,8,[.undef]⟩),
 (16,⟨.any,1,8,[.undef]⟩),
 (17,⟨.any,1,8,[.undef]⟩),
 (18,⟨.strct [(0,17)],1,8,[.undef]⟩),
 (19,⟨.strct [(0,17)],1,8,[.undef]⟩),
 (20,⟨.any,1,16,[.undef]⟩),
 (21,⟨.int .i32,1,4,[.int .i32 0]⟩),
 (22,⟨.slice 3,1,24,[.nil]⟩),
 (23,⟨.slice 37,1,24,[.nil]⟩),
 (24,⟨.any,1,8,[.undef]⟩),
 (25,⟨.slice 28,1,24,[.nil]⟩),
 (26,⟨.any,1,8,[.undef]⟩),
 (27,⟨.strct [(0,3),(1,3),(2,3)],3,24,[.int .i64 0,.int .i64 0,.int .i64 0]⟩),
 (28,⟨.strct [(0,3),(1,3),(2,3)],3,24,[.int .i64 0,.int .i64 0,.int .i64 0]⟩),
 (29,⟨.strct [(0,22),(1,25)],2,48,[.nil,.nil]⟩),
 (30,⟨.strct [(0,22),(1,25)],2,48,[.nil,.nil]⟩),
 (31,⟨.strct [(0,3),(1,3),(2,3),(3,30)],5,72,[.int .i64 0,.int .i64 0,.int .i64 0,.nil,.nil]⟩),
 (32,⟨.strct [(0,3),(1,3),(2,3),(3,30)],5,72,[.int .i64 0,.int .i64 0,.int .i64 0,.nil,.nil]⟩),
 (33,⟨.int .i64,1,8,[.int .i64 0]⟩),
 (35,⟨.any,1,8,[.undef]⟩),
 (36,⟨.strct [(0,3),(1,3),(2,3),(3,3),(4,3),(5,3),(6,3),(7,4)],8,64,[.int .i64 0,.int .i64 0,.int .i64 0,.int .i64 0,.int .i64 0,.int .i64 0,.int .i64 0,.bool false]⟩),
 (37,⟨.strct [(0,3),(1,3),(2,3),(3,3),(4,3),(5,3),(6,3),(7,4)],8,64,[.int .i64 0,.int .i64 0,.int .i64 0,.int .i64 0,.int .i64 0,.int .i64 0,.int .i64 0,.bool false]⟩),
 (38,⟨.any,1,8,[.undef]⟩),
 (39,⟨.any,1,8,[.undef]⟩),
 (40,⟨.any,1,8,[.undef]⟩),
 (41,⟨.slice 22,1,24,[.nil]⟩),
 (42,⟨.any,1,8,[.undef]⟩),
 (43,⟨.slice 48,1,24,[.nil]⟩),
 (44,⟨.any,1,8,[.undef]⟩),
 (45,⟨.any,1,8,[.undef]⟩),
 (46,⟨.any,1,8,[.undef]⟩),
 (47,⟨.strct [(0,3),(1,46)],2,16,[.int .i64 0,.undef]⟩),
 (48,⟨.strct [(0,3),(1,46)],2,16,[.int .i64 0,.undef]⟩),
 (49,⟨.map 54 3,1,8,[.nilm]⟩),
 (51,⟨.any,1,8,[.undef]⟩),
 (53,⟨.strct [(0,3),(1,3)],2,16,[.int .i64 0,.int .i64 0]⟩),
 (54,⟨.strct [(0,3),(1,3)],2,16,[.int .i64 0,.int .i64 0]⟩),
 (55,⟨.slice 56,1,24,[.nil]⟩),
 (56,⟨.arr 2 3,2,16,[.int .i64 0,.int .i64 0]⟩),
 (57,⟨.any,1,8,[.undef]⟩),
 (58,⟨.any,1,8,[.undef]⟩),
 (60,⟨.any,1,8,[.undef]⟩),
 (61,⟨.any,1,8,[.undef]⟩),
 (62,⟨.any,1,8,[.undef]⟩),
 (63,⟨.any,1,8,[.undef]⟩),
 (64,⟨.any,1,8,[.undef]⟩),
 (65,⟨.any,1,8,[.undef]⟩),
 (66,⟨.any,1,8,[.undef]⟩),
 (67,⟨.any,1,8,[.undef]⟩),
 (68,⟨.any,1,8,[.undef]⟩),
 (69,⟨.any,1,8,[.undef]⟩),
 (70,⟨.any,1,8,[.undef]⟩),
 (71,⟨.any,1,8,[.undef]⟩),
 (72,⟨.any,1,8,[.undef]⟩),
 (73,⟨.any,1,8,[.undef]⟩),
 (74,⟨.any,1,8,[.undef]⟩),
 (75,⟨.any,1,8,[.undef]⟩),
 (76,⟨.slice 3,1,24,[.nil]⟩),
 (77,⟨.any,1,8,[.undef]⟩),
 (78,⟨.any,1,8,[.undef]⟩),
 (79,⟨.any,1,8,[.undef]⟩),
 (80,⟨.any,1,8,[.undef]⟩),
 (81,⟨.any,1,8,[.undef]⟩),
 (82,⟨.any,1,8,[.undef]⟩),
 (83,⟨.any,1,8,[.undef]⟩),
 (84,⟨.any,1,8,[.undef]⟩),
 (85,⟨.any,1,8,[.undef]⟩),
 (86,⟨.any,1,8,[.undef]⟩),
 (87,⟨.int .u64,1,8,[.int .u64 0]⟩),
 (90,⟨.any,1,8,[.undef]⟩),
 (91,⟨.any,1,8,[.undef]⟩),
 (92,⟨.any,1,8,[.undef]⟩),
 (93,⟨.any,1,8,[.undef]⟩),
 (94,⟨.any,1,8,[.undef]⟩),
 (95,⟨.any,1,8,[.undef]⟩),
 (96,⟨.any,1,8,[.undef]⟩),
 (97,⟨.any,1,8,[.undef]⟩),
 (99,⟨.any,1,8,[.undef]⟩),
 (100,⟨.any,1,8,[.undef]⟩),
 (101,⟨.int .i64,1,8,[.int .i64 0]⟩),
 (103,⟨.any,1,8,[.undef]⟩),
 (104,⟨.any,1,8,[.undef]⟩),
 (105,⟨.any,1,8,[.undef]⟩),
 (106,⟨.any,1,8,[.undef]⟩),
 (107,⟨.any,1,8,[.undef]⟩),
 (108,⟨.int .u32,1,4,[.int .u32 0]⟩),
 (109,⟨.any,1,8,[.undef]⟩),
 (110,⟨.int .u64,1,8,[.int .u64 0]⟩),
 (112,⟨.any,1,8,[.undef]⟩),
 (114,⟨.any,1,8,[.undef]⟩),
 (115,⟨.int .u64,1,8,[.int .u64 0]⟩),
 (116,⟨.any,1,8,[.undef]⟩),
 (117,⟨.any,1,8,[.undef]⟩),
 (118,⟨.any,1,8,[.undef]⟩),
 (119,⟨.any,1,8,[.undef]⟩),
 (120,⟨.any,1,8,[.undef]⟩),
 (121,⟨.any,1,8,[.undef]⟩),
 (123,⟨.any,1,8,[.undef]⟩),
 (124,⟨.any,1,8,[.undef]⟩),
 (125,⟨.strct [(0,17),(1,17),(2,17),(3,9)],4,40,[.undef,.undef,.undef,.str ByteArray.empty]⟩),
 (126,⟨.strct [(0,17),(1,17),(2,17),(3,9)],4,40,[.undef,.undef,.undef,.str ByteArray.empty]⟩),
 (127,⟨.arr 0 16,0,0,[]⟩),
 (130,⟨.int .u8,1,1,[.int .u8 0]⟩),
 (131,⟨.int .u8,1,1,[.int .u8 0]⟩),
 (132,⟨.any,1,8,[.undef]⟩),
 (133,⟨.any,1,8,[.undef]⟩),
 (134,⟨.int .i32,1,4,[.int .i32 0]⟩),
 (135,⟨.int .i32,1,4,[.int .i32 0]⟩),
 (136,⟨.strct [(0,12),(1,12),(2,108),(3,130),(4,5),(5,5),(6,131),(7,132),(8,133),(9,134),(10,135)],11,48,[.int .u64 0,.int .u64 0,.int .u32 0,.int .u8 0,.int .u8 0,.int .u8 0,.int .u8 0,.undef,.undef,.int .i32 0,.int .i32 0]⟩),
 (137,⟨.strct [(0,12),(1,12),(2,108),(3,130),(4,5),(5,5),(6,131),(7,132),(8,133),(9,134),(10,135)],11,48,[.int .u64 0,.int .u64 0,.int .u32 0,.int .u8 0,.int .u8 0,.int .u8 0,.int .u8 0,.undef,.undef,.int .i32 0,.int .i32 0]⟩)]
def zjb (T:Nat):TS:=look {} ziA T
theorem zgM:ziA.all (fun p=>match p.2.k with|.other=>true|_=>YU Try.prog p.1 p.2)=true:=by kernel_rfl
theorem zdJ {α:Type} {d:α} {q:Nat→α→Bool} (hd:∀ T,q T d=true):∀ (l:List (Nat×α)),l.all (fun p=>q p.1 p.2)=true→∀ T,q T (look d l T)=true
 | [], _, T => hd T
 | (i, a) :: l, h, T => by
  rw [List.all_cons,Bool.and_eq_true] at h;rw [zE];split
  ·rename_i e;subst e;exact h.1
  ·exact zdJ hd l h.2 T
theorem zD (T:Nat):(match (zjb T).k with|.other=>true|_=>YU Try.prog T (zjb T))=true:=
 zdJ (q:=fun T ts=>match ts.k with|.other=>true|_=>YU Try.prog T ts) (fun _=>rfl) ziA zgM T
theorem zq:Try.prog.follows .mixedOrders=true:=by kernel_rfl
def xa (P:Program) (h1:∀ T,(match (zjb T).k with|.other=>true|_=>YU P T (zjb T))=true) (h2:P.follows .mixedOrders=true) (N:Nat):Ctx:=⟨P,N,zjb,h1,h2⟩
end
section
open Go.RowKit
structure Typ {α:Type} (sz:Nat) (vals:α→List Value) (fv:α→List FV):Prop where
 rd:∀ w I x,RdL w I (vals x) (fv x)
 inv:∀ w I us x,RdL w I us (fv x)→us=vals x
 wide:∀ x,(fv x).length=sz
 one:∀ x,∀ f∈fv x,f.one=true
 flat:∀ x,FV.flat.flats (fv x)=true
section
variable {α:Type} {sz:Nat} {vals:α→List Value} {fv:α→List FV}
theorem Typ.flatRd (T:Typ sz vals fv) (w:World) (I:Nat→Prop):∀ l:List α,RdL w I (Ytlnehfplfoikaaa.flat vals l) (l.map fv).flatten
 | [] => RdL.nil
 | x :: l => by
  simp only [Ytlnehfplfoikaaa.flat,List.flatMap_cons,List.map_cons,List.flatten_cons];exact (T.rd w I x).append (T.flatRd w I l)
theorem Typ.flatInv (T:Typ sz vals fv) (w:World) (I:Nat→Prop):∀ (l:List α) (us:List Value),RdL w I us (l.map fv).flatten→us=Ytlnehfplfoikaaa.flat vals l
 | [], us, h => by have := h.1; simpa [Ytlnehfplfoikaaa.flat] using this
 | x :: l, us, h => by
  have h':=h;simp only [List.map_cons,List.flatten_cons] at h;have hl:=T.wide x;have h1:=h.take sz;have h2:=h.drop sz;rw [List.take_left' hl] at h1;rw [List.drop_left' hl] at h2;have e1:=T.inv w I _ x h1;have e2:=T.flatInv w I l _ h2;simp only [Ytlnehfplfoikaaa.flat,List.flatMap_cons];rw [← e1,show List.flatMap vals l=Ytlnehfplfoikaaa.flat vals l from rfl,← e2,List.take_append_drop]
theorem Typ.wideM (T:Typ sz vals fv) (l:List α):∀ e∈l.map fv,e.length=sz:=fun e he=>by
 obtain ⟨x,_,rfl⟩:=List.mem_map.1 he;exact T.wide x
theorem Typ.oneM (T:Typ sz vals fv) (l:List α):∀ f∈(l.map fv).flatten,f.one=true:=fun f hf=>by
 obtain ⟨e,he,hfe⟩:=List.mem_flatten.1 hf;obtain ⟨x,_,rfl⟩:=List.mem_map.1 he;exact T.one x f hfe
theorem Typ.to (T:Typ sz vals fv) {w:World} {B:Nat} {A:Option Addr} {l:List α} {c:Nat} (h:Sl vals w B A l) (hc:l.length≤c):Rd w (fun b=>b<B) (.slice A l.length c) (.list sz (l.map fv)):=by
 have hR:=T.flatRd w (fun b=>b<B) l;refine .list A l.length c sz _ (Ytlnehfplfoikaaa.flat vals l) zc hc (T.wideM l) (T.oneM l) (fun h0=>?_) hR.1 hR.2;obtain ⟨b,off,ha,hb,hcell⟩:=h (fun e=>h0 (by rw [e];rfl));exact ⟨b,off,ha,hb,hcell⟩
end
theorem Rd.int_inv {w:World} {I:Nat→Prop} {v:Value} {k:IntKind} {n:Int} (h:Rd w I v (.int k n)):v=.int k n:=by cases h;rfl
theorem Rd.bool_inv {w:World} {I:Nat→Prop} {v:Value} {b:Bool} (h:Rd w I v (.bool b)):v=.bool b:=by cases h;rfl
theorem RdL.cons_inv {w:World} {I:Nat→Prop} {us:List Value} {f:FV} {fs:List FV} (h:RdL w I us (f::fs)):∃ u vs,us=u::vs∧Rd w I u f∧RdL w I vs fs:=by
 cases us with
 | nil => have := h.1; simp at this
 | cons u vs => exact ⟨u, vs, rfl, h.2 0 u f rfl rfl, by have := h.1; simpa using this, fun j u' f' hu hf => h.2 (j+1) u' f' (by simpa using hu) (by simpa using hf)⟩
theorem RdL.nil_inv {w:World} {I:Nat→Prop} {us:List Value} (h:RdL w I us []):us=[]:=by have:=h.1;simpa using this
theorem RdL.inv1 {w:World} {I:Nat→Prop} {vs:List Value} {f0:FV} (h:RdL w I vs [f0]):∃ u0,vs=[u0]∧Rd w I u0 f0:=by
 obtain ⟨u0,r0,rfl,e0,h0⟩:=h.cons_inv;have:=h0.nil_inv;subst this;exact ⟨u0,rfl,e0⟩
theorem RdL.inv2 {w:World} {I:Nat→Prop} {vs:List Value} {f0 f1:FV} (h:RdL w I vs [f0,f1]):∃ u0 u1,vs=[u0,u1]∧Rd w I u0 f0∧Rd w I u1 f1:=by
 obtain ⟨u0,r0,rfl,e0,h0⟩:=h.cons_inv;obtain ⟨u1,r1,rfl,e1,h1⟩:=h0.cons_inv;have:=h1.nil_inv;subst this;exact ⟨u0,u1,rfl,e0,e1⟩
def zj (x:Int):List FV:=[.int .i64 x]
theorem zgR:Typ 1 ziK zj where
 rd w I x:=RdL.cons (.int _ _) .nil
 inv w I us x h:=by
  obtain ⟨u,vs,rfl,h1,h2⟩:=h.cons_inv;rw [h1.int_inv,h2.nil_inv];rfl
 wide x:=rfl
 one x f hf:=by simp [zj] at hf;subst hf;rfl
 flat x:=rfl
def OpV.fv (o:OpV):List FV:=[.int .i64 o.p,.int .i64 o.k,.int .i64 o.key,.int .i64 o.arg,.int .i64 o.res,.int .i64 o.call,.int .i64 o.ret,.bool o.done]
theorem opT:Typ 8 OpV.vals OpV.fv where
 rd w I x:=RdL.cons (.int _ _) <| RdL.cons (.int _ _) <| RdL.cons (.int _ _) <| RdL.cons (.int _ _) <| RdL.cons (.int _ _) <| RdL.cons (.int _ _) <| RdL.cons (.int _ _) <| RdL.cons (.bool _) .nil
 inv w I us x h:=by
  obtain ⟨_,_,rfl,h1,h⟩:=h.cons_inv;obtain ⟨_,_,rfl,h2,h⟩:=h.cons_inv;obtain ⟨_,_,rfl,h3,h⟩:=h.cons_inv;obtain ⟨_,_,rfl,h4,h⟩:=h.cons_inv;obtain ⟨_,_,rfl,h5,h⟩:=h.cons_inv;obtain ⟨_,_,rfl,h6,h⟩:=h.cons_inv;obtain ⟨_,_,rfl,h7,h⟩:=h.cons_inv;obtain ⟨_,_,rfl,h8,h⟩:=h.cons_inv;rw [h1.int_inv,h2.int_inv,h3.int_inv,h4.int_inv,h5.int_inv,h6.int_inv,h7.int_inv,h8.bool_inv,h.nil_inv];rfl
 wide x:=rfl
 one x f hf:=by simp [OpV.fv] at hf;rcases hf with rfl|rfl|rfl|rfl|rfl|rfl|rfl|rfl <;> rfl
 flat x:=rfl
theorem zY.law {P:Program} {f:Nat} {args:List FV} (h:zY P f args .fr (.bool true)) {w:World} {vs:List Value} (hv:RdL w (fun b=>b<w.heap.size) vs args):Calls P f vs.toArray w fun e w'=>e=.returned (.bool true)∧Below w.heap.size w w':=by
 refine (h.calls w _ vs (fun b hb=>hb) hv).mono ?_;rintro e w' ⟨v,rfl,hb,hr⟩;have hr' : Rd w' _ v (.bool true):=hr;rw [hr'.bool_inv];exact ⟨rfl,hb⟩
theorem VG {c:Ctx} {fn:Func} {t:List (Nat×FV)} {ob:List (Nat×zn)} {d id ver n E sz:Nat} {es es' : List (List FV)} (hr:fn.results.toList=[.tmp d]) (h:look .undef t d=.own id ver 0 n) (hb:look {} ob id=⟨ver,.own,E,sz,es⟩) (hn:n=es.length) (hp:0<sz) (e:es=es')
  (hf:∀ e∈es',FV.flat.flats e=true):Ret c fn ⟨t,ob⟩ (.ow E sz) (.list sz es'):=by
 subst e;have hb' : (⟨t,ob⟩:FSt).ob id=⟨ver,.own,E,sz,es⟩:=hb;have:=Ret.ow (c:=c) (fn:=fn) (s:=⟨t,ob⟩) hr h (by rw [hb']) (by rw [hb']) (by rw [hb'];exact hn) (by rw [hb'];exact hp) (by rw [hb'];exact hf);rw [hb'] at this;exact this
theorem zm {c:Ctx} {fn:Func} {s:FSt} {d:Nat} {f f' : FV} (hr:fn.results.toList=[.tmp d]) (h:s.get d=f) (e:f=f') (hf:f'.flat=true):Ret c fn s .fr f':=by
 subst e;exact .flat (fs:=[f]) (by rw [hr];exact .cons (.tmp d h (FV.flat_hand hf)) .nil) rfl hf
theorem Typ.flatsM {α:Type} {sz:Nat} {vals:α→List Value} {fv:α→List FV} (T:Typ sz vals fv) (l:List α):∀ e∈l.map fv,FV.flat.flats e=true:=fun e he=>by
 obtain ⟨x,_,rfl⟩:=List.mem_map.1 he;exact T.flat x
theorem xt {c:Ctx} {t:List (Nat×FV)} {ob:List (Nat×zn)} {d T id ver E sz by_:Nat} {kk:TK} {z cs:List FV} {lf:zX} (h:look .undef t d=.ptr id ver 0 0) (hb:look {} ob id=⟨ver,lf,E,sz,[cs]⟩) (hl:lf.row=true) (hT:c.ty T=⟨kk,sz,by_,z⟩) (hk:kk.agg? = some true)
  (hlen:cs.length=sz) (hp:0<sz):zh8 c ⟨t,ob⟩ (.cell d T) (.agg cs):=by
 have hb' : (⟨t,ob⟩:FSt).ob id=⟨ver,lf,E,sz,[cs]⟩:=hb;have hk' : (c.ty T).k.agg? = some true:=by rw [hT];exact hk
 have:=zh8.cell (c:=c) (s:=⟨t,ob⟩) d T hk' h (zN hb (zX.row_ne hl)) (by rw [hb'];exact hl) (by rw [hb'];exact Nat.zero_lt_one) (by rw [hb',hT];simp) (by rw [hb'];exact hp);rw [hb'] at this;unfold xX at this;rw [hk'] at this;dsimp only at this;rw [hT,List.drop_zero] at this;simpa [List.take_of_length_le (Nat.le_of_eq hlen)] using this
end
section
open Go.RowKit
def xA (n most:Int):Int:=(if n<0 then -(n+1) else n) % most
theorem za3 {n most:Int} (h:0<most):0≤xA n most:=Int.emod_nonneg _ zb
theorem zfC {n most:Int} (h:0<most):xA n most<most:=Int.emod_lt_of_pos _ h
theorem zed (n most:Int) (w:World) (hn:I64 n) (h1:1≤most) (h2:most≤4611686018427387904) :
  Calls Try.prog 10 #[.int .i64 n,.int .i64 most] w fun e w'=>e=.returned (.int .i64 (xA n most))∧w=w':=by
 unfold I64 at hn;obtain ⟨g1,g2⟩:=hn;by_cases hneg:n<0
 ·have e:xA n most=(-(n+1)) % most:=by simp [xA,hneg]
  rw [e];clear e
  go_enter Try.func10,Try.ntmps10
  go_wp2
  go_ret
  have e2:-(n+1).tmod most=(-(n+1)) % most:=by rw [← Int.neg_tmod,Int.tmod_eq_emod_of_nonneg zb]
  exact ⟨by simp [e2],rfl⟩
 ·have e:xA n most=n % most:=by simp [xA,hneg]
  rw [e];clear e
  go_enter Try.func10,Try.ntmps10
  go_wp2
  go_ret
  exact ⟨rfl,rfl⟩
theorem zcy (n most:Int) (hn:I64 n) (h1:1≤most) (h2:most≤4611686018427387904):zY Try.prog 10 [.int .i64 n,.int .i64 most] .fr (.int .i64 (xA n most)) where
 go:=by kernel_rfl
 hand:=rfl
 calls w I vs hI hv:=by
  obtain ⟨_,_,rfl,e1,e2⟩:=hv.inv2;rw [e1.int_inv,e2.int_inv];refine (zed n most w hn h1 h2).mono ?_;rintro e w' ⟨rfl,rfl⟩;exact ⟨_,rfl,Below.refl _ _,.int _ _⟩
end
section
open Go.Shelf
def zi1:Go.Shelf.Ren:=
{
 f:=fun x=>
  match x with
  | 189 => 50
  | 125 => 59
  | 257 => 58
  | 128 => 70
  | 129 => 71
  | 294 => 61
  | 295 => 62
  | 296 => 63
  | 297 => 64
  | 298 => 65
  | 299 => 66
  | 216 => 67
  | 300 => 68
  | 301 => 69
  | 328 => 74
  | 329 => 75
  | 330 => 76
  | 331 => 77
  | 332 => 78
  | 215 => 53
  | 343 => 79
  | n => n,
 t:=fun x=>
  match x with
  | 28 => 22
  | 3 => 3
  | 46 => 87
  | 0 => 0
  | 51 => 108
  | 53 => 110
  | 4 => 4
  | 183 => 102
  | 182 => 101
  | 131 => 52
  | 5 => 5
  | 9 => 9
  | 218 => 115
  | 222 => 119
  | 228 => 121
  | 229 => 122
  | n => n,
 g:=fun x=>
  have n:=x;
  n }
theorem zf8:Lays.n189 Try.prog zi1 where
 mixed:=by kernel_rfl
 f125:=by kernel_rfl
 f128:=by kernel_rfl
 f129:=by kernel_rfl
 f189:=by kernel_rfl
 f215:=by kernel_rfl
 f216:=by kernel_rfl
 f257:=by kernel_rfl
 f294:=by kernel_rfl
 f295:=by kernel_rfl
 f296:=by kernel_rfl
 f297:=by kernel_rfl
 f298:=by kernel_rfl
 f299:=by kernel_rfl
 f300:=by kernel_rfl
 f301:=by kernel_rfl
 f328:=by kernel_rfl
 f329:=by kernel_rfl
 f330:=by kernel_rfl
 f331:=by kernel_rfl
 f332:=by kernel_rfl
 f343:=by kernel_rfl
 t0:=by kernel_rfl
 a0:=fun _=>by kernel_rfl
 z0:=fun _=>by kernel_rfl
 v0:=fun _=>by kernel_rfl
 t3:=by kernel_rfl
 a3:=fun _=>by kernel_rfl
 z3:=fun _=>by kernel_rfl
 v3:=fun _=>by kernel_rfl
 t4:=by kernel_rfl
 a4:=fun _=>by kernel_rfl
 z4:=fun _=>by kernel_rfl
 v4:=fun _=>by kernel_rfl
 t5:=by kernel_rfl
 a5:=fun _=>by kernel_rfl
 z5:=fun _=>by kernel_rfl
 v5:=fun _=>by kernel_rfl
 t9:=by kernel_rfl
 a9:=fun _=>by kernel_rfl
 z9:=fun _=>by kernel_rfl
 v9:=fun _=>by kernel_rfl
 t28:=by kernel_rfl
 a28:=fun _=>by kernel_rfl
 z28:=fun _=>by kernel_rfl
 v28:=fun _=>by kernel_rfl
 t46:=by kernel_rfl
 a46:=fun _=>by kernel_rfl
 z46:=fun _=>by kernel_rfl
 v46:=fun _=>by kernel_rfl
 t51:=by kernel_rfl
 a51:=fun _=>by kernel_rfl
 z51:=fun _=>by kernel_rfl
 v51:=fun _=>by kernel_rfl
 t53:=by kernel_rfl
 a53:=fun _=>by kernel_rfl
 z53:=fun _=>by kernel_rfl
 v53:=fun _=>by kernel_rfl
 t131:=by kernel_rfl
 a131:=fun _=>by kernel_rfl
 z131:=fun _=>by kernel_rfl
 v131:=fun _=>by kernel_rfl
 t182:=by kernel_rfl
 a182:=fun _=>by kernel_rfl
 z182:=fun _=>by kernel_rfl
 v182:=fun _=>by kernel_rfl
 t183:=by kernel_rfl
 a183:=fun _=>by kernel_rfl
 z183:=fun _=>by kernel_rfl
 v183:=fun _=>by kernel_rfl
 t218:=by kernel_rfl
 a218:=fun _=>by kernel_rfl
 z218:=fun _=>by kernel_rfl
 v218:=fun _=>by kernel_rfl
 t222:=by kernel_rfl
 a222:=fun _=>by kernel_rfl
 z222:=fun _=>by kernel_rfl
 v222:=fun _=>by kernel_rfl
 t228:=by kernel_rfl
 a228:=fun _=>by kernel_rfl
 z228:=fun _=>by kernel_rfl
 v228:=fun _=>by kernel_rfl
 t229:=by kernel_rfl
 a229:=fun _=>by kernel_rfl
 z229:=fun _=>by kernel_rfl
 v229:=fun _=>by kernel_rfl
def zjo:Go.Shelf.Ren:=
{
 f:=fun x=>
  match x with
  | 20 => 51
  | n => n,
 t:=fun x=>
  match x with
  | 22 => 22
  | 3 => 3
  | 4 => 4
  | 0 => 0
  | n => n,
 g:=fun x=>
  have n:=x;
  n }
theorem zhV:Lays2.n20 Try.prog zjo where
 mixed:=by kernel_rfl
 f20:=by kernel_rfl
 t0:=by kernel_rfl
 a0:=fun _=>by kernel_rfl
 z0:=fun _=>by kernel_rfl
 v0:=fun _=>by kernel_rfl
 t3:=by kernel_rfl
 a3:=fun _=>by kernel_rfl
 z3:=fun _=>by kernel_rfl
 v3:=fun _=>by kernel_rfl
 t4:=by kernel_rfl
 a4:=fun _=>by kernel_rfl
 z4:=fun _=>by kernel_rfl
 v4:=fun _=>by kernel_rfl
 t22:=by kernel_rfl
 a22:=fun _=>by kernel_rfl
 z22:=fun _=>by kernel_rfl
 v22:=fun _=>by kernel_rfl
 i3:=by kernel_rfl
end
section
open Go.RowKit Go.Sort
theorem Vu {w:World} {n b E:Nat} {cur:Array Value} {ys:List Int} {os:Array Obj} (hb:w.heap[b]? = some (.cells cur E (0,0))) (hlen:ys.length≤cur.size) :
  w.grownBy (Go.Sort.grow (putRow (Value.int .i64) (Sort.ahead w n) b 0 ys.toArray) os) (some b)∧
   ∃ cur',(Go.Sort.grow (putRow (Value.int .i64) (Sort.ahead w n) b 0 ys.toArray) os).heap[b]? = some (.cells cur' E (0,0))∧cur'.size=cur.size∧∀ m,m≤ys.length→cur'.toList.take m=(ys.take m).map (Value.int .i64):=by
 have hlt:b<w.heap.size:=(Array.getElem?_eq_some_iff.1 hb).1;have hsz:(putRow (Value.int .i64) (Sort.ahead w n) b 0 ys.toArray).heap.size=w.heap.size:=by simp
 refine ⟨⟨rfl,rfl,rfl,by simp,fun k hk hne=>?_⟩,putCells (Value.int .i64) 0 ys.toArray cur,?_,by simp [putCells],fun m hm=>?_⟩
 ·rw [heap_grow_old _ _ (by rw [hsz];exact hk)];simp only [putRow,mapBlock,Array.getElem?_modify,heap_ahead];rw [if_neg (fun e=>hne (by rw [e]))]
 ·rw [heap_grow_old _ _ (by rw [hsz];exact hlt)];simp only [putRow,mapBlock,Array.getElem?_modify,heap_ahead,hb,if_true,Option.map_some,onCells]
 ·apply List.ext_getElem
  ·simp [putCells];omega
  ·intro i h1 h2;have hi:i<m:=by simp at h1;omega
   have hi2:i<ys.length:=by omega
   simp [putCells,hi2]
section
variable {N:Nat} {w0 w:World} {J:JJ} {s s' : FSt} {a:Act} {β:Nat→Option Nat}
theorem zaz (h:FR N w0 J s a w β) {id ver E b:Nat} {zs:List Int} (hob:s.ob id=⟨ver,.own,E,1,zs.map zj⟩) (hb:β id=some b) :
  ∃ cur cap,w.heap[b]? = some (.cells cur E (0,0))∧zs.length≤cap∧cap≤maxLen∧cur.size=cap∧w0.heap.size≤b∧b<w.heap.size∧cur.toList.take zs.length=zs.map (Value.int .i64):=by
 have hl:(s.ob id).life≠.dead:=by rw [hob];exact (by decide:zX.own≠.dead)
 have hO:=(h.obj id hl).rowR (by rw [hob];rfl);have hlt:=(h.obj id hl).lt hb;obtain ⟨v,us,r1,r2,r3⟩:=hO.row;rw [hob] at r1 r3;dsimp only at r1 r3;rcases r1.2 with ⟨rfl,_⟩|⟨g',cap,cur,rfl,_,hgg,hn,hm,hcs,htk⟩
 ·rw [← r2] at hb;simp [Value.ownBlock] at hb
 ·have hgb:g'=b:=by rw [← r2] at hb;simpa [Value.ownBlock] using hb
  subst hgb;have:=zgR.flatInv w _ zs us r3;refine ⟨cur,cap,hgg,by simpa using hn,hm,by simpa using hcs,hlt.1,hlt.2,?_⟩;rw [List.length_map,Nat.mul_one] at htk;rw [htk,this,Zl]
theorem UK {id b E:Nat} {cur:Array Value} {zs:List Int} (hb:w.heap[b]? = some (.cells cur E (0,0))) (ht:cur.toList.take zs.length=zs.map (Value.int .i64)):Holds (Value.int .i64) w b 0 zs.toArray:=by
 intro j hj;have hj' : j<zs.length:=by simpa using hj
 have hjc:(cur.toList.take zs.length)[j]? = some (Value.int .i64 zs[j]):=by rw [ht];simp [hj']
 rw [List.getElem?_take,if_pos hj'] at hjc;refine ⟨?_,?_⟩
 ·simp only [World.cell?,hb,Nat.zero_add];rw [← Array.getElem?_toList];simp [hjc,hj']
 ·simp [World.frozen?,hb]
theorem FR.reput (h:FR N w0 J s a w β) {id ver E b n:Nat} {zs ys:List Int} {os:Array Obj} (hob:s.ob id=⟨ver,.own,E,1,zs.map zj⟩) (hb:β id=some b) (hl:ys.length=zs.length)
  (hs:∀ k,s'.ob k=if id=k then ⟨ver,.own,E,1,ys.map zj⟩ else s.ob k) (hst:∀ k,s'.get k=s.get k):FR N w0 J s' a (Go.Sort.grow (putRow (Value.int .i64) (Sort.ahead w n) b 0 ys.toArray) os) β:=by
 obtain ⟨cur,cap,h1,h2,h3,h4,h5,h6,h7⟩:=zaz h hob hb;obtain ⟨hg,cur',g1,g2,g3⟩:=Vu (n:=n) (ys:=ys) (os:=os) h1 zb;have hobE:(s.ob id).E=E:=by rw [hob]
 have hobs:(s.ob id).sz=1:=by rw [hob]
 have hobe:(s.ob id).es=zs.map zj:=by rw [hob]
 refine h.write id (es:=ys.map zj) (v:=.slice (some ⟨b,0,none⟩) ys.length cap) (xs:=flat ziK ys) (by rw [hob]) (by rw [hb];exact hg) (by rw [hobs];exact zgR.wideM ys) (zgR.oneM ys) ?_ (by rw [hb];rfl) (zgR.flatRd w _ ys) (by rw [hobe];simpa using hl) ?_ (fun k=>?_) hst
 ·rw [hobE,hobs];refine ⟨by rw [Zl];simp,.inr ⟨b,cap,cur',by simp,h5,g1,by rw [List.length_map];omega,h3,by omega,?_⟩⟩;rw [List.length_map,Nat.mul_one,g3 _ (Nat.le_refl _),List.take_length,Zl]
 ·intro b' c1 c2 e1 e2 e3;rw [hb] at e1;injection e1 with e1
  subst e1;rw [hobE] at e2 e3;rw [h1] at e2;rw [g1] at e3;injection e2 with e2;injection e2 with e2 _ _
  injection e3 with e3;injection e3 with e3 _ _
  rw [← e2,← e3,g2]
 ·rw [hs,hob]
theorem FR.recut (h:FR N w0 J s a w β) {id ver E b n k:Nat} {zs ys:List Int} {os:Array Obj} (hob:s.ob id=⟨ver,.own,E,1,zs.map zj⟩) (hb:β id=some b) (hl:ys.length=zs.length) (hk:k≤ys.length)
  (hs:∀ i,s'.ob i=if id=i then ⟨ver+1,.own,E,1,(ys.take k).map zj⟩ else s.ob i) (hst:∀ k,s'.get k=s.get k) :
  ∃ β',FR N w0 J s' a (Go.Sort.grow (putRow (Value.int .i64) (Sort.ahead w n) b 0 ys.toArray) os) β'∧β' id=some b:=by
 obtain ⟨cur,cap,h1,h2,h3,h4,h5,h6,h7⟩:=zaz h hob hb;obtain ⟨hg,cur',g1,g2,g3⟩:=Vu (n:=n) (ys:=ys) (os:=os) h1 zb;refine ⟨_,h.make (some id) id (E:=E) (sz:=1) (es:=(ys.take k).map zj) (v:=.slice (some ⟨b,0,none⟩) k cap) (xs:=flat ziK (ys.take k)) (fun i e=>by injection e with e;subst e;rw [hob];rfl) (by simpa [hb] using hg) (zgR.wideM _) (zgR.oneM _) ?_ (zgR.flatRd w _ _)
  (.inl (by simp [hb,Value.ownBlock])) (fun i=>?_) hst,by simp [Yg,Value.ownBlock]⟩
 ·have hlen:(ys.take k).length=k:=by rw [List.length_take];omega
  refine ⟨by rw [Zl];simp,.inr ⟨b,cap,cur',by rw [List.length_map,hlen],h5,g1,by rw [List.length_map,hlen];omega,h3,by omega,?_⟩⟩;rw [List.length_map,hlen,Nat.mul_one,g3 k hk,Zl]
 ·rw [hs,hob];by_cases e:id=i
  ·subst e;simp
  ·rw [if_neg e,if_neg e,if_neg (by intro e2;injection e2 with e2;exact e e2)]
end
theorem za6 (n:Int) (h0:0≤n) (h1:n≤18446744073709551615):zY Try.prog 59 [.int .u64 n] .fr (.int .i64 (Lib.bitLen n.toNat)) where
 go:=by kernel_rfl
 hand:=rfl
 calls w I vs hI hv:=by
  obtain ⟨_,rfl,e1⟩:=hv.inv1;rw [e1.int_inv];refine (calls_of_every_depth fun D=>AnyS.bits_LenIn { zf8 with } D n w h0 h1).mono ?_;rintro e w' ⟨rfl,rfl⟩;exact ⟨_,rfl,Below.refl _ _,.int _ _⟩
theorem zay:zY Try.prog 61 [.list 1 [],.int .i64 0,.int .i64 0] .fr (.tup []):=by
 refine zY.of_body (c:=(xa Try.prog zD zq 49)) ⟨Try.func61,rfl,Try.ntmps61,by kernel_rfl⟩ zC zp rfl ?_;change FW _ _ _ ⟨[(0,.list 1 []),(1,.int .i64 0),(2,.int .i64 0)],[]⟩;refine za ?_;refine FW.loop (fun _:Unit=>⟨[(2,.int .i64 0),(6,.int .i64 1)],[]⟩) (fun _=>True) (fun _=>0) () trivial (FLe.cv [] zu zd) ?_;intro _ _;refine za ?_;exact ⟨.inr rfl,.flat .nil rfl rfl⟩
theorem zgg (n:Int):zY Try.prog 58 [.list 1 [],.int .i64 0,.int .i64 0,.int .i64 n] .fr (.tup []):=by
 refine zY.of_body (c:=(xa Try.prog zD zq 134)) ⟨Try.func58,rfl,Try.ntmps58,by kernel_rfl⟩ zC zp rfl ?_;change FW _ _ _ ⟨[(0,.list 1 []),(1,.int .i64 0),(2,.int .i64 0),(3,.int .i64 n)],[]⟩;refine za ?_;refine FW.loop (fun _:Unit=>⟨[(0,.list 1 []),(1,.int .i64 0),(2,.int .i64 0)],[]⟩) (fun _=>True) (fun _=>0) () trivial (FLe.cv [] zu zd) ?_;intro _ _;refine za ?_;refine zV zay (by repeat (first|exact zx.nil|refine zx.cons zt ?_)) rfl rfl ?_;refine za ?_;exact FW.ret ⟨.inl rfl,.flat .nil rfl rfl⟩
theorem zfg:zY Try.prog 50 [.list 1 []] .fr (.tup []):=by
 refine zY.of_body (c:=(xa Try.prog zD zq 11)) ⟨Try.func50,rfl,Try.ntmps50,by kernel_rfl⟩ zC zp rfl ?_;change FW _ _ _ ⟨[(0,.list 1 [])],[]⟩;refine za ?_;refine zV (za6 0 zg zg) (by repeat (first|exact zx.nil|refine zx.cons zt ?_)) rfl rfl ?_;skip;refine zV (zgg _) (by repeat (first|exact zx.nil|refine zx.cons zt ?_)) rfl rfl ?_;refine za ?_;exact ⟨.inr rfl,.flat .nil rfl rfl⟩
theorem VZ (t:List (Nat×FV)) (args:List FV) (k:Nat) (b b' : zn) (i:Nat):(⟨t,[(k,b')]⟩:FSt).ob i=if k=i then b' else (yD args [(k,b)]).ob i:=by
 show look ({}:zn) [(k,b')] i=if k=i then b' else look ({}:zn) [(k,b)] i
 rw [zE,zE];split <;> rfl
theorem zgD {N:Nat} {w0 w:World} {J:JJ} {s:FSt} {a:Act} {β:Nat→Option Nat} (h:FR N w0 J s a w β) {id ver E:Nat} {zs:List Int} (hob:s.ob id=⟨ver,.own,E,1,zs.map zj⟩) (hb:β id=none):zs=[]:=by
 have hO:=(h.obj id (by rw [hob];exact (by decide:zX.own≠.dead))).rowR (by rw [hob];rfl);obtain ⟨v,us,r1,r2,r3⟩:=hO.row;rw [hob] at r1;dsimp only at r1;rcases r1.2 with ⟨rfl,h0⟩|⟨g',cap,cur,rfl,_⟩
 ·simpa using h0
 ·rw [hb] at r2;simp [Value.ownBlock] at r2
theorem ZZ {v:Nat} {b:zn} {res:FV} {o:Nat→zn} {k:Nat} (hr:res.cl [k]=true) (hl:(o k).life=.own) (hs:(o k).sz=b.sz) (hb:b.life=.own):YV [(k,b)] [] res o where
 old q hq _:=by
  obtain rfl:q=k:=by simpa using hq
  exact ⟨by rw [hl];rfl,by rw [hs,zE,if_pos rfl],by rw [hl,zE,if_pos rfl,hb]⟩
 new q hq:=by cases hq
 cl q hq:=by
  obtain rfl:q=k:=by simpa using hq
  unfold zn.cl;rw [hl]
 res:=hr
theorem zfh (v:Nat) (zs:List Int) (hz:zs.length<4611686018427387904):yI Try.prog 50 [.own 5000 v 0 zs.length] [(5000,⟨v,.own,3,1,zs.map zj⟩)] []
  (fun res o=>res=.tup []∧o 5000=⟨v,.own,3,1,(zs.mergeSort fun x y=>decide (x≤y)).map zj⟩) where
 go:=by kernel_rfl
 post res o h:=by obtain ⟨rfl,h⟩:=h;exact ZZ (v:=v) rfl (by rw [h]) (by rw [h]) rfl
 calls w0 J w β vs hF:=by
  obtain ⟨v0,rfl⟩:∃ v0,vs=[v0]:=by
   have:=hF.size
   match vs,this with
   | [v0], _ => exact ⟨v0, rfl⟩
  have hob:(yD [.own 5000 v 0 zs.length] [(5000,⟨v,.own,3,1,zs.map zj⟩)]).ob 5000=⟨v,.own,3,1,zs.map zj⟩:=rfl;have h0:=hF.slot 0;have hO:YC w (β 5000) _ v0 0 zs.length:=h0 (by rw [hob];exact (by decide:zX.own≠.dead)) rfl;obtain ⟨A,c,e1,e2,e3,e4,e5⟩:=hO.ex;subst e1;cases hb:β 5000 with
  | none =>
   obtain rfl:=zgD hF hob hb;obtain ⟨rfl,rfl⟩:=e4 hb;refine (zfg.calls w (fun _=>False) [.slice none 0 0] (fun b h=>h.elim) (RdL.cons (.list none 0 0 1 [] [] rfl (Nat.le_refl _) zc zc zc zc zc) .nil)).mono ?_;rintro e w' ⟨v1,rfl,hB,hr⟩;have hG:=hF.grow hB;refine ⟨v1,.tup [],_,β,rfl,⟨rfl,by simp [look]⟩,hG.slots rfl hF.defers fun d=>?_⟩;cases d with
   | zero => exact VR.plain (hr.flat rfl _ _) rfl
   | succ d => exact VR.plain (.undef _) rfl
  | some b =>
   obtain ⟨o',rfl,k2,k3⟩:=e5 b hb;have ho':=k2 (.inr rfl);have:o'=0:=by rw [ho'];exact Nat.zero_mul _
   subst this;obtain ⟨cur,cap,q1,q2,q3,q4,q5,q6,q7⟩:=zaz hF hob hb;refine (Any.slices_Sort_int zf8 b 0 c zs w (UK (id:=0) q1 q7) q6 hz).mono ?_;rintro e w' ⟨rfl,n,os,rfl⟩;have hlen:(zs.mergeSort fun x y=>decide (x≤y)).length=zs.length:=List.length_mergeSort zs;have hR:=hF.reput (n:=n) (os:=os) (s':=⟨(yD [.own 5000 v 0 zs.length] [(5000,⟨v,.own,3,1,zs.map zj⟩)]).t,[(5000,⟨v,.own,3,1,(zs.mergeSort fun x y=>decide (x≤y)).map zj⟩)]⟩) hob hb hlen (fun k=>VZ _ _ _ _ _ k) (fun k=>rfl);refine ⟨.tuple #[],.tup [],_,β,rfl,⟨rfl,rfl⟩,hR.slots rfl hF.defers fun d=>?_⟩;cases d with
   | zero => exact VR.plain (.tup [] [] rfl zc) rfl
   | succ d => exact VR.plain (.undef _) rfl
theorem zaq (v:Nat) (zs:List Int) (hz:zs.length≤9223372036854775807):yI Try.prog 51 [.own 5000 v 0 zs.length] [(5000,⟨v,.own,3,1,zs.map zj⟩)] []
  (fun res o=>res=.own 5000 (v+1) 0 (Lib.compact zs).length∧o 5000=⟨v+1,.own,3,1,(Lib.compact zs).map zj⟩) where
 go:=by kernel_rfl
 post res o h:=by obtain ⟨rfl,h⟩:=h;exact ZZ (v:=v) rfl (by rw [h]) (by rw [h]) rfl
 calls w0 J w β vs hF:=by
  obtain ⟨v0,rfl⟩:∃ v0,vs=[v0]:=by
   have:=hF.size
   match vs,this with
   | [v0], _ => exact ⟨v0, rfl⟩
  have hob:(yD [.own 5000 v 0 zs.length] [(5000,⟨v,.own,3,1,zs.map zj⟩)]).ob 5000=⟨v,.own,3,1,zs.map zj⟩:=rfl;have h0:=hF.slot 0;have hO:YC w (β 5000) _ v0 0 zs.length:=h0 (by rw [hob];exact (by decide:zX.own≠.dead)) rfl;obtain ⟨A,c,e1,e2,e3,e4,e5⟩:=hO.ex;subst e1;cases hb:β 5000 with
  | none=>
   obtain rfl:=zgD hF hob hb;obtain ⟨rfl,rfl⟩:=e4 hb;refine (Any.slices_Compact_int_empty zhV none 0 w).mono ?_;rintro e w' ⟨rfl,rfl⟩;have hR:=hF.make (some 5000) 5000 (E:=3) (sz:=1) (es:=[]) (v:=.slice none 0 0) (xs:=[]) (s':=⟨(yD [.own 5000 v 0 ([]:List Int).length] [(5000,⟨v,.own,3,1,([]:List Int).map zj⟩)]).t,[(5000,⟨v+1,.own,3,1,[]⟩)]⟩)
    (fun i e=>by injection e with e;subst e;rfl) ⟨rfl,rfl,rfl,Nat.le_refl _,fun _ _ _=>rfl⟩ zc zc (World.ownsRow_nil _ _ _ _) RdL.nil (.inl hb.symm) (fun k=>by
     refine (VZ _ [.own 5000 v 0 ([]:List Int).length] 5000 ⟨v,.own,3,1,([]:List Int).map zj⟩ _ k).trans ?_;by_cases e:5000=k
     ·rw [if_pos e,if_pos e];rfl
     ·rw [if_neg e,if_neg e,if_neg (by intro e2;injection e2 with e2;exact e e2)]) (fun k=>rfl)
   refine ⟨.slice none 0 0,.own 5000 (v+1) 0 0,_,_,rfl,⟨rfl,rfl⟩,hR.slots rfl hF.defers fun d=>?_⟩;cases d with
   | zero =>
    refine ⟨fun _ _=>⟨rfl,none,0,rfl,Nat.le_refl _,by simp,fun _=>⟨rfl,rfl⟩,fun b2 e=>by simp [Yg,Value.ownBlock] at e⟩,fun id ver hm=>?_⟩;have hm':=List.mem_singleton.1 hm;injection hm' with m1 m2
    subst m1;subst m2;exact Nat.le_refl _
   | succ d => exact VR.plain (.undef _) rfl
  | some b=>
   obtain ⟨o',rfl,k2,k3⟩:=e5 b hb;have ho':=k2 (.inr rfl);have:o'=0:=by rw [ho'];exact Nat.zero_mul _
   subst this;obtain ⟨cur,cap,q1,q2,q3,q4,q5,q6,q7⟩:=zaz hF hob hb;refine (Any.slices_Compact_int zhV b 0 c zs w (UK (id:=0) q1 q7) hz e2).mono ?_;rintro e w' ⟨rfl,n,rfl⟩;have hle:(Lib.compact zs).length≤zs.length:=by
    unfold Lib.compact Lib.compactUpTo;rw [List.length_map];exact Nat.le_trans (List.length_filter_le _ _) zc
   have hlen:(Lib.compact zs++List.replicate (zs.length - (Lib.compact zs).length) 0).length=zs.length:=by simp;omega
   obtain ⟨β',hR,hb'⟩:=hF.recut (n:=n) (os:=#[]) (k:=(Lib.compact zs).length) (s':=⟨(yD [.own 5000 v 0 zs.length] [(5000,⟨v,.own,3,1,zs.map zj⟩)]).t,[(5000,⟨v+1,.own,3,1,(Lib.compact zs).map zj⟩)]⟩) hob hb hlen zc (fun k=>by
    rw [List.take_left];exact VZ _ _ _ _ _ k) (fun k=>rfl)
   rw [grow_empty] at hR;have hcs:cur.size=(0+c) * 1:=k3 cur q1;refine ⟨.slice (some ⟨b,0,none⟩) (Lib.compact zs).length c,.own 5000 (v+1) 0 (Lib.compact zs).length,_,β',rfl,⟨rfl,rfl⟩,hR.slots rfl hF.defers fun d=>?_⟩;cases d with
   | zero=>
    refine ⟨fun _ _=>⟨rfl,some ⟨b,0,none⟩,c,rfl,by omega,?_,fun e=>?_,fun b2 e=>?_⟩,fun id ver hm=>?_⟩
    ·show 0+(Lib.compact zs).length≤((Lib.compact zs).map zj).length;simp
    ·rw [hb'] at e;cases e
    ·rw [hb'] at e;injection e with e
     subst e;refine ⟨0,rfl,fun _=>by simp,fun cur2 hc2=>?_⟩;obtain ⟨_,cur',g1,g2,_⟩:=Vu (w:=w) (n:=n) (ys:=Lib.compact zs++List.replicate (zs.length - (Lib.compact zs).length) 0) (os:=#[]) q1 (by rw [hlen];omega);rw [grow_empty] at g1;have hc2' : (putRow (Value.int .i64) (Sort.ahead w n) b 0 (Lib.compact zs++List.replicate (zs.length - (Lib.compact zs).length) 0).toArray).heap[b]? = some (.cells cur2 3 (0,0)):=hc2;rw [g1] at hc2';injection hc2' with hc2'
     injection hc2' with hc2' _ _
     rw [← hc2',g2];exact hcs
    ·have hm':=List.mem_singleton.1 hm;injection hm' with m1 m2
     subst m1;subst m2;exact Nat.le_refl _
   | succ d => exact VR.plain (.undef _) rfl
end
section
set_option maxRecDepth 100000
open Go.ChangeShapes Go.WideShapes Go.ChangeAt Go.RowKit Go.Deep
theorem zf5 {x:Int} (h:(Lit.int .i64 x).wf=true):I64 x:=by
 simp [Lit.wf,IntKind.min,IntKind.max,IntKind.signed,IntKind.bits] at h;unfold I64;omega
section
variable {H:Type} {enc:TypeId×Value→H} {W:World} {base:Nat} {spare:Nat→Bool} {held:Bool} {v:Value} {d:DataW H} {p:List MemPlace} {r:Reach} {b0:Nat}
theorem zgK {w:World} {a:Addr} {u:Value} (h:w.cell? a=some u):a=⟨a.block,a.off,none⟩:=by
 obtain ⟨b,o,s⟩:=a;cases s with
 | none => rfl
 | some s =>
  unfold World.cell? at h;simp only [Option.isSome_some,if_true] at h;split at h <;> cases h
theorem zgW (a:Addr) (h:a=⟨a.block,a.off,none⟩) (n:Nat):a.add n=⟨a.block,a.off+n,none⟩:=by
 obtain ⟨b,o,s⟩:=a;obtain rfl:s=none:=by injection h
 unfold Addr.add;split
 ·subst n;rfl
 ·rfl
theorem zgq (hv:Value.okWide Try.prog W r b0 22 v) (h:DataW.Trod enc Try.prog W base spare held 22 v d p) :
  ∃ A c l,v=.slice A l.length c∧Sl ziK W W.heap.size A l∧(∀ x∈l,I64 x)∧l.length≤9223372036854775807:=by
 obtain ⟨a0,len0,cap0,rfl⟩:=okWide_slice Try.underlying22 hv;obtain ⟨fuel,hf⟩:=h;rcases open_ints Try.underlying22 Try.underlying3 zA hf with ⟨hcs,_⟩|⟨x,l,c,zs,hcs,_,hl,hm,hz,_,hcell,hwz⟩
 ·simp [Value.cells] at hcs;obtain ⟨rfl,rfl,rfl⟩:=hcs;exact ⟨none,0,[],rfl,Sl.nil_ _ _ _ _,by simp,Nat.zero_le _⟩
 ·simp [Value.cells] at hcs;obtain ⟨rfl,rfl,rfl⟩:=hcs;have hlz:len0≤zs.length:=by rw [hz];split <;> omega
  have hlen:(zs.take len0).length=len0:=by simp;omega
  refine ⟨some x,cap0,zs.take len0,by rw [hlen],fun hne=>?_,fun y hy=>zf5 (hwz y (List.mem_of_mem_take hy)),by unfold maxLen at hm;omega⟩;have h0:0<len0:=by
   rcases Nat.eq_zero_or_pos len0 with e|e
   ·subst e;simp at hne
   ·exact e
  have hc0:=hcell 0 zb;rw [show x.add 0=x by simp [Addr.add]] at hc0;have hs:=zgK hc0;refine ⟨x.block,x.off,by rw [← hs],World.block_lt_of_cell? W x hc0,fun j u hu=>?_⟩;rw [Zl,List.getElem?_map,List.getElem?_take] at hu;split at hu
  ·have hj:j<zs.length:=by omega
   have:=hcell j hj;rw [zgW x hs] at this;rw [this];simpa [hj] using hu
  ·simp at hu
end
section
variable {H:Type} {enc:TypeId×Value→H} {W:World} {base:Nat} {spare:Nat→Bool} {held:Bool} {v:Value} {d:DataW H} {p:List MemPlace} {r:Reach} {b0:Nat}
end
section
variable {H:Type} {enc:TypeId×Value→H} {W:World} {base:Nat} {spare:Nat→Bool} {held:Bool} {v:Value} {d:DataW H} {p:List MemPlace} {r:Reach} {b0:Nat}
theorem zih (hv:Value.okWide Try.prog W r b0 22 v) (h:DataW.Trod enc Try.prog W base spare held 22 v d p) :
  ∃ l:List Int,Rd W (fun b=>b<W.heap.size) v (.list 1 (l.map zj))∧(∀ x∈l,I64 x)∧l.length≤9223372036854775807:=by
 have h':=h;obtain ⟨A,c,l,rfl,s,i,m⟩:=zgq hv h;refine ⟨l,?_,i,m⟩;obtain ⟨fuel,hf⟩:=h';rcases open_ints Try.underlying22 Try.underlying3 zA hf with ⟨hcs,_⟩|⟨x,l',c',zs,hcs,_,hl,hm,hz,_,hcell,hwz⟩
 ·simp [Value.cells] at hcs;obtain ⟨rfl,h0,rfl⟩:=hcs;exact zgR.to s (by simp [h0])
 ·simp [Value.cells] at hcs;obtain ⟨rfl,h0,rfl⟩:=hcs;exact zgR.to s zb
theorem zig (hv:Value.okWide Try.prog W r b0 4 v) (h:DataW.Trod enc Try.prog W base spare held 4 v d p):∃ x:Bool,Rd W (fun b=>b<W.heap.size) v (.bool x):=by
 obtain ⟨x,rfl,_⟩:=open_bool Try.underlying4 hv h;exact ⟨x,.bool _⟩
end
end
end Go.Proofs.Ytlnehfplfoikaaa
