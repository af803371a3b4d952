/-
  Lemmas, in parts.
-/
import Derived.WalkKit
import Derived.WalkLawsBesides
import Derived.WalkSpells
import Derived.BigQuiet
import Derived.Deep.QuietTactic
import Derived.Handy
import Derived.Lib.Hide
import Derived.Maps.AppendAt
import Derived.StillTailTactics
import Derived.Deep.Draws
import Derived.Laws.OwnMore
import Derived.Maps.OwnSet
import Derived.Laws.MakeOwn
namespace Go.Proofs.YtedkppfghdipdaaDoor
set_option linter.unusedVariables false
set_option maxHeartbeats 16000000
open Go.RowKit
abbrev ZB:=@Array.ext'
abbrev ZC:=@Array.getD_eq_getD_getElem?
abbrev yC:=@Array.getElem?_eq_some_iff
abbrev Uq:=@Array.getElem?_modify
abbrev Ur:=@Array.getElem?_push
abbrev Us:=@Array.getElem?_replicate
abbrev n2:=@Array.getElem?_setIfInBounds_ne
abbrev WL:=@Array.length_toList
abbrev Ut:=@Array.toList_push
abbrev Yw:=@Below.refl
abbrev zD:=@Bool.and_eq_true
abbrev yI:=@Bool.false_or
abbrev WD:=@Bool.not_eq_true'
abbrev YQ:=@Bool.or_true
abbrev ZO:=@Int.toNat_of_nonneg
abbrev zH:=@Lib.hid
abbrev ZP:=@List.all_cons
abbrev zC:=@List.all_eq_true
abbrev ZQ:=@List.any_eq_true
abbrev zw:=@List.append_assoc
abbrev Zf:=@List.append_nil
abbrev WE:=@List.cons_ne_nil
abbrev WF:=@List.contains_eq_mem
abbrev US:=@List.drop_length_add_append
abbrev YR:=@List.drop_zero
abbrev Zg:=@List.eq_nil_of_length_eq_zero
abbrev YS:=@List.eq_of_mem_replicate
abbrev Zh:=@List.filterMap_cons
abbrev YT:=@List.flatMap_cons
abbrev xq:=@List.flatten_append
abbrev yr:=@List.flatten_cons
abbrev ZR:=@List.getD_cons_zero
abbrev yj:=@List.getD_eq_getElem?_getD
abbrev Zi:=@List.getElem?_append_left
abbrev ZS:=@List.getElem?_append_right
abbrev yJ:=@List.getElem?_drop
abbrev yY:=@List.getElem?_eq_getElem
abbrev zP:=@List.getElem?_eq_some_iff
abbrev yZ:=@List.getElem?_map
abbrev WG:=@List.getElem?_of_mem
abbrev yt:=@List.getElem?_take
abbrev zZ:=@List.getElem_mem
abbrev yl:=@List.getElem_of_mem
abbrev zT:=@List.length_append
abbrev yK:=@List.length_cons
abbrev Zj:=@List.length_drop
abbrev WH:=@List.length_eq_one_iff
abbrev zR:=@List.length_map
abbrev WI:=@List.length_nil
abbrev yu:=@List.length_replicate
abbrev Zk:=@List.length_set
abbrev zW:=@List.length_take
abbrev Zl:=@List.map_append
abbrev YU:=@List.map_congr_left
abbrev ya:=@List.map_cons
abbrev yv:=@List.mem_append
abbrev zM:=@List.mem_cons
abbrev YV:=@List.mem_cons_of_mem
abbrev xF:=@List.mem_filterMap
abbrev ym:=@List.mem_flatten
abbrev zK:=@List.mem_map
abbrev zN:=@List.mem_of_getElem?
abbrev yw:=@List.mem_of_mem_drop
abbrev yx:=@List.mem_of_mem_take
abbrev YW:=@List.mem_or_eq_of_mem_set
abbrev zX:=@List.mem_singleton
abbrev WJ:=@List.nil_append
abbrev WK:=@List.nodup_cons
abbrev YX:=@List.pairwise_iff_getElem
abbrev UT:=@List.replicate_append_replicate
abbrev UU:=@List.set_eq_take_append_cons_drop
abbrev ZT:=@List.size_toArray
abbrev ZU:=@List.take_append
abbrev YY:=@List.take_append_of_le_length
abbrev YZ:=@List.take_length
abbrev UV:=@List.take_length_add_append
abbrev yn:=@List.take_of_length_le
abbrev ZV:=@List.take_succ_eq_append_getElem
abbrev ZW:=@List.take_take
abbrev yL:=@MapKept.run_getObj_map
abbrev Xa:=@MapKept.run_setObj_map
abbrev Xb:=@Nat.add_assoc
abbrev Zm:=@Nat.add_comm
abbrev zF:=@Nat.add_mul
abbrev xG:=@Nat.add_zero
abbrev Xc:=@Nat.eq_of_mul_eq_mul_right
abbrev Xd:=@Nat.eq_or_lt_of_le
abbrev WM:=@Nat.eq_zero_or_pos
abbrev yo:=@Nat.le_of_ble_eq_true
abbrev zi:=@Nat.le_refl
abbrev xa:=@Nat.le_trans
abbrev xI:=@Nat.lt_of_lt_of_le
abbrev xb:=@Nat.lt_or_ge
abbrev xc:=@Nat.min_eq_left
abbrev WN:=@Nat.min_eq_right
abbrev xr:=@Nat.mul_one
abbrev Xe:=@Nat.one_mul
abbrev zY:=@Nat.zero_add
abbrev xd:=@Nat.zero_le
abbrev ZX:=@Nat.zero_mul
abbrev xx:=@Oper.upon_skip
abbrev xT:=@Option.bind_some
abbrev ZM:=@Option.getD_some
abbrev yQ:=@Option.map_some
abbrev zB:=@Option.some.injEq
abbrev zU:=@Prod.mk.injEq
abbrev xy:=@Result.andThen_ok
abbrev yR:=@Sem.run_bind
abbrev yS:=@Sem.run_pure
abbrev ZN:=@World.ownsRow_nil
variable {Q:Prop} {B base cc ft i j l n off:Nat} {v:Value} {us xs:List Value} {a:Act} {w w' w0:World} {α:Type} {I I' : Nat→Prop} {β aJ : Nat→Option Nat} {dst aw:Option Nat} {b bb:Bool} {d:TypeDesc} {x:Operand} {m:Int} {T2:TypeId} {fs:List (Nat×Nat)} {k2:IntKind} {A:Option Addr}
structure lu (P:Prop):Prop where
 out:P
theorem zb {P:Prop} (h:P) (f:lu P→Q:=by intro h;(repeat (first|refine FW.seq ?_|refine FW.region ?_|refine FW.block ?_|refine FW.skip ?_|refine FW.exit ?_|refine FW.h9 rfl ?_|refine FW.eT rfl ?_|refine zq.nil ?_|(refine m4 ?_;first|refine zq.ak (xj rfl) rfl rfl ?_|refine zq.ak (xi rfl) rfl rfl ?_|(refine VY ?_;first|refine zq.ak (xJ rfl rfl rfl (by first|omega|(simp;omega)|(simp;done)) (by first|exact zQ (by omega)|rfl) rfl rfl) rfl rfl ?_|refine zq.ak (Yc rfl rfl rfl rfl rfl (by first|omega|(simp;omega)|(simp;done)) (by first|exact zQ (by omega)|rfl) rfl rfl) rfl rfl ?_|refine zq.ak (Vr rfl rfl rfl (by decide) (by first|omega|(simp;omega)|(simp;done)) (by first|exact zQ (by omega)|rfl) rfl) rfl rfl ?_|refine zq.ak (Yd rfl rfl rfl (by decide) rfl rfl (by first|omega|(simp;omega)|(simp;done)) (by first|exact zQ (by omega)|rfl) rfl) rfl rfl ?_)|(refine qx ?_;first|refine zq.er (Vs rfl rfl rfl rfl rfl rfl rfl rfl) rfl ?_|refine zq.er (Zo rfl rfl rfl rfl rfl rfl rfl rfl) rfl ?_|refine zq.er (rN rfl rfl rfl rfl rfl rfl (by first|omega|(simp;omega)|(simp;done)) (by first|exact zQ (by omega)|rfl) rfl rfl) rfl ?_)|(refine qv ?_;first|refine zq.ak (xz rfl rfl rfl rfl rfl) rfl rfl ?_|refine zq.ak (Ya rfl rfl rfl rfl rfl rfl (by decide)) rfl rfl ?_)|(refine qw ?_;first|refine zq.ak (Yb rfl rfl (by first|rfl|exact (ZO (by omega)).symm) rfl rfl rfl (by first|omega|(simp;omega)|(simp;done))) rfl rfl ?_|refine zq.ak (qg rfl rfl (by first|rfl|exact (ZO (by omega)).symm) rfl rfl rfl (by decide) rfl (by first|omega|(simp;omega)|(simp;done))) rfl rfl ?_)|(refine VZ ?_;first|refine zq.ak (WR rfl rfl) rfl rfl ?_|refine zq.ak (WQ rfl rfl) rfl rfl ?_)|(refine Vh ?_;first|refine zq.ak (UW rfl rfl) rfl rfl ?_|refine zq.ak (qf rfl rfl rfl) rfl rfl ?_|refine zq.ak (mU rfl rfl) rfl rfl ?_|refine zq.ak (rL rfl rfl rfl) rfl rfl ?_|refine zq.ak (mT rfl rfl) rfl rfl ?_|refine zq.ak (sb rfl rfl) rfl rfl ?_|refine zq.ak (oo rfl rfl) rfl rfl ?_|refine zq.ak (om rfl rfl) rfl rfl ?_|refine zq.ak (sa rfl rfl (by omega)) rfl rfl ?_|refine zq.ak (oq rfl rfl (by omega)) rfl rfl ?_)|refine zq.bW (qN rfl) rfl rfl ?_|refine zq.bW (ZZ rfl rfl rfl rfl rfl) rfl rfl ?_|refine zq.bW (xV rfl rfl rfl rfl rfl) rfl rfl ?_|refine XO rfl rfl rfl rfl ?_|refine zq.bW (qL rfl rfl rfl rfl) rfl rfl ?_|refine zq.ak (qM rfl rfl) rfl rfl ?_|refine zq.ak (Wo rfl rfl rfl rfl) rfl rfl ?_|refine ss rfl rfl (by first|exact zR _|exact (zR _).symm|exact yu|rfl|(simp;done)|omega|(simp;omega)) rfl rfl rfl (by decide) (by first|exact fC.own rfl rfl (by decide) (by first|exact zR _|exact (zR _).symm|exact yu|rfl|(simp;done)|omega|(simp;omega))|exact fC.list rfl|exact fC.nil rfl|exact fC.part rfl rfl (by decide)) (by first|omega|(simp;omega)|(simp;done)) (by first|omega|(simp;omega)|(simp;done)) rfl rfl rfl ?_|refine zq.ak (rJ rfl rfl rfl (by decide)) rfl rfl ?_|refine zq.ak (Zn rfl rfl (by first|exact zR _|exact (zR _).symm|exact yu|rfl|(simp;done)|omega|(simp;omega))) rfl rfl ?_|refine zq.ak (qh rfl rfl) rfl rfl ?_|refine zq.ak (sg rfl rfl) rfl rfl ?_|refine zq.ak (mV rfl) rfl rfl ?_)|(refine sN ?_;first|refine zq.ak (xj rfl) rfl ⟨_,_,rfl,rfl,rfl⟩ ?_|(refine VY ?_;first|refine zq.ak (xJ rfl rfl rfl (by first|omega|(simp;omega)|(simp;done)) (by first|exact zQ (by omega)|rfl) rfl rfl) rfl ⟨_,_,rfl,rfl,rfl⟩ ?_|refine zq.ak (Yc rfl rfl rfl rfl rfl (by first|omega|(simp;omega)|(simp;done)) (by first|exact zQ (by omega)|rfl) rfl rfl) rfl ⟨_,_,rfl,rfl,rfl⟩ ?_|refine zq.ak (Vr rfl rfl rfl (by decide) (by first|omega|(simp;omega)|(simp;done)) (by first|exact zQ (by omega)|rfl) rfl) rfl ⟨_,_,rfl,rfl,rfl⟩ ?_|refine zq.ak (Yd rfl rfl rfl (by decide) rfl rfl (by first|omega|(simp;omega)|(simp;done)) (by first|exact zQ (by omega)|rfl) rfl) rfl ⟨_,_,rfl,rfl,rfl⟩ ?_)|refine zq.ak (Ya rfl rfl rfl rfl rfl rfl (by decide)) rfl ⟨_,_,rfl,rfl,rfl⟩ ?_|(refine VZ ?_;first|refine zq.ak (WR rfl rfl) rfl ⟨_,_,rfl,rfl,rfl⟩ ?_|refine zq.ak (WQ rfl rfl) rfl ⟨_,_,rfl,rfl,rfl⟩ ?_)|(refine Vh ?_;first|refine zq.ak (UW rfl rfl) rfl ⟨_,_,rfl,rfl,rfl⟩ ?_|refine zq.ak (mU rfl rfl) rfl ⟨_,_,rfl,rfl,rfl⟩ ?_|refine zq.ak (oo rfl rfl) rfl ⟨_,_,rfl,rfl,rfl⟩ ?_|refine zq.ak (om rfl rfl) rfl ⟨_,_,rfl,rfl,rfl⟩ ?_)|refine XO rfl rfl rfl ⟨_,_,rfl,rfl,rfl⟩ ?_|refine zq.ak (Wo rfl rfl rfl rfl) rfl ⟨_,_,rfl,rfl,rfl⟩ ?_|refine zq.ak (Zn rfl rfl (by first|exact zR _|exact (zR _).symm|exact yu|rfl|(simp;done)|omega|(simp;omega))) rfl ⟨_,_,rfl,rfl,rfl⟩ ?_|refine zq.ak (se rfl rfl) rfl ⟨_,_,rfl,rfl,rfl⟩ ?_|refine zq.ak (mV rfl) rfl ⟨_,_,rfl,rfl,rfl⟩ ?_|refine sv rfl rfl ⟨_,_,rfl,rfl,rfl⟩ ?_)|refine xw.nil ?_|refine xw.one rfl rfl rfl rfl rfl ?_|refine xw.agg rfl rfl rfl rfl (WE _ _) rfl ?_));exact h.out):Q:=f ⟨h⟩
theorem xh {P:Prop} (h:P) (f:lu P→Q:=by intro h;(repeat (first|refine FW.seq ?_|refine FW.region ?_|refine FW.skip ?_|refine FW.exit ?_|refine FW.h9 rfl ?_|refine FW.eT rfl ?_|refine zq.nil ?_|(refine m4 ?_;first|refine zq.ak (xi rfl) rfl rfl ?_|refine zq.ak (Yc rfl rfl rfl rfl rfl (by first|omega|(simp;omega)|(simp;done)) (by first|exact zQ (by omega)|rfl) rfl rfl) rfl rfl ?_|(refine Vh ?_;first|refine zq.ak (UW rfl rfl) rfl rfl ?_|refine zq.ak (mT rfl rfl) rfl rfl ?_)|refine zq.bW (xV rfl rfl rfl rfl rfl) rfl rfl ?_|refine zq.ak (Zn rfl rfl (by first|exact zR _|exact (zR _).symm|exact yu|rfl|(simp;done)|omega|(simp;omega))) rfl rfl ?_)|refine FW.draw ?_|refine zA.nil ?_|(refine oC ?_;first|refine zA.ak (xj rfl) rfl rfl ?_|(refine VS ?_;first|refine zA.ak (xJ rfl rfl rfl (by first|omega|(simp;omega)|(simp;done)) (by first|exact zQ (by omega)|rfl) rfl rfl) rfl rfl ?_|refine zA.ak (Yc rfl rfl rfl rfl rfl (by first|omega|(simp;omega)|(simp;done)) (by first|exact zQ (by omega)|rfl) rfl rfl) rfl rfl ?_|refine zA.ak (Yd rfl rfl rfl (by decide) rfl rfl (by first|omega|(simp;omega)|(simp;done)) (by first|exact zQ (by omega)|rfl) rfl) rfl rfl ?_)|refine zA.er (Vs rfl rfl rfl rfl rfl rfl rfl rfl) rfl ?_|(refine Wu ?_;first|refine zA.ak (xz rfl rfl rfl rfl rfl) rfl rfl ?_|refine zA.ak (Ya rfl rfl rfl rfl rfl rfl (by decide)) rfl rfl ?_)|refine zA.ak (Yb rfl rfl (by first|rfl|exact (ZO (by omega)).symm) rfl rfl rfl (by first|omega|(simp;omega)|(simp;done))) rfl rfl ?_|refine zA.ak (oq rfl rfl (by omega)) rfl rfl ?_|refine zA.bW (ZZ rfl rfl rfl rfl rfl) rfl rfl ?_|refine zA.ak (Zn rfl rfl (by first|exact zR _|exact (zR _).symm|exact yu|rfl|(simp;done)|omega|(simp;omega))) rfl rfl ?_)));exact h.out):Q:=f ⟨h⟩
theorem xU {P:Prop} (h:P) (f:lu P→Q:=by intro h;(repeat (first|refine FW.seq ?_|refine FW.region ?_|refine FW.exit ?_|refine zq.nil ?_|(refine m4 ?_;first|refine zq.ak (xj rfl) rfl rfl ?_|refine zq.ak (xi rfl) rfl rfl ?_|refine su rfl rfl rfl rfl rfl ?_)));exact h.out):Q:=f ⟨h⟩
theorem zn {P:Prop} (h:P) (f:lu P→Q:=by intro h;(repeat (first|refine xw.nil ?_|refine xw.one rfl rfl rfl rfl rfl ?_|refine xw.agg rfl rfl rfl rfl (WE _ _) rfl ?_|refine zA.nil ?_|(refine oC ?_;first|refine zA.ak (xj rfl) rfl rfl ?_|refine zA.ak (xi rfl) rfl rfl ?_|(refine VS ?_;first|refine zA.ak (xJ rfl rfl rfl (by first|omega|(simp;omega)|(simp;done)) (by first|exact zQ (by omega)|rfl) rfl rfl) rfl rfl ?_|refine zA.ak (Yc rfl rfl rfl rfl rfl (by first|omega|(simp;omega)|(simp;done)) (by first|exact zQ (by omega)|rfl) rfl rfl) rfl rfl ?_|refine zA.ak (Yd rfl rfl rfl (by decide) rfl rfl (by first|omega|(simp;omega)|(simp;done)) (by first|exact zQ (by omega)|rfl) rfl) rfl rfl ?_)|refine zA.er (Zo rfl rfl rfl rfl rfl rfl rfl rfl) rfl ?_|(refine Wu ?_;first|refine zA.ak (xz rfl rfl rfl rfl rfl) rfl rfl ?_|refine zA.ak (Ya rfl rfl rfl rfl rfl rfl (by decide)) rfl rfl ?_)|refine zA.ak (Yb rfl rfl (by first|rfl|exact (ZO (by omega)).symm) rfl rfl rfl (by first|omega|(simp;omega)|(simp;done))) rfl rfl ?_|(refine rq ?_;first|refine zA.ak (WR rfl rfl) rfl rfl ?_|refine zA.ak (WQ rfl rfl) rfl rfl ?_)|refine zA.ak (UW rfl rfl) rfl rfl ?_|refine zA.bW (ZZ rfl rfl rfl rfl rfl) rfl rfl ?_|refine rm rfl rfl rfl rfl ?_|refine qq rfl rfl rfl rfl rfl ?_|refine zA.ak (mV rfl) rfl rfl ?_)|(refine sM ?_;first|refine zA.ak (xj rfl) rfl ⟨_,_,rfl,rfl,rfl⟩ ?_|refine zA.ak (xJ rfl rfl rfl (by first|omega|(simp;omega)|(simp;done)) (by first|exact zQ (by omega)|rfl) rfl rfl) rfl ⟨_,_,rfl,rfl,rfl⟩ ?_|refine zA.ak (xz rfl rfl rfl rfl rfl) rfl ⟨_,_,rfl,rfl,rfl⟩ ?_|refine zA.ak (Yb rfl rfl (by first|rfl|exact (ZO (by omega)).symm) rfl rfl rfl (by first|omega|(simp;omega)|(simp;done))) rfl ⟨_,_,rfl,rfl,rfl⟩ ?_|refine zA.ak (mT rfl rfl) rfl ⟨_,_,rfl,rfl,rfl⟩ ?_|refine sr rfl rfl ⟨_,_,rfl,rfl,rfl⟩ ?_)));exact h.out):Q:=f ⟨h⟩
theorem zu {P:Prop} (h:P:=by repeat (first|exact .nil|refine .cons (.plain rfl rfl (by first|rfl|(simp;done)|(congr 1;omega)|(simp;omega)|(simp [yn];done)|(refine congrArg (FV.int .i64) ?_;omega))) ?_|refine .cons (.own rfl (.head _) rfl (by first|rfl|(simp;done)|(congr 1;omega)|(simp;omega)|(simp [yn];done)|(refine congrArg (FV.int .i64) ?_;omega))) ?_|refine .cons (.nil rfl (.head _) rfl) ?_|refine .cons (.ptr rfl (.head _) rfl) ?_|refine .cons (.omap rfl (.head _) rfl) ?_|refine .cons (.ptr rfl (.tail _ (.head _)) rfl) ?_|refine .cons (.ptr rfl (.tail _ (.tail _ (.head _))) rfl) ?_)):P:=h
theorem zt {P:Prop} (h:P:=by repeat (first|exact .nil|refine .n1 rfl (by decide) (by first|rfl|(simp;done)|(congr 1;omega)|(simp;omega)|(simp [yn];done)|(refine congrArg (FV.int .i64) ?_;omega)) ?_|refine .new ?_)):P:=h
theorem Xf {P:Prop} (h:P:=by repeat (first|exact zf.nil|refine zf.cons (by first|exact Uk.plain rfl rfl|exact Uk.own rfl rfl (by decide) (by first|exact (fun _=>rfl)|(intro h;cases h)) (by first|rfl|(simp;done)|(congr 1;omega)|(simp;omega)|(simp [yn];done)|(refine congrArg (FV.int .i64) ?_;omega))|exact Uk.nil rfl|exact Uk.sub rfl rfl (by repeat (first|exact FV.le.refl _|exact FV.le.nil _|refine FV.le.agg ?_|refine FV.le.bw ?_|exact e7.nil|refine e7.cons ?_ ?_|exact FV.le.undef _))|exact Uk.part rfl rfl (by decide) (by first|exact (fun _=>rfl)|(intro h;cases h))) ?_)):P:=h
theorem zG {P:Prop} (h:P:=by simp [Op.operands,Call.operands]):P:=h
theorem Xo {P:Prop} (h:P:=by repeat (first|exact .nil)):P:=h
theorem zh {P:Prop} (h:P:=by exact Uk.plain rfl rfl):P:=h
theorem zg {P:Prop} (h:P:=by simp [Op.operands]):P:=h
theorem yd {P:Prop} (h:P:=by simp;omega):P:=h
theorem zm {P:Prop} (h:P:=by kernel_rfl):P:=h
theorem za {P:Prop} (h:P:=by decide):P:=h
theorem zc {P:Prop} (h:P:=by omega):P:=h
theorem zd {P:Prop} (h:P:=by simp):P:=h
def flat {α:Type} (aL:α→List Value) (l:List α):List Value:=l.flatMap aL
def na {α:Type} (sz:Nat) (aL:α→List Value):Prop:=∀ a,(aL a).length=sz
section
variable {α:Type} {sz:Nat} {aL:α→List Value}
theorem UY (h:na sz aL):∀ (l:List α) (i j:Nat) (hi:i<l.length),j<sz→(flat aL l)[i * sz+j]? = (aL l[i])[j]?
 | [], i, _, hi, _ => by simp at hi
 | a :: l, 0, j, _, hj => by
  simp only [flat,YT,ZX,zY,List.getElem_cons_zero];rw [Zi (by rw [h a];exact hj)]
 | a :: l, i+1, j, hi, hj => by
  have ih:=UY h l i j (by simpa using hi) hj;simp only [flat,YT,List.getElem_cons_succ] at *;rw [ZS (by rw [h a,zF];omega),h a,← ih];congr 1;rw [zF];omega
def Sl (aL:α→List Value) (w:World) (B:Nat) (A:Option Addr) (l:List α):Prop:=
 l≠[]→∃ b off,A=some ⟨b,off,none⟩∧b<B∧∀ j u,(flat aL l)[j]? = some u→w.cell? ⟨b,off+j,none⟩=some u
variable {w w' : World} {B B' : Nat} {A:Option Addr} {l:List α}
theorem Sl.keep (h:Sl aL w B A l) (hk:∀ p:Addr,p.block<B→w'.cell? p=w.cell? p):Sl aL w' B A l:=fun hl=>by
 obtain ⟨b,off,ha,hb,hc⟩:=h hl;exact ⟨b,off,ha,hb,fun j u hu=>(hk _ hb).trans (hc j u hu)⟩
theorem Sl.below (h:Sl aL w B A l) (hb:Below B w w'):Sl aL w' B A l:=h.keep fun _ hp=>hb.cell hp
theorem Sl.get (h:Sl aL w B A l) (hs:na sz aL) (hi:i<l.length):∃ b off,A=some ⟨b,off,none⟩∧b<B∧∀ j u,j<sz→(aL l[i])[j]? = some u→w.cell? ⟨b,off+i * sz+j,none⟩=some u:=by
 obtain ⟨b,off,ha,hb,hc⟩:=h (by rintro rfl;simp at hi);refine ⟨b,off,ha,hb,fun j u hj hu=>?_⟩;rw [Xb];exact hc _ u (by rw [UY hs l i j hi hj];exact hu)
theorem n8 {hU : Nat} {e:TypeId} (h:w.ownsRow base e sz v n xs) (hb:hU≤base):w.ownsRow hU e sz v n xs:=by
 refine ⟨h.1,?_⟩;rcases h.2 with hn|⟨g,cap,cur,rfl,bD,r⟩
 ·exact .inl hn
 ·exact .inr ⟨g,cap,cur,rfl,by omega,r⟩
end
theorem Vo {a:World} (h:Below B a w) (n:Nat):Below B a (w.drewN n):=⟨h.os,h.tape,h.output,h.size,h.block⟩
theorem oJ {w1 w2:World} (h:Below w.heap.size w w1) (k:Below w1.heap.size w1 w2):Below w.heap.size w w2:=h.trans (k.mono h.size)
def cS (w:World) (g:Nat) (t:TypeId) (cs:List Value):Prop:=w.heap[g]? = some (.cells cs.toArray t (0,0))
section
variable {w w' : World} {g:Nat} {t:TypeId} {cs:List Value}
theorem cS.lt (h:cS w g t cs):g<w.heap.size:=by
 rcases xb g w.heap.size with aK|fW
 ·exact aK
 ·unfold cS at h;rw [Array.getElem?_eq_none fW] at h;cases h
theorem cS.cell (h:cS w g t cs) (i:Nat):w.cell? ⟨g,i,none⟩=cs[i]?:=by rw [cell_of_row w g i cs.toArray t (0,0) h];simp
theorem cS.new (w:World) (t:TypeId) (cs:List Value):cS (w.alloc (.cells cs.toArray t)) w.heap.size t cs:=heap_alloc_new w _
theorem cS.drewN (h:cS w g t cs) (n:Nat):cS (w.drewN n) g t cs:=h
theorem cS.alloc (h:cS w g t cs) (o:Obj):cS (w.alloc o) g t cs:=(Below.heap_alloc w o g h.lt).trans h
theorem cS.below (h:cS w g t cs) (hb:Below B w w') (hg:g<B):cS w' g t cs:=(hb.block g hg).trans h
theorem cS.grown {row:Option Nat} (h:cS w g t cs) (hb:w.grownBy w' row) (hg:some g≠row):cS w' g t cs:=(hb.block g h.lt hg).trans h
end
def nth {α:Type} [Inhabited α] (l:List α) (i:Nat):α:=l.getD i default
theorem Zx [Inhabited α] {l:List α} (h:i<l.length):nth l i=l[i]:=by simp [nth,h]
theorem XK [Inhabited α] {l:List α} (h:i<l.length):nth l i∈l:=by rw [Zx h];exact zZ h
def bx (x:Int):Prop:=-9223372036854775808≤x∧x≤9223372036854775807
theorem oc (x:Int) (h:bx x):IntKind.i64.wrap x=x:=by
 unfold bx at h;rw [IntKind.wrap_i64];omega
inductive Wk where
 | fn (f:Nat)|bound (f:Nat)|agg|bw|lh (t:Nat)|oO (n:Nat)
 deriving Inhabited,DecidableEq
inductive FV where
 | undef
 | int (k:IntKind) (n:Int)
 | bool (b:Bool)
 | str (s:ByteArray)
 | nil
 | bG
 | au
 | list (sz:Nat) (es:List (List FV))
 | aC (sz:Nat) (es:List (List FV)) (i off:Nat)
 | agg (cs:List FV)
 | bw (vs:List FV)
 | own (id aa o n:Nat)
 | ptr (id aa i off:Nat)
 | omap (id aa:Nat)
 | smap (es:List (List FV))
 | fn (f:Nat) (aE:List FV)
 | iface (t:Nat) (f:FV)
 | wrap (k:Wk) (fs:List FV)
 | perm (sz:Nat) (es:List (List FV))
 | hZ (f:Nat) (aE:List FV)
 deriving Inhabited
def Wk.mk:Wk→List Value→Value
 | .fn f, us => .func (.func f) #[] us.toArray
 | .bound f, us => .func (.func f) us.toArray #[]
 | .agg, us => .agg us.toArray
 | .bw, us => .tuple us.toArray
 | .lh t, us => .iface t (us.headD .nilFunc)
 | .oO n, us => .tuple (.agg (us.take n).toArray :: us.drop n).toArray
def FV.one:FV→Bool
 | .int _ _|.bool _|.str _|.nil|.bG|.au|.list _ _|.smap _|.fn _ _|.iface _ _|.hZ _ _|.aC _ _ _ _ => true
 | _ => false
def FV.bL:FV→Value
 | .int k n => .int k n
 | .bool b => .bool b
 | .str s => .string s
 | _ => .nilFunc
def FV.val:FV→Value
 | .agg cs => .agg (cs.map FV.bL).toArray
 | f => f.bL
def FV.ay:FV→Bool
 | .int _ _|.bool _|.str _ => true
 | _ => false
def FV.simple:FV→Bool
 | .agg cs => cs.all FV.ay
 | f => f.ay
inductive Rd (w:World) (I:Nat→Prop):Value→FV→Prop where
 | undef (v:Value):Rd w I v .undef
 | int (k:IntKind) (n:Int):Rd w I (.int k n) (.int k n)
 | bool (b:Bool):Rd w I (.bool b) (.bool b)
 | str (s:ByteArray):Rd w I (.string s) (.str s)
 | nil:Rd w I (.slice none 0 0) .nil
 | bG:Rd w I (.map none) .bG
 | au:Rd w I .nilFunc .au
 | list (A:Option Addr) (n c sz:Nat) (es:List (List FV)) (us:List Value) (hn:es.length=n) (hc:n≤c) (he:∀ e∈es,e.length=sz) (ho:∀ f∈es.flatten,f.one=true)
   (hA:n≠0→∃ b off,A=some ⟨b,off,none⟩∧I b∧∀ (j:Nat) u,us[j]? = some u→w.cell? ⟨b,off+j,none⟩=some u)
   (hl:us.length=es.flatten.length) (hr:∀ (j:Nat) u f,us[j]? = some u→es.flatten[j]? = some f→Rd w I u f):Rd w I (.slice A n c) (.list sz es)
 | aC (b off sz:Nat) (es:List (List FV)) (i o:Nat) (us:List Value) (hI:I b) (he:∀ e∈es,e.length=sz) (ho:∀ f∈es.flatten,f.one=true)
   (hA:∀ (j:Nat) u,us[j]? = some u→w.cell? ⟨b,off+j,none⟩=some u)
   (hl:us.length=es.flatten.length) (hr:∀ (j:Nat) u f,us[j]? = some u→es.flatten[j]? = some f→Rd w I u f):Rd w I (.pointer (some ⟨b,off+(i * sz+o),none⟩)) (.aC sz es i o)
 | smap (b clock:Nat) (ai:Array MapEntry) (es:List (List FV)) (hI:I b) (hb:w.heap[b]? = some (.map ai clock)) (bA:MapKept.Stamped ai clock) (hl:ai.size=es.length)
   (hk:∀ (j:Nat) e row,ai[j]? = some e→es[j]? = some row→∃ kf vf,row=[kf,vf]∧kf.simple=true∧e.key=kf.val)
   (hr:∀ (j:Nat) e row f,ai[j]? = some e→es[j]? = some row→row[1]? = some f→Rd w I e.val f):Rd w I (.map (some b)) (.smap es)
 | fn (f:Nat) (us:List Value) (fs:List FV) (hl:us.length=fs.length) (hr:∀ (j:Nat) u g, us[j]? = some u → fs[j]? = some g → Rd w I u g):Rd w I (.func (.func f) #[] us.toArray) (.fn f fs)
 | iface (t:Nat) (v:Value) (f:FV) (hr:Rd w I v f):Rd w I (.iface t v) (.iface t f)
 | agg (us:List Value) (fs:List FV) (hl:us.length=fs.length) (hr:∀ (j:Nat) u f, us[j]? = some u → fs[j]? = some f → Rd w I u f):Rd w I (.agg us.toArray) (.agg fs)
 | bw (us:List Value) (fs:List FV) (hl:us.length=fs.length) (hr:∀ (j:Nat) u f, us[j]? = some u → fs[j]? = some f → Rd w I u f):Rd w I (.tuple us.toArray) (.bw fs)
 | hZ (f:Nat) (us:List Value) (fs:List FV) (hl:us.length=fs.length) (hr:∀ (j:Nat) u g, us[j]? = some u → fs[j]? = some g → Rd w I u g):Rd w I (.func (.func f) us.toArray #[]) (.hZ f fs)
 | perm (v:Value) (sz:Nat) (es aO : List (List FV)) (hp:aO.Perm es) (hr:Rd w I v (.list sz aO)):Rd w I v (.perm sz es)
 | c4 (v:Value) (es aO : List (List FV)) (hp:aO.Perm es) (hr:Rd w I v (.smap aO)):Rd w I v (.perm 0 es)
def ax (w:World) (I:Nat→Prop) (us:List Value) (fs:List FV):Prop:=us.length=fs.length∧∀ (j:Nat) u f,us[j]? = some u→fs[j]? = some f→Rd w I u f
theorem Rd.mono (hI:∀ b,I b→I' b∧w'.heap[b]? = w.heap[b]?) {f:FV} (h:Rd w I v f):Rd w' I' v f:=by
 induction h with
 | undef v => exact .undef v
 | int k n => exact .int k n
 | bool b => exact .bool b
 | str s => exact .str s
 | nil => exact .nil
 | bG => exact .bG
 | au => exact .au
 | list A n c sz es us hn hc he ho hA hl hr ih =>
  refine .list A n c sz es us hn hc he ho (fun h0=>?_) hl ih;obtain ⟨b,off,ha,hb,aY⟩:=hA h0;exact ⟨b,off,ha,(hI b hb).1,fun j u hu=>(World.cell?_of_block (w:=w) (w':=w') (a:=⟨b,off+j,none⟩) (hI b hb).2).trans (aY j u hu)⟩
 | aC b off sz es i o us hb he ho hA hl hr ih =>
  exact .aC b off sz es i o us (hI b hb).1 he ho (fun j u hu=>(World.cell?_of_block (w:=w) (w':=w') (a:=⟨b,off+j,none⟩) (hI b hb).2).trans (hA j u hu)) hl ih
 | smap b clock ai es hb kZ bA hl hk hr ih => exact .smap b clock ai es (hI b hb).1 ((hI b hb).2.trans kZ) bA hl hk ih
 | agg us fs hl hr ih => exact .agg us fs hl ih
 | iface t v f hr ih => exact .iface t v f ih
 | fn f us fs hl hr ih => exact .fn f us fs hl ih
 | bw us fs hl hr ih => exact .bw us fs hl ih
 | hZ f us fs hl hr ih => exact .hZ f us fs hl ih
 | perm v sz es aO hp hr ih => exact .perm v sz es aO hp ih
 | c4 v es aO hp hr ih => exact .c4 v es aO hp ih
theorem ax.mono (hI:∀ b,I b→I' b∧w'.heap[b]? = w.heap[b]?) {fs:List FV} (h:ax w I us fs):ax w' I' us fs:=
 ⟨h.1,fun j u f hu hf=>(h.2 j u f hu hf).mono hI⟩
theorem ax.nil {w:World} {I:Nat→Prop}:ax w I [] []:=⟨rfl,fun j u f hu=>by simp at hu⟩
theorem ax.append {vs:List Value} {fs gs:List FV} (h:ax w I us fs) (k:ax w I vs gs):ax w I (us++vs) (fs++gs):=by
 refine ⟨by simp [h.1,k.1],fun j u f hu hf=>?_⟩;rcases xb j us.length with hj|hj
 ·rw [Zi hj] at hu;rw [Zi (by rw [← h.1];exact hj)] at hf;exact h.2 j u f hu hf
 ·rw [ZS hj] at hu;rw [ZS (by rw [← h.1];exact hj),← h.1] at hf;exact k.2 _ u f hu hf
theorem ax.cons {u:Value} {f:FV} {fs:List FV} (h:Rd w I u f) (k:ax w I us fs):ax w I (u::us) (f::fs):=by
 refine ⟨by simp [k.1],fun j u' f' hu hf=>?_⟩;cases j with
 | zero => simp at hu hf; subst hu; subst hf; exact h
 | succ j => simp at hu hf; exact k.2 j u' f' hu hf
theorem ax.take {fs:List FV} (h:ax w I us fs) (n:Nat):ax w I (us.take n) (fs.take n):=by
 refine ⟨by simp [h.1],fun j u f hu hf=>?_⟩;rw [yt] at hu hf;split at hu
 ·rename_i hj;rw [if_pos hj] at hf;exact h.2 j u f hu hf
 ·cases hu
theorem ax.drop {fs:List FV} (h:ax w I us fs) (n:Nat):ax w I (us.drop n) (fs.drop n):=by
 refine ⟨by simp [h.1],fun j u f hu hf=>?_⟩;rw [yJ] at hu hf;exact h.2 _ u f hu hf
inductive yV where
 | dead|own|shut|aR|maps|aB|roomy|full|bm
 deriving DecidableEq,Inhabited
def yV.row:yV→Bool
 | .own|.shut|.roomy|.full => true
 | _ => false
def yV.br:yV→Bool
 | .own|.shut|.roomy|.full|.aB => true
 | _ => false
def yV.gB:yV→Bool
 | .own|.aR|.roomy|.full|.aB|.bm => true
 | _ => false
theorem yV.cZ {l:yV} (h:l.row=true):l≠.dead:=by rintro rfl;cases h
theorem yV.eD {l:yV} (h:l.row=true):l.br=true:=by cases l <;> first|rfl|cases h
theorem yV.aX {l:yV} (h:l.gB=true):l≠.dead:=by rintro rfl;cases h
structure zS where
 aa:Nat:=0
 ae:yV:=.dead
 E:TypeId:=0
 sz:Nat:=0
 es:List (List FV):=[]
 deriving Inhabited
def look {α:Type} (d:α):List (Nat×α)→Nat→α
 | [], _ => d
 | (i, a) :: l, k => bif Nat.beq i k then a else look d l k
theorem zp (d:α) (i:Nat) (a:α) (l:List (Nat×α)) (k:Nat):look d ((i,a)::l) k=if i=k then a else look d l k:=by
 show (bif Nat.beq i k then a else look d l k)=_;by_cases h:i=k
 ·subst h;simp
 ·have hb:Nat.beq i k=false:=by
   cases hb:Nat.beq i k with
   | true => exact absurd (Nat.eq_of_beq_eq_true hb) h
   | false => rfl
  rw [hb,if_neg h];rfl
structure ab where
 t:List (Nat×FV)
 o:List (Nat×zS)
def ab.get (s:ab) (d:Nat):FV:=look .undef s.t d
def ab.ob (s:ab) (id:Nat):zS:=look {} s.o id
def ab.put (s:ab) (d:Nat) (v:FV):ab:=⟨(d,v)::s.t,s.o⟩
def ab.set (s:ab) (id:Nat) (b:zS):ab:=⟨s.t,(id,b)::s.o⟩
theorem ab.c8 (s:ab) (d:Nat) (v:FV) (k:Nat):(s.put d v).get k=if d=k then v else s.get k:=zp _ _ _ _ _
theorem ab.aj (s:ab) (d:Nat) (b:zS) (k:Nat):(s.set d b).ob k=if d=k then b else s.ob k:=zp _ _ _ _ _
structure Wa (w:World) (aw:Option Nat) (ob:zS) (v:Value) (o n:Nat):Prop where
 row:ob.ae.br=true
 ex:∃ A c,v=.slice A n c∧n≤c∧o+n≤ob.es.length∧(aw=none→A=none∧c=0)∧
  ∀ b,aw=some b→∃ o',A=some ⟨b,o',none⟩∧(c≠0∨o=0→o'=o * ob.sz)∧∀ cur,w.heap[b]? = some (.cells cur ob.E (0,0))→cur.size=(o+c) * ob.sz
def hL (w:World) (I:Nat→Prop) (β:Nat→Option Nat) (s:ab) (v:Value):FV→Prop
 | .own id aa o n => (s.ob id).ae ≠ .dead → (s.ob id).aa=aa → Wa w (β id) (s.ob id) v o n
 | .ptr id aa i off => (s.ob id).ae ≠ .dead → (s.ob id).aa=aa → (s.ob id).ae.br=true ∧ ∃ b, β id=some b ∧ v=.pointer (some ⟨b, i * (s.ob id).sz+off, none⟩)
 | .omap id aa => (s.ob id).ae ≠ .dead → (s.ob id).aa=aa → (s.ob id).ae.br=false ∧ ∃ b, β id=some b ∧ v=.map (some b)
 | f => Rd w I v f
def VR (w:World) (I:Nat→Prop) (β:Nat→Option Nat) (s:ab) (v:Value):FV→Prop
 | .own id aa o n => (s.ob id).ae ≠ .dead → (s.ob id).aa=aa → Wa w (β id) (s.ob id) v o n
 | .ptr id aa i off => (s.ob id).ae ≠ .dead → (s.ob id).aa=aa → (s.ob id).ae.br=true ∧ ∃ b, β id=some b ∧ v=.pointer (some ⟨b, i * (s.ob id).sz+off, none⟩)
 | .omap id aa => (s.ob id).ae ≠ .dead → (s.ob id).aa=aa → (s.ob id).ae.br=false ∧ ∃ b, β id=some b ∧ v=.map (some b)
 | .wrap k fs => ∃ us:List Value, v=k.mk us ∧ us.length=fs.length ∧ ∀ (j:Nat) u f, us[j]? = some u → fs[j]? = some f → hL w I β s u f
 | f => Rd w I v f
def FV.hand:FV→Option (Nat×Nat)
 | .own id aa _ _ => some (id, aa)
 | .ptr id aa _ _ => some (id, aa)
 | .omap id aa => some (id, aa)
 | .wrap _ _ => some (0, 0)
 | _ => none
def FV.hands:FV→List (Nat×Nat)
 | .own id aa _ _ => [(id, aa)]
 | .ptr id aa _ _ => [(id, aa)]
 | .omap id aa => [(id, aa)]
 | .wrap _ fs => fs.filterMap FV.hand
 | _ => []
theorem FV.eL {f:FV} (h:f.hand=none):f.hands=[]:=by cases f <;> first|rfl|(simp [FV.hand] at h)
theorem FV.aS {f:FV} (h:f.hand=none) {p:Nat×Nat} (hp:p∈f.hands):False:=by rw [FV.eL h] at hp;cases hp
structure jZ (w:World) (base:Nat) (I:Nat→Prop) (aw:Option Nat) (ob:zS):Prop where
 wide:∀ e∈ob.es,e.length=ob.sz
 one:∀ f∈ob.es.flatten,f.one=true
 row:∃ v us,w.ownsRow base ob.E ob.sz v ob.es.length us∧v.ownBlock=aw∧ax w I us ob.es.flatten
structure jV (w:World) (base:Nat) (I:Nat→Prop) (aw:Option Nat) (ob:zS):Prop where
 ex:∃ b clock ai,aw=some b∧base≤b∧w.heap[b]? = some (.map ai clock)∧MapKept.Stamped ai clock∧ai.size=ob.es.length∧
  (∀ (j:Nat) e row,ai[j]? = some e→ob.es[j]? = some row→∃ kf vf,row=[kf,vf]∧kf.simple=true∧e.key=kf.val)∧
  ∀ (j:Nat) e row f,ai[j]? = some e→ob.es[j]? = some row→row[1]? = some f→Rd w I e.val f
structure jY (w:World) (base:Nat) (I:Nat→Prop) (β:Nat→Option Nat) (s:ab) (aw:Option Nat) (ob:zS):Prop where
 wide:∀ e∈ob.es,e.length=ob.sz
 cE:∀ f∈ob.es.flatten,∀ id aa,(id,aa)∈f.hands→aa≤(s.ob id).aa
 row:∃ v us,w.ownsRow base ob.E ob.sz v ob.es.length us∧v.ownBlock=aw∧us.length=ob.es.flatten.length∧∀ (j:Nat) u f,us[j]? = some u→ob.es.flatten[j]? = some f→VR w I β s u f
structure jU (w:World) (base:Nat) (I:Nat→Prop) (β:Nat→Option Nat) (s:ab) (aw:Option Nat) (ob:zS):Prop where
 cE:∀ f∈ob.es.flatten,∀ id aa,(id,aa)∈f.hands→aa≤(s.ob id).aa
 ex:∃ b clock ai,aw=some b∧base≤b∧w.heap[b]? = some (.map ai clock)∧MapKept.Stamped ai clock∧ai.size=ob.es.length∧
  (∀ (j:Nat) e row,ai[j]? = some e→ob.es[j]? = some row→∃ kf vf,row=[kf,vf]∧kf.simple=true∧e.key=kf.val)∧
  ∀ (j:Nat) e row f,ai[j]? = some e→ob.es[j]? = some row→row[1]? = some f→VR w I β s e.val f
def ZA (w:World) (aw:Option Nat) (ob:zS):Prop:=
 match ob.ae with
 | .roomy => ∃ b cur, aw=some b ∧ w.heap[b]? = some (.cells cur ob.E (0, 0)) ∧ (ob.es.length+1) * ob.sz ≤ cur.size
 | .full => ∀ b cur, aw=some b → w.heap[b]? = some (.cells cur ob.E (0, 0)) → cur.size=ob.es.length * ob.sz
 | _ => True
def bT (w:World) (base:Nat) (I:Nat→Prop) (β:Nat→Option Nat) (s:ab) (aw:Option Nat) (ob:zS):Prop:=
 if ob.ae.row=true then jZ w base I aw ob∧ZA w aw ob else if ob.ae.br=true then jY w base I β s aw ob else if ob.ae=.bm then jU w base I β s aw ob else jV w base I aw ob
section
variable {w:World} {base:Nat} {I:Nat→Prop} {β:Nat→Option Nat} {s:ab} {aw:Option Nat} {ob:zS}
theorem bT.bg (h:bT w base I β s aw ob) (hr:ob.ae.row=true):jZ w base I aw ob:=by unfold bT at h;rw [if_pos hr] at h;exact h.1
theorem bT.e6 (h:bT w base I β s aw ob) (hr:ob.ae.row=true):ZA w aw ob:=by unfold bT at h;rw [if_pos hr] at h;exact h.2
theorem bT.fo (h:bT w base I β s aw ob) (hr:ob.ae.row=false) (hs:ob.ae.br=true):jY w base I β s aw ob:=by unfold bT at h;rwa [if_neg (by rw [hr];decide),if_pos hs] at h
theorem bT.fj (h:bT w base I β s aw ob) (hr:ob.ae.br=false) (hm:ob.ae≠.bm):jV w base I aw ob:=by
 unfold bT at h;rwa [if_neg (fun e=>by rw [yV.eD e] at hr;cases hr),if_neg (by rw [hr];decide),if_neg hm] at h
theorem bT.jr (h:bT w base I β s aw ob) (hm:ob.ae=.bm):jU w base I β s aw ob:=by
 unfold bT at h;rwa [if_neg (by rw [hm];decide),if_neg (by rw [hm];decide),if_pos hm] at h
theorem bT.mH (h:bT w base I β s aw ob) (hr:ob.ae.br=false):∃ b clock ai,aw=some b∧base≤b∧w.heap[b]? = some (.map ai clock):=by
 by_cases hm:ob.ae=.bm
 ·obtain ⟨b,clock,ai,h1,h2,h3,_⟩:=(h.jr hm).ex;exact ⟨b,clock,ai,h1,h2,h3⟩
 ·obtain ⟨b,clock,ai,h1,h2,h3,_⟩:=(h.fj hr hm).ex;exact ⟨b,clock,ai,h1,h2,h3⟩
theorem bT.ofRow (h:jZ w base I aw ob) (hm:ZA w aw ob) (hr:ob.ae.row=true):bT w base I β s aw ob:=by unfold bT;rw [if_pos hr];exact ⟨h,hm⟩
theorem bT.mK (h:jY w base I β s aw ob) (hr:ob.ae=.aB):bT w base I β s aw ob:=by unfold bT;rw [if_neg (by rw [hr];decide),if_pos (by rw [hr];rfl)];exact h
theorem bT.ofMap (h:jV w base I aw ob) (hr:ob.ae.br=false) (hm:ob.ae≠.bm):bT w base I β s aw ob:=by
 unfold bT;rwa [if_neg (fun e=>by rw [yV.eD e] at hr;cases hr),if_neg (by rw [hr];decide),if_neg hm]
theorem bT.kJ (h:jU w base I β s aw ob) (hm:ob.ae=.bm):bT w base I β s aw ob:=by
 unfold bT;rwa [if_neg (by rw [hm];decide),if_neg (by rw [hm];decide),if_pos hm]
theorem ZA.own (hl:ob.ae=.own):ZA w aw ob:=by unfold ZA;rw [hl];trivial
theorem ZA.shut (hl:ob.ae=.shut):ZA w aw ob:=by unfold ZA;rw [hl];trivial
end
structure JJ where
 ok:Nat→Prop
 K:Nat→Prop:=fun _=>False
 h0:Nat→Option Obj:=fun _=>none
 gh:Value→FV→Prop:=fun _ _=>False
 ds:List Deferred:=[]
instance:CoeFun JJ fun _=>Nat→Prop:=⟨JJ.ok⟩
def xX:Nat:=5000
def aH (J:JJ) (w:World) (β:Nat→Option Nat) (s:ab) (b:Nat):Prop:=b<w.heap.size∧J b∧∀ id,(s.ob id).ae.gB=true→β id≠some b
structure FR (N:Nat) (w0:World) (J:JJ) (s:ab) (a:Act) (w:World) (β:Nat→Option Nat):Prop where
 size:a.tmps.size=N
 defers:a.defers=J.ds
 bF:Below w0.heap.size w0 w
 cV:∀ b,w0.heap.size≤b→J b∨J.K b
 slot:∀ d,VR w (aH J w β s) β s (a.tmps.getD d undef) (s.get d)
 cE:∀ d id aa,(id,aa)∈(s.get d).hands→aa≤(s.ob id).aa
 obj:∀ id,(s.ob id).ae≠.dead→bT w w0.heap.size (aH J w β s) β s (β id) (s.ob id)
 inj:∀ id aQ b,(s.ob id).ae≠.dead→(s.ob aQ).ae≠.dead→β id=some b→β aQ=some b→id=aQ
 kept:∀ b,J.K b→b<w.heap.size∧(∀ id,(s.ob id).ae≠.dead→β id≠some b)∧w.heap[b]? = J.h0 b
 gh:∀ v f,J.gh v f→VR w (aH J w β s) β s v f∧∀ id aa,(id,aa)∈f.hands→xX≤id∧aa≤(s.ob id).aa
theorem FR.fresh {N:Nat} {J:JJ} {s:ab} (h:FR N w0 J s a w β) (b:Nat) (hb:w0.heap.size≤b) (hx:w.heap.size≤b∨∃ id,(s.ob id).ae≠.dead∧β id=some b):J b:=by
 rcases h.cV b hb with h1|h1
 ·exact h1
 ·obtain ⟨k1,k2,_⟩:=h.kept b h1;rcases hx with hx|⟨id,hl,e⟩
  ·omega
  ·exact absurd e (k2 id hl)
theorem Wa.mono {ob:zS} {o:Nat} (h:Wa w aw ob v o n) (hb:∀ b,aw=some b→w'.heap[b]? = w.heap[b]?):Wa w' aw ob v o n:=by
 obtain ⟨A,c,h1,h2,h3,h4,h5⟩:=h.ex;refine ⟨h.row,A,c,h1,h2,h3,h4,fun b aG=>?_⟩;obtain ⟨o',k1,k2,k3⟩:=h5 b aG;exact ⟨o',k1,k2,fun cur hc=>k3 cur (by rw [← hb b aG];exact hc)⟩
theorem VQ {e:TypeId} {sz:Nat} (h:w.ownsRow base e sz v n xs) (hb:∀ b,v.ownBlock=some b→w'.heap[b]? = w.heap[b]?):w'.ownsRow base e sz v n xs:=by
 refine ⟨h.1,?_⟩;rcases h.2 with hn|⟨g,cap,cur,rfl,bD,dc,rest⟩
 ·exact .inl hn
 ·exact .inr ⟨g,cap,cur,rfl,bD,(hb g rfl).trans dc,rest⟩
theorem jZ.mono {ob:zS} (h:jZ w base I aw ob) (hI:∀ b,I b→I' b∧w'.heap[b]? = w.heap[b]?) (hb:∀ b,aw=some b→w'.heap[b]? = w.heap[b]?) :
  jZ w' base I' aw ob:=by
 obtain ⟨v,us,h1,h2,h3⟩:=h.row;exact ⟨h.wide,h.one,v,us,VQ h1 (fun b hv=>hb b (h2▸hv)),h2,h3.mono hI⟩
theorem jV.mono {ob:zS} (h:jV w base I aw ob) (hI:∀ b,I b→I' b∧w'.heap[b]? = w.heap[b]?) (hb:∀ b,aw=some b→w'.heap[b]? = w.heap[b]?) :
  jV w' base I' aw ob:=by
 obtain ⟨b,clock,ai,h1,h2,h3,h4,h5,h6,h7⟩:=h.ex;exact ⟨b,clock,ai,h1,h2,(hb b h1).trans h3,h4,h5,h6,fun j e row f a b c=>(h7 j e row f a b c).mono hI⟩
theorem ZA.mono {ob:zS} (h:ZA w aw ob) (hb:∀ b,aw=some b→w'.heap[b]? = w.heap[b]?):ZA w' aw ob:=by
 unfold ZA at h ⊢;cases hl:ob.ae with
 | roomy =>
  rw [hl] at h;obtain ⟨b,cur,h1,h2,h3⟩:=h;exact ⟨b,cur,h1,(hb b h1).trans h2,h3⟩
 | full =>
  rw [hl] at h;exact fun b cur h1 h2=>h b cur h1 ((hb b h1).symm.trans h2)
 | _ => trivial
theorem jY.mono {s s' : ab} {ob:zS} (h:jY w base I β s aw ob) (hb:∀ b,aw=some b→w'.heap[b]? = w.heap[b]?)
  (T:∀ v f,VR w I β s v f→(∀ id aa,(id,aa)∈f.hands→aa≤(s.ob id).aa)→VR w' I' aJ s' v f) (hv:∀ id,(s.ob id).aa≤(s'.ob id).aa):jY w' base I' aJ s' aw ob:=by
 obtain ⟨v,us,h1,h2,h3,h4⟩:=h.row;exact ⟨h.wide,fun f hf id aa e=>xa (h.cE f hf id aa e) (hv id),v,us,VQ h1 (fun b hv=>hb b (h2▸hv)),h2,h3,fun j u f hu hf=>T u f (h4 j u f hu hf) (h.cE f (zN hf))⟩
theorem jU.mono {s s' : ab} {ob:zS} (h:jU w base I β s aw ob) (hb:∀ b,aw=some b→w'.heap[b]? = w.heap[b]?)
  (T:∀ v f,VR w I β s v f→(∀ id aa,(id,aa)∈f.hands→aa≤(s.ob id).aa)→VR w' I' aJ s' v f) (hv:∀ id,(s.ob id).aa≤(s'.ob id).aa):jU w' base I' aJ s' aw ob:=by
 obtain ⟨b,clock,ai,h1,h2,h3,h4,h5,h6,h7⟩:=h.ex;exact ⟨fun f hf id aa e=>xa (h.cE f hf id aa e) (hv id),b,clock,ai,h1,h2,by rw [hb b h1];exact h3,h4,h5,h6,fun j e row f he hr hf=>T _ f (h7 j e row f he hr hf) (h.cE f (ym.2 ⟨row,zN hr,zN hf⟩))⟩
theorem bT.mono {s s' : ab} {ob:zS} (h:bT w base I β s aw ob) (hI:∀ b,I b→I' b∧w'.heap[b]? = w.heap[b]?) (hb:∀ b,aw=some b→w'.heap[b]? = w.heap[b]?)
  (T:∀ v f,VR w I β s v f→(∀ id aa,(id,aa)∈f.hands→aa≤(s.ob id).aa)→VR w' I' aJ s' v f) (hv:∀ id,(s.ob id).aa≤(s'.ob id).aa):bT w' base I' aJ s' aw ob:=by
 cases hr:ob.ae.row with
 | true => exact .ofRow ((h.bg hr).mono hI hb) ((h.e6 hr).mono hb) hr
 | false=>
  cases hs:ob.ae.br with
  | true =>
   refine .mK ((h.fo hr hs).mono hb T hv) ?_;cases hl:ob.ae <;> rw [hl] at hr hs <;> first|rfl|(simp [yV.row,yV.br] at hr hs;done)
  | false =>
   by_cases hm:ob.ae=.bm
   ·exact .kJ ((h.jr hm).mono hb T hv) hm
   ·exact .ofMap ((h.fj hs hm).mono hI hb) hs hm
theorem bT.lt {s:ab} {ob:zS} (h:bT w base I β s aw ob) {b:Nat} (hb:aw=some b):base≤b∧b<w.heap.size:=by
 cases hr:ob.ae.row with
 | true =>
  obtain ⟨v,us,h1,h2,h3⟩:=(h.bg hr).row;exact h1.lt b (h2.trans hb)
 | false=>
  cases hs:ob.ae.br with
  | true =>
   obtain ⟨v,us,h1,h2,h3⟩:=(h.fo hr hs).row;exact h1.lt b (h2.trans hb)
  | false =>
   obtain ⟨b',clock,ai,h1,h2,h3⟩:=h.mH hs;rw [hb] at h1;injection h1 with h1
   subst h1;exact ⟨h2,(yC.1 h3).1⟩
theorem hL.mono {s s' : ab} {f:FV} (h:hL w I β s v f) (hI:∀ b,I b→I' b∧w'.heap[b]? = w.heap[b]?)
  (hh:∀ id aa,f.hand=some (id,aa)→(s'.ob id).ae≠.dead→(s'.ob id).aa=aa→(s.ob id).ae≠.dead∧(s.ob id).aa=aa∧aJ id=β id∧(s'.ob id).sz=(s.ob id).sz∧(s'.ob id).ae.br=(s.ob id).ae.br∧
   ∀ v o n,Wa w (β id) (s.ob id) v o n→Wa w' (aJ id) (s'.ob id) v o n):hL w' I' aJ s' v f:=by
 cases f with
 | own id aa o n =>
  intro h1 h2;obtain ⟨k1,k2,_,_,_,k3⟩:=hh id aa rfl h1 h2;exact k3 v o n (h k1 k2)
 | ptr id aa i off =>
  intro h1 h2;obtain ⟨k1,k2,k3,k4,k5,_⟩:=hh id aa rfl h1 h2;obtain ⟨aB,b,hb,hv⟩:=h k1 k2;exact ⟨by rw [k5];exact aB,b,by rw [k3];exact hb,by rw [k4];exact hv⟩
 | omap id aa =>
  intro h1 h2;obtain ⟨k1,k2,k3,k4,k5,_⟩:=hh id aa rfl h1 h2;obtain ⟨aB,b,hb,hv⟩:=h k1 k2;exact ⟨by rw [k5];exact aB,b,by rw [k3];exact hb,hv⟩
 | _ => exact Rd.mono hI h
theorem VR.nZ {s:ab} {f:FV} (h:hL w I β s v f):VR w I β s v f:=by
 cases f with
 | wrap k fs => have h' : Rd w I v (.wrap k fs) := h; cases h'
 | _ => exact h
theorem VR.mP {s:ab} {f:FV} (h:VR w I β s v f) (hw:∀ k fs,f≠.wrap k fs):hL w I β s v f:=by
 cases f with
 | wrap k fs => exact absurd rfl (hw k fs)
 | _ => exact h
theorem VR.mono {s s' : ab} {f:FV} (h:VR w I β s v f) (hI:∀ b,I b→I' b∧w'.heap[b]? = w.heap[b]?)
  (hh:∀ id aa,(id,aa)∈f.hands→(s'.ob id).ae≠.dead→(s'.ob id).aa=aa→(s.ob id).ae≠.dead∧(s.ob id).aa=aa∧aJ id=β id∧(s'.ob id).sz=(s.ob id).sz∧(s'.ob id).ae.br=(s.ob id).ae.br∧
   ∀ v o n,Wa w (β id) (s.ob id) v o n→Wa w' (aJ id) (s'.ob id) v o n):VR w' I' aJ s' v f:=by
 have key:∀ g:FV,(∀ k fs,g≠.wrap k fs)→∀ id aa,g.hand=some (id,aa)→(id,aa)∈g.hands:=fun g hg id aa e=>by
  cases g with
  | wrap k fs => exact absurd rfl (hg k fs)
  | own|ptr|omap => simp only [FV.hand, zB] at e; rw [← e]; exact zX.2 rfl
  | _ => cases e
 by_cases hw:∃ k fs,f=.wrap k fs
 ·obtain ⟨k,fs,rfl⟩:=hw;obtain ⟨us,e,hl,hr⟩:=h;refine ⟨us,e,hl,fun j u g hu hg=>(hr j u g hu hg).mono hI fun id aa hf=>hh id aa ?_⟩;exact xF.2 ⟨g,zN hg,hf⟩
 ·have hw' : ∀ k fs,f≠.wrap k fs:=fun k fs e=>hw ⟨k,fs,e⟩;exact VR.nZ ((h.mP hw').mono hI fun id aa hf=>hh id aa (key f hw' id aa hf))
theorem VR.a9 {s:ab} {f:FV} (h:Rd w I v f) (hf:f.hand=none):VR w I β s v f:=by
 cases f <;> first|exact h|(simp [FV.hand] at hf)
theorem VR.rd {s:ab} {f:FV} (h:VR w I β s v f) (hf:f.hand=none):Rd w I v f:=by
 cases f <;> first|exact h|(simp [FV.hand] at hf)
theorem FR.step {N:Nat} {w0 w w' : World} {J:JJ} {s s' : ab} {a a' : Act} {β aJ : Nat→Option Nat} (h:FR N w0 J s a w β) (C:Nat→Prop)
  (size:a'.tmps.size=N) (defers:a'.defers=J.ds) (bF:Below w0.heap.size w0 w')
  (hI:∀ b,aH J w β s b→aH J w' aJ s' b∧w'.heap[b]? = w.heap[b]?)
  (cz:∀ k,(a'.tmps.getD k undef=a.tmps.getD k undef∧s'.get k=s.get k)∨
   (VR w' (aH J w' aJ s') aJ s' (a'.tmps.getD k undef) (s'.get k)∧∀ id aa,(id,aa)∈(s'.get k).hands→aa≤(s'.ob id).aa))
  (cy:∀ id,¬ C id→s'.ob id=s.ob id∧aJ id=β id∧((s.ob id).ae≠.dead→∀ b,β id=some b→w'.heap[b]? = w.heap[b]?))
  (az:∀ id,C id→(s.ob id).aa≤(s'.ob id).aa)
  (kD:∀ id,C id→(s'.ob id).ae≠.dead→(s'.ob id).aa=(s.ob id).aa→(s.ob id).ae≠.dead∧aJ id=β id∧(s'.ob id).sz=(s.ob id).sz∧(s'.ob id).ae.br=(s.ob id).ae.br∧∀ v o n,Wa w (β id) (s.ob id) v o n→Wa w' (aJ id) (s'.ob id) v o n)
  (g3:∀ id,C id→(s'.ob id).ae≠.dead→(∀ v f,VR w (aH J w β s) β s v f→(∀ id aa,(id,aa)∈f.hands→aa≤(s.ob id).aa)→VR w' (aH J w' aJ s') aJ s' v f)→bT w' w0.heap.size (aH J w' aJ s') aJ s' (aJ id) (s'.ob id))
  (inj:∀ id aQ b,(s'.ob id).ae≠.dead→(s'.ob aQ).ae≠.dead→aJ id=some b→aJ aQ=some b→id=aQ)
  (hH:∀ b,b<w.heap.size→(∀ id,(s.ob id).ae≠.dead→β id≠some b)→w'.heap[b]? = w.heap[b]?∧∀ id,(s'.ob id).ae≠.dead→aJ id≠some b):FR N w0 J s' a' w' aJ:=by
 have T:∀ v f,VR w (aH J w β s) β s v f→(∀ id aa,(id,aa)∈f.hands→aa≤(s.ob id).aa)→VR w' (aH J w' aJ s') aJ s' v f:=fun v f hv hle=>by
  refine hv.mono hI fun id aa hf h1 h2=>?_;have hle:=hle id aa hf;by_cases hC:C id
  ·have:=az id hC;have hv:(s'.ob id).aa=(s.ob id).aa:=by omega
   obtain ⟨k1,k2,k3,k4,k5⟩:=kD id hC h1 hv;exact ⟨k1,by omega,k2,k3,k4,k5⟩
  ·obtain ⟨e,e',hb⟩:=cy id hC;rw [e] at h1 h2;refine ⟨h1,h2,e',by rw [e],by rw [e],fun v o n hv=>?_⟩;rw [e,e'];exact hv.mono (hb h1)
 have hv:∀ id,(s.ob id).aa≤(s'.ob id).aa:=fun id=>by
  by_cases hC:C id
  ·exact az id hC
  ·rw [(cy id hC).1];exact zi _
 refine { size:=size,defers:=defers,bF:=bF,cV:=h.cV,slot:=fun k=>?_,cE:=fun k id aa hf=>?_,obj:=fun id hl=>?_,inj:=inj,
          kept:=fun b hb=>by
           obtain ⟨k1,k2,k3⟩:=h.kept b hb;obtain ⟨q1,q2⟩:=hH b k1 k2;have:w'.heap[b]? = some w.heap[b]:=q1.trans (by simp [k1]);exact ⟨(yC.1 this).1,q2,q1.trans k3⟩,
          gh:=fun v f hg=>⟨T v f (h.gh v f hg).1 fun id aa hf=>((h.gh v f hg).2 id aa hf).2,fun id aa hf=>⟨((h.gh v f hg).2 id aa hf).1,xa ((h.gh v f hg).2 id aa hf).2 (hv id)⟩⟩ }
 ·rcases cz k with ⟨e1,e2⟩|⟨hv,_⟩
  ·rw [e1,e2];exact T _ _ (h.slot k) (h.cE k)
  ·exact hv
 ·rcases cz k with ⟨e1,e2⟩|⟨_,eZ⟩
  ·rw [e2] at hf;exact xa (h.cE k id aa hf) (hv id)
  ·exact eZ id aa hf
 ·by_cases hC:C id
  ·exact g3 id hC hl T
  ·obtain ⟨e,e',hb⟩:=cy id hC;rw [e] at hl ⊢;rw [e'];exact (h.obj id hl).mono hI (hb hl) T hv
theorem q8 (a:Act) (d:Nat) (v:Value) (k:Nat) (hd:d<a.tmps.size):(a.put (some d) v).tmps.getD k undef=if d=k then v else a.tmps.getD k undef:=by
 simp only [Act.put,ZC,Array.getElem?_setIfInBounds];split
 ·rename_i h;subst h;simp
 ·rfl
theorem FR.put {N:Nat} {J:JJ} {s:ab} (h:FR N w0 J s a w β) {d:Nat} {f:FV} (hd:d<N) (hv:VR w (aH J w β s) β s v f)
  (az:∀ id aa,(id,aa)∈f.hands→aa≤(s.ob id).aa):FR N w0 J (s.put d f) (a.put (some d) v) w β:=by
 refine h.step (C:=fun _=>False) (by simp [Act.put,h.size]) h.defers h.bF (fun b hb=>⟨hb,rfl⟩) (fun k=>?_) (fun id _=>⟨rfl,rfl,fun _ _ _=>rfl⟩) (fun _ h=>h.elim) (fun _ h=>h.elim) (fun _ h=>h.elim) h.inj (fun b _ hn=>⟨rfl,hn⟩);rw [q8 a d v k (h.size▸hd),ab.c8];split
 ·exact .inr ⟨hv.mono (fun b hb=>⟨hb,rfl⟩) (fun id aa _ h1 h2=>⟨h1,h2,rfl,rfl,rfl,fun _ _ _ h=>h⟩),fun id aa hf=>az id aa hf⟩
 ·exact .inl ⟨rfl,rfl⟩
theorem aH.grow {J:JJ} {s:ab} {b:Nat} (h:aH J w β s b) (hb:Below w.heap.size w w'):aH J w' β s b∧w'.heap[b]? = w.heap[b]?:=
 ⟨⟨xI h.1 hb.size,h.2⟩,hb.block b h.1⟩
theorem FR.grow {N:Nat} {J:JJ} {s:ab} (h:FR N w0 J s a w β) (hb:Below w.heap.size w w'):FR N w0 J s a w' β:=by
 refine h.step (C:=fun _=>False) h.size h.defers (h.bF.trans (hb.mono h.bF.size)) (fun b aG=>aG.grow hb) (fun k=>.inl ⟨rfl,rfl⟩) (fun id _=>⟨rfl,rfl,fun hl b e=>?_⟩) (fun _ h=>h.elim) (fun _ h=>h.elim) (fun _ h=>h.elim) h.inj (fun b aK hn=>⟨hb.block b aK,hn⟩);exact hb.block b ((h.obj id hl).lt e).2
def YC (β:Nat→Option Nat) (j:Nat) (x:Option Nat):Nat→Option Nat:=fun k=>if k=j then x else β k
theorem FR.make {N:Nat} {J:JJ} {s:ab} (h:FR N w0 J s a w β) (i:Option Nat) (j:Nat) {E sz:Nat} {es:List (List FV)}
  (hi:∀ k,i=some k→(s.ob k).ae.gB=true) (hg:w.grownBy w' (i.bind β)) (hw:∀ e∈es,e.length=sz) (ho:∀ f∈es.flatten,f.one=true) (hv:w'.ownsRow w0.heap.size E sz v es.length xs) (hr:ax w (aH J w β s) xs es.flatten)
  (hb:(v.ownBlock=i.bind β)∨v.ownBlock=none∨∃ b,v.ownBlock=some b∧w.heap.size≤b) {s' : ab}
  (hs:∀ k,s'.ob k=if j=k then ⟨(s.ob j).aa+1,.own,E,sz,es⟩ else if i=some k then { s.ob k with ae:=.dead } else s.ob k) (bA:∀ k,s'.get k=s.get k) :
  FR N w0 J s' a w' (YC β j v.ownBlock):=by
 have ff:∀ k,i.bind β=some k→w0.heap.size≤k:=fun k hk=>by
  cases i with
  | none => simp at hk
  | some i => exact ((h.obj i (yV.aX (hi i rfl))).lt (by simpa using hk)).1
 have bK:∀ b,aH J w β s b→some b≠i.bind β:=fun b aG e=>by
  cases i with
  | none => simp at e
  | some i => exact aG.2.2 i (hi i rfl) (by simpa using e.symm)
 have hI:∀ b,aH J w β s b→aH J w' (YC β j v.ownBlock) s' b∧w'.heap[b]? = w.heap[b]?:=fun b aG=>by
  refine ⟨⟨xI aG.1 hg.size,aG.2.1,fun id hl=>?_⟩,hg.block b aG.1 (bK b aG)⟩;rw [hs] at hl;unfold YC;by_cases hj:j=id
  ·rw [if_pos hj.symm];rcases hb with e|e|⟨b',e,fW⟩
   ·rw [e];exact fun e2=>bK b aG e2.symm
   ·rw [e];simp
   ·rw [e];intro e2;injection e2 with e2;have:=aG.1;omega
  ·rw [if_neg hj] at hl;rw [if_neg (fun e=>hj e.symm)];by_cases df:i=some id
   ·rw [if_pos df] at hl;cases hl
   ·rw [if_neg df] at hl;exact aG.2.2 id hl
 have aV:∀ id b,id≠j→i≠some id→(s.ob id).ae≠.dead→β id=some b→b<w.heap.size∧w'.heap[b]? = w.heap[b]?∧v.ownBlock≠some b:=fun id b hj df hl aG=>by
  have aK:=((h.obj id hl).lt aG).2;have kA:some b≠i.bind β:=fun e=>by
   cases i with
   | none => simp at e
   | some i =>
    have:=h.inj id i b hl (yV.aX (hi i rfl)) aG (by simpa using e.symm);exact df (by rw [this])
  refine ⟨aK,hg.block b aK kA,?_⟩;rcases hb with e|e|⟨b',e,fW⟩
  ·rw [e];exact fun e2=>kA e2.symm
  ·rw [e];simp
  ·rw [e];intro e2;injection e2 with e2;omega
 refine h.step (C:=fun id=>id=j∨i=some id) h.size h.defers (h.bF.grown hg h.bF.size ff) hI (fun k=>.inl ⟨rfl,bA k⟩) (fun id hC=>?_) (fun id hC=>?_) (fun id hC hl ee=>?_) (fun id hC hl _=>?_) ?_ ?_
 ·have hj:¬ id=j:=fun e=>hC (.inl e);have df:¬ i=some id:=fun e=>hC (.inr e);refine ⟨by rw [hs,if_neg (fun e=>hj e.symm),if_neg df],by unfold YC;rw [if_neg hj],fun hl b aG=>(aV id b hj df hl aG).2.1⟩
 ·rw [hs];split
  ·rename_i e;subst e;simp
  ·split <;> simp
 ·rw [hs] at hl ee;split at hl
  ·rename_i e;rw [if_pos e] at ee;subst e;simp at ee
  ·rename_i e;rcases hC with hC|hC
   ·exact absurd hC.symm e
   ·rw [if_pos hC] at hl;simp at hl
 ·rw [hs] at hl ⊢;split at hl
  ·rename_i e;subst e;rw [if_pos rfl];unfold YC;rw [if_pos rfl];exact .ofRow ⟨hw,ho,v,xs,hv,rfl,hr.mono hI⟩ (.own rfl) rfl
  ·rename_i e;rcases hC with hC|hC
   ·exact absurd hC.symm e
   ·rw [if_pos hC] at hl;simp at hl
 ·intro id aQ b hl ba e e';unfold YC at e e';rw [hs] at hl ba;by_cases hj:id=j
  ·by_cases gN : aQ=j
   ·rw [hj,gN]
   ·rw [if_pos hj] at e;rw [if_neg gN] at e';rw [if_neg (fun e=>gN e.symm)] at ba;by_cases df:i=some aQ
    ·rw [if_pos df] at ba;simp at ba
    ·rw [if_neg df] at ba;exact absurd e (aV aQ b gN df ba e').2.2
  ·rw [if_neg hj] at e;rw [if_neg (fun e=>hj e.symm)] at hl;have df:¬ i=some id:=fun df=>by rw [if_pos df] at hl;simp at hl
   rw [if_neg df] at hl;by_cases gN : aQ=j
   ·rw [if_pos gN] at e';exact absurd e' (aV id b hj df hl e).2.2
   ·rw [if_neg gN] at e';rw [if_neg (fun e=>gN e.symm)] at ba;have l7 : ¬ i=some aQ:=fun df=>by rw [if_pos df] at ba;simp at ba
    rw [if_neg l7] at ba;exact h.inj id aQ b hl ba e e'
 ·intro b aK hn;have kA:some b≠i.bind β:=fun e=>by
   cases i with
   | none => simp at e
   | some i => exact hn i (yV.aX (hi i rfl)) (by simpa using e.symm)
  refine ⟨hg.block b aK kA,fun id hl e=>?_⟩;unfold YC at e;rw [hs] at hl;by_cases hj:id=j
  ·rw [if_pos hj] at e;rcases hb with e2|e2|⟨b',e2,fW⟩
   ·rw [e2] at e;exact kA e.symm
   ·rw [e2] at e;simp at e
   ·rw [e2] at e;injection e with e;omega
  ·rw [if_neg hj] at e;rw [if_neg (fun e=>hj e.symm)] at hl;have df:¬ i=some id:=fun df=>by rw [if_pos df] at hl;simp at hl
   rw [if_neg df] at hl;exact hn id hl e
theorem FR.write {N:Nat} {J:JJ} {s:ab} (h:FR N w0 J s a w β) (i:Nat) {es:List (List FV)}
  (hi:(s.ob i).ae=.own) (hg:w.grownBy w' (β i)) (hw:∀ e∈es,e.length=(s.ob i).sz) (ho:∀ f∈es.flatten,f.one=true) (hv:w'.ownsRow w0.heap.size (s.ob i).E (s.ob i).sz v es.length xs) (mD:v.ownBlock=β i)
  (hr:ax w (aH J w β s) xs es.flatten) (hl:es.length=(s.ob i).es.length) (aA:∀ b cur dM,β i=some b→w.heap[b]? = some (.cells cur (s.ob i).E (0,0))→w'.heap[b]? = some (.cells dM (s.ob i).E (0,0))→dM.size=cur.size)
  {s' : ab} (hs:∀ k,s'.ob k=if i=k then { s.ob i with es:=es } else s.ob k) (bA:∀ k,s'.get k=s.get k):FR N w0 J s' a w' β:=by
 have im:(s.ob i).ae≠.dead:=by rw [hi];decide
 have hI:∀ b,aH J w β s b→aH J w' β s' b∧w'.heap[b]? = w.heap[b]?:=fun b aG=>by
  refine ⟨⟨xI aG.1 hg.size,aG.2.1,fun id hl=>?_⟩,hg.block b aG.1 (fun e=>aG.2.2 i (by rw [hi];rfl) e.symm)⟩;rw [hs] at hl;split at hl
  ·rename_i e;subst e;exact aG.2.2 i (by rw [hi];rfl)
  ·exact aG.2.2 id hl
 refine h.step (C:=fun id=>id=i) h.size h.defers (h.bF.grown hg h.bF.size fun k hk=>((h.obj i im).lt hk).1) hI (fun k=>.inl ⟨rfl,bA k⟩) (fun id hC=>?_) (fun id hC=>?_) (fun id hC bj ee=>?_) (fun id hC bj T=>?_) ?_ ?_
 ·refine ⟨by rw [hs,if_neg (fun e=>hC e.symm)],rfl,fun bj b aG=>hg.block b ((h.obj id bj).lt aG).2 (fun e=>hC (h.inj id i b bj im aG e.symm))⟩
 ·subst hC;rw [hs,if_pos rfl];exact zi _
 ·subst hC;refine ⟨im,rfl,by rw [hs,if_pos rfl],by rw [hs,if_pos rfl],fun v2 o n iB=>?_⟩;rw [hs,if_pos rfl];obtain ⟨A,c,h1,h2,h3,h4,h5⟩:=iB.ex;refine ⟨iB.row,A,c,h1,h2,by dsimp only;omega,h4,fun b aG=>?_⟩;obtain ⟨o',k1,k2,k3⟩:=h5 b aG;refine ⟨o',k1,k2,fun dM eF=>?_⟩;obtain ⟨v0,s6,r1,r2,r3⟩:=((h.obj id im).bg (by rw [hi];rfl)).row;rcases r1.2 with ⟨rfl,_⟩|⟨g,cap,cur,rfl,_,dc,_⟩
  ·rw [← r2] at aG;simp [Value.ownBlock] at aG
  ·have gY:g=b:=by rw [← r2] at aG;simpa [Value.ownBlock] using aG
   subst gY;rw [aA g cur dM aG dc eF];exact k3 cur dc
 ·subst hC;rw [hs,if_pos rfl];exact .ofRow ⟨hw,ho,v,xs,hv,mD,hr.mono hI⟩ (.own hi) (by show (s.ob id).ae.row=true;rw [hi];rfl)
 ·intro id aQ b bj cX e e';refine h.inj id aQ b ?_ ?_ e e'
  ·rw [hs] at bj;split at bj
   ·rename_i e;subst e;exact im
   ·exact bj
  ·rw [hs] at cX;split at cX
   ·rename_i e;subst e;exact im
   ·exact cX
 ·intro b aK hn;refine ⟨hg.block b aK (fun e=>hn i im e.symm),fun id bj=>hn id ?_⟩;rw [hs] at bj;split at bj
  ·rename_i e;subst e;exact im
  ·exact bj
theorem FR.gz {N:Nat} {J:JJ} {s:ab} (h:FR N w0 J s a w β) (i:Nat) (l:yV) (gP:l.gB=true→(s.ob i).ae.gB=true) (hd:(s.ob i).ae=.dead→l=.dead) (iA:l≠.dead→l.br=(s.ob i).ae.br)
  {s' : ab} (hs:∀ k,s'.ob k=if i=k then { s.ob i with ae:=l } else s.ob k) (bA:∀ k,s'.get k=s.get k)
  (pG:l≠.dead→bT w w0.heap.size (aH J w β s') β s' (β i) (s.ob i)→bT w w0.heap.size (aH J w β s') β s' (β i) { s.ob i with ae:=l }):FR N w0 J s' a w β:=by
 have dD:∀ id,(s'.ob id).ae≠.dead→(s.ob id).ae≠.dead:=fun id hl=>by
  rw [hs] at hl;split at hl
  ·rename_i e;subst e;exact fun e=>hl (hd e)
  ·exact hl
 have hI:∀ b,aH J w β s b→aH J w β s' b∧w.heap[b]? = w.heap[b]?:=fun b aG=>by
  refine ⟨⟨aG.1,aG.2.1,fun id hl=>?_⟩,rfl⟩;rw [hs] at hl;split at hl
  ·rename_i e;subst e;exact aG.2.2 i (gP hl)
  ·exact aG.2.2 id hl
 have hv:∀ id,(s.ob id).aa≤(s'.ob id).aa:=fun id=>by
  rw [hs];split
  ·rename_i e;subst e;exact zi _
  ·exact zi _
 refine h.step (C:=fun id=>id=i) h.size h.defers h.bF hI (fun k=>.inl ⟨rfl,bA k⟩) (fun id hC=>?_) (fun id hC=>hv id) (fun id hC bj ee=>?_) (fun id hC bj T=>?_) ?_ (fun b _ hn=>⟨rfl,fun id bj=>hn id (dD id bj)⟩)
 ·exact ⟨by rw [hs,if_neg (fun e=>hC e.symm)],rfl,fun _ _ _=>rfl⟩
 ·have l9:=dD id bj;subst hC;rw [hs,if_pos rfl] at bj;have aW:=iA bj;refine ⟨l9,rfl,by rw [hs,if_pos rfl],by rw [hs,if_pos rfl];exact aW,fun v2 o n iB=>?_⟩;rw [hs,if_pos rfl];exact ⟨aW.trans iB.row,iB.ex⟩
 ·have l9:=dD id bj;subst hC;have ho:=(h.obj id l9).mono hI (fun _ _=>rfl) T hv;rw [hs,if_pos rfl] at bj ⊢;exact pG bj ho
 ·intro id aQ b bj cX e e';exact h.inj id aQ b (dD id bj) (dD aQ cX) e e'
inductive TK where
 | other|any|int (k:IntKind)|bool|str|slice (e:Nat)|ao (fs:List (Nat × Nat))|arr (n e:Nat)|map (k e:Nat)
 deriving Inhabited
def TK.aM:TK→Option Bool
 | .ao _|.arr _ _ => some true
 | .int _|.bool|.str|.slice _|.map _ _|.any => some false
 | .other => none
structure TS where
 k:TK:=.other
 size:Nat:=0
 bytes:Nat:=0
 zero:List FV:=[]
 deriving Inhabited
def yH:Value→FV→Bool
 | .int k n, .int k' n' => decide (k=k') && decide (n=n')
 | .bool a, .bool b => a == b
 | .string s, .str s' => s.size == 0 && s'.size == 0
 | .slice none 0 0, .nil => true
 | .map none, .bG => true
 | .nilFunc, .au => true
 | _, .undef => true
 | _, _ => false
def xt:List Value→List FV→Bool
 | [], [] => true
 | v :: vs, f :: fs => yH v f && xt vs fs
 | _, _ => false
def yT (P:Program) (d:TypeDesc) (k:TK):Bool:=
 match k,d with
 | .other, _ => true
 | .any, .struct _ => false
 | .any, .array _ _ => false
 | .any, _ => true
 | .int k, .int k' => decide (k=k')
 | .bool, .bool => true
 | .str, .string => true
 | .slice e, .slice e' => decide (e=e')
 | .ao fs, .struct gs => decide (fs=gs.toList.map fun f => (f.offset, f.type)) && gs.toList.all fun f => decide (f.name ≠ "_")
 | .arr n e, .array n' e' => decide (n=n') && decide (e=e')
 | .map k e, .map k' e' => decide (k=k') && decide (e=e')
 | _, _ => false
def m7 (k:TK) (z:Value):Bool:=
 match k.aM with
 | some true => match z with|.agg _ => true|_ => false
 | some false => match z with|.agg _ => false|_ => true
 | none => true
def ZJ (P:Program) (T:Nat) (ts:TS):Bool:=
 match P.underlying T,P.info? T with
 | some d,some i=>
  yT P d ts.k && decide (i.size=ts.size) && decide (i.bytes=ts.bytes) && decide (ts.zero.length=ts.size) &&
   (match i.zero with|some z=>xt z.cells.toList ts.zero && m7 ts.k z|none=>false)
 | _, _ => false
structure oH (P:Program) (T:Nat) (ts:TS) (d:TypeDesc) (i:TypeInfo) (z:Value):Prop where
 u:P.underlying T=some d
 k:yT P d ts.k=true
 info:P.info? T=some i
 size:i.size=ts.size
 bytes:i.bytes=ts.bytes
 zo:i.zero=some z
 zl:ts.zero.length=ts.size
 zr:xt z.cells.toList ts.zero=true
 zk:m7 ts.k z=true
theorem qF {P:Program} {T:Nat} {ts:TS} (h:ZJ P T ts=true):∃ d i z,oH P T ts d i z:=by
 unfold ZJ at h;cases hu:P.underlying T with
 | none => rw [hu] at h; cases h
 | some d=>
  cases hi:P.info? T with
  | none => rw [hu, hi] at h; cases h
  | some i=>
   rw [hu,hi] at h;simp only [zD,decide_eq_true_eq] at h;obtain ⟨⟨⟨⟨h1,h2⟩,h3⟩,h4⟩,h5⟩:=h;cases hz:i.zero with
   | none => rw [hz] at h5; cases h5
   | some z =>
    rw [hz] at h5;simp only [zD] at h5;exact ⟨d,i,z,hu,h1,hi,h2,h3,hz,h4,h5.1,h5.2⟩
structure Ctx where
 P:Program
 N:Nat
 ty:Nat→TS
 ok:∀ T,(match (ty T).k with|.other=>true|_=>ZJ P T (ty T))=true
 mixed:P.follows .mixedOrders=true
theorem Ctx.get (c:Ctx) {T:Nat} {k:TK} (h:(c.ty T).k=k) (hk:k≠.other):∃ d i z,oH c.P T (c.ty T) d i z:=by
 refine qF ?_;have:=c.ok T;cases k <;> first|exact absurd rfl hk|(rw [h] at this;exact this)
theorem Rd.zero {f:FV} (h:yH v f=true):Rd w I v f:=by
 cases f with
 | undef => exact .undef v
 | int k n =>
  cases v <;> simp [yH] at h
  obtain ⟨rfl,rfl⟩:=h;exact .int _ _
 | bool b =>
  cases v <;> simp [yH] at h
  subst h;exact .bool _
 | str s =>
  cases v <;> simp [yH] at h
  rename_i t;have e:t=s:=by rw [h.1,h.2]
  subst e;exact .str _
 | nil=>
  cases v with
  | slice a n c =>
   cases a with
   | none => cases n <;> cases c <;> first|exact .nil|(simp [yH] at h)
   | some a => simp [yH] at h
  | _ => simp [yH] at h
 | bG=>
  cases v with
  | map a =>
   cases a with
   | none => exact .bG
   | some a => simp [yH] at h
  | _ => simp [yH] at h
 | au =>
  cases v with
  | nilFunc => exact .au
  | _ => simp [yH] at h
 | _ => cases v <;> first|(simp [yH] at h; done)|(rename_i a n c; cases a <;> cases n <;> cases c <;> simp [yH] at h)
theorem ax.zeros {w:World} {I:Nat→Prop}:∀ {vs:List Value} {fs:List FV},xt vs fs=true→ax w I vs fs
 | [], [], _ => ax.nil
 | [], _ :: _, h => by simp [xt] at h
 | _ :: _, [], h => by simp [xt] at h
 | v :: vs, f :: fs, h => by
  simp only [xt,zD] at h;exact ax.cons (Rd.zero h.1) (ax.zeros h.2)
def cF:Value→FV
 | .int k n => .int k n
 | .bool b => .bool b
 | .string s => .str s
 | .slice none 0 0 => .nil
 | .map none => .bG
 | _ => .undef
def dN:Value→FV
 | .agg cs => .agg (cs.toList.map cF)
 | v => cF v
theorem Rd.cF (v:Value):Rd w I v (cF v):=by
 unfold YtedkppfghdipdaaDoor.cF;split <;> first|exact .int _ _|exact .bool _|exact .str _|exact .nil|exact .bG|exact .undef _
theorem Rd.dN (v:Value):Rd w I v (dN v):=by
 unfold YtedkppfghdipdaaDoor.dN;split
 ·rename_i cs;have:=Rd.agg (w:=w) (I:=I) cs.toList (cs.toList.map YtedkppfghdipdaaDoor.cF) zd (fun j u f hu hf=>by
   rw [yZ,hu] at hf;simp only [yQ,zB] at hf;subst hf;exact Rd.cF u)
  simpa using this
 ·exact Rd.cF v
theorem Vp (v:Value):(dN v).hand=none:=by
 unfold dN;split
 ·rfl
 ·unfold cF;split <;> rfl
def ab.ev (s:ab):Operand→FV
 | .tmp t => s.get t
 | .const v => dN v
 | .func f => .fn f []
 | _ => .undef
section
variable {N:Nat} {w0 w:World} {J:JJ} {s:ab} {a:Act} {β:Nat→Option Nat}
theorem FR.ev (h:FR N w0 J s a w β) (x:Operand):VR w (aH J w β s) β s (a.eval x) (s.ev x):=by
 cases x with
 | tmp t => exact h.slot t
 | const v =>
  exact VR.a9 (Rd.dN v) (Vp v)
 | global g => exact Rd.undef _
 | func f => exact VR.a9 (Rd.fn f [] [] rfl zd) rfl
theorem FR.bY (h:FR N w0 J s a w β) (x:Operand) {id aa:Nat} (hf:(id,aa)∈(s.ev x).hands):aa≤(s.ob id).aa:=by
 cases x with
 | tmp t => exact h.cE t id aa hf
 | const v =>
  rw [ab.ev] at hf;exact (FV.aS (Vp _) hf).elim
 | global g => simp [ab.ev, FV.hands] at hf
 | func f => simp [ab.ev, FV.hands] at hf
theorem FR.aN (h:FR N w0 J s a w β) {k:IntKind} {n:Int} (e:s.ev x=.int k n):a.eval x=.int k n:=by
 have:=h.ev x;rw [e] at this;have:=VR.rd this rfl;generalize a.eval x=v at this;cases this;rfl
theorem FR.ch (h:FR N w0 J s a w β) (e:s.ev x=.bool b):a.eval x=.bool b:=by
 have:=h.ev x;rw [e] at this;have:=VR.rd this rfl;generalize a.eval x=v at this;cases this;rfl
theorem FR.bX (h:FR N w0 J s a w β) (e:s.ev x=.nil):a.eval x=.slice none 0 0:=by
 have:=h.ev x;rw [e] at this;have:=VR.rd this rfl;generalize a.eval x=v at this;cases this;rfl
theorem FR.aP (h:FR N w0 J s a w β) {f:FV} (e:s.ev x=f) (hf:f.hand=none):Rd w (aH J w β s) (a.eval x) f:=by
 have:=h.ev x;rw [e] at this;exact VR.rd this hf
theorem FR.bc (h:FR N w0 J s a w β) {id aa o:Nat} (e:s.ev x=.own id aa o n) (hl:(s.ob id).ae≠.dead) (hv:(s.ob id).aa=aa):Wa w (β id) (s.ob id) (a.eval x) o n:=by
 have:=h.ev x;rw [e] at this;exact this hl hv
theorem FR.bJ (h:FR N w0 J s a w β) {id aa:Nat} (e:s.ev x=.ptr id aa i off) (hl:(s.ob id).ae≠.dead) (hv:(s.ob id).aa=aa):(s.ob id).ae.br=true∧∃ b,β id=some b∧a.eval x=.pointer (some ⟨b,i * (s.ob id).sz+off,none⟩):=by
 have:=h.ev x;rw [e] at this;exact this hl hv
theorem FR.dO (h:FR N w0 J s a w β) {id aa:Nat} (e:s.ev x=.omap id aa) (hl:(s.ob id).ae≠.dead) (hv:(s.ob id).aa=aa):(s.ob id).ae.br=false∧∃ b,β id=some b∧a.eval x=.map (some b):=by
 have:=h.ev x;rw [e] at this;exact this hl hv
end
def bR:BinOp→IntKind→Int→Int→Option FV
 | .add, k, a, b => some (.int k (k.wrap (a+b)))
 | .sub, k, a, b => some (.int k (k.wrap (a - b)))
 | .mul, k, a, b => some (.int k (k.wrap (a * b)))
 | .eql, _, a, b => some (.bool (a == b))
 | .neq, _, a, b => some (.bool (a != b))
 | .lss, _, a, b => some (.bool (decide (a<b)))
 | .leq, _, a, b => some (.bool (decide (a ≤ b)))
 | .gtr, _, a, b => some (.bool (decide (a > b)))
 | .geq, _, a, b => some (.bool (decide (a ≥ b)))
 | .and, k, a, b => some (.int k (k.wrap (BitVec.ofInt k.bits a &&& BitVec.ofInt k.bits b).toNat))
 | .or, k, a, b => some (.int k (k.wrap (BitVec.ofInt k.bits a ||| BitVec.ofInt k.bits b).toNat))
 | _, _, _, _ => none
section
variable {N:Nat} {w0 w:World} {J:JJ} {s:ab} {a:Act} {β:Nat→Option Nat} {P:Program}
theorem sB (op:BinOp) (T T2:TypeId) (x y:Operand) {k:IntKind} {n:Int} {f:FV} (ex:a.eval x=.int k m) (ey:a.eval y=.int k n) (hf:bR op k m n=some f) (dst:Option Nat) (ty:TypeId) (pos:String) (after:Array Edge) (g:Option (Nat×Bool)) (I:Nat→Prop) :
  ∃ v,(execOp a.eval ⟨dst,.binOp op T x y T2,ty,pos,after,g⟩).run P w=.ok (.value v) w∧Rd w I v f∧f.hand=none:=by
 cases op <;> simp only [bR,zB,reduceCtorEq] at hf <;> subst hf <;>
  simp [execOp,eqGuard,binOp,ex,ey,Op.intArith,Op.intCmp,Op.intBits,FV.hand] <;> first|exact .int _ _|exact .bool _
theorem rA (op:BinOp) (T T2:TypeId) (x y:Operand) {k yk:IntKind} {n:Int} (ex:a.eval x=.int k m) (ey:a.eval y=.int yk n) (hn:0≤n) (bu:op=.shl∨op=.shr) (dst:Option Nat) (ty:TypeId) (pos:String) (after:Array Edge) (g:Option (Nat×Bool)) :
  (execOp a.eval ⟨dst,.binOp op T x y T2,ty,pos,after,g⟩).run P w=.ok (.value (.int k (if op=.shl then k.wrap (m * 2 ^ (min n.toNat k.bits)) else m.fdiv (2 ^ (min n.toNat k.bits))))) w:=by
 have jM : ¬ n<0:=by omega
 rcases bu with rfl|rfl <;> simp [execOp,eqGuard,binOp,ex,ey,Op.shift,jM]
theorem sC (op:BinOp) (T T2:TypeId) (x y:Operand) {k:IntKind} {n:Int} (ex:a.eval x=.int k m) (ey:a.eval y=.int k n) (hn:n≠0) (bu:op=.quo∨op=.rem) (dst:Option Nat) (ty:TypeId) (pos:String) (after:Array Edge) (g:Option (Nat×Bool)) :
  (execOp a.eval ⟨dst,.binOp op T x y T2,ty,pos,after,g⟩).run P w=.ok (.value (.int k (if op=.quo then k.wrap (m.tdiv n) else m.tmod n))) w:=by
 rcases bu with rfl|rfl <;> simp [execOp,eqGuard,binOp,ex,ey,Op.intDiv,hn]
theorem sA (op:BinOp) {T:TypeId} (x y:Operand) {m n:Bool} (hT:P.underlying T=some .bool) (ex:a.eval x=.bool m) (ey:a.eval y=.bool n) (bu:op=.eql∨op=.neq) (dst:Option Nat) (ty:TypeId) (pos:String) (after:Array Edge) (g:Option (Nat×Bool)) :
  (execOp a.eval ⟨dst,.binOp op T x y T2,ty,pos,after,g⟩).run P w=.ok (.value (.bool (if op=.eql then m == n else m != n))) w:=by
 have h1:∀ op:BinOp,(eqGuard op T x y (.bool m) (.bool n)).run P w=.ok () w:=fun op=>by cases op <;> simp [eqGuard]
 have h2:=run_equal_bool (P:=P) w T m n hT;rcases bu with rfl|rfl
 ·have e:binOp .eql T (.bool m) (.bool n)=(do pure (.bool (← Op.equal T (.bool m) (.bool n)))):=rfl;simp only [execOp,ex,ey,e,yR,Result.andThen,h1,h2,yS,if_true]
 ·have e:binOp .neq T (.bool m) (.bool n)=(do pure (.bool (!(← Op.equal T (.bool m) (.bool n))))):=rfl;simp only [execOp,ex,ey,e,yR,Result.andThen,h1,h2,yS,bne];rfl
end
theorem yi (b o n:Nat):(⟨b,o,none⟩:Addr).add n=⟨b,o+n,none⟩:=by
 unfold Addr.add;split
 ·rename_i h;subst h;rfl
 ·rfl
def xu (ts:TS) (cs:List FV):FV:=
 match ts.k.aM with
 | some true => .agg (cs.take ts.size)
 | _ => cs.headD .undef
theorem zO {P:Program} {e:Nat} (h:yT P d (.slice e)=true):d=.slice e:=by
 cases d <;> simp [yT] at h
 subst h;rfl
theorem Vd {P:Program} {e:Nat} (h:yT P d (.arr n e)=true):d=.array n e:=by
 cases d <;> simp [yT] at h
 obtain ⟨rfl,rfl⟩:=h;rfl
theorem Ve {P:Program} {e:Nat} (h:yT P d (.map n e)=true):d=.map n e:=by
 cases d <;> simp [yT] at h
 obtain ⟨rfl,rfl⟩:=h;rfl
theorem n4 {P:Program} {k:IntKind} (h:yT P d (.int k)=true):d=.int k:=by
 cases d <;> simp [yT] at h
 subst h;rfl
theorem VJ {P:Program} (h:yT P d .bool=true):d=.bool:=by
 cases d <;> first|rfl|(simp [yT] at h)
theorem rf {P:Program} (h:yT P d .str=true):d=.string:=by
 cases d <;> first|rfl|(simp [yT] at h)
theorem Zq {P:Program} (h:yT P d (.ao fs)=true):∃ gs,d=.struct gs∧fs=gs.toList.map (fun f=>(f.offset,f.type))∧∀ f∈gs.toList,f.name≠"_":=by
 cases d <;> simp [yT] at h
 rename_i gs;refine ⟨gs,rfl,h.1,fun f hf=>?_⟩;obtain ⟨i,hi,rfl⟩:=yl hf;have:=h.2 i (by simpa using hi);simpa using this
theorem Yr {c:Ctx} {T:Nat} (hk:(c.ty T).k.aM = some b) (w:World):(isAgg T).run c.P w=.ok b w:=by
 cases eH:(c.ty T).k with
 | other => rw [eH] at hk; cases hk
 | any =>
  obtain ⟨d,i,z,h⟩:=c.get eH zd;have hd:=h.k;rw [eH] at hd hk;simp only [TK.aM,zB] at hk;subst hk;cases d <;> first|(simp [yT] at hd;done)|simp [isAgg,run_underlying h.u]
 | _=>
  obtain ⟨d,i,z,h⟩:=c.get eH zd;have hd:=h.k;rw [eH] at hd hk
  first
   | (obtain ⟨gs, rfl, _⟩ := Zq hd; simp only [TK.aM, zB] at hk; subst hk; simp [isAgg, run_underlying h.u])
   | (obtain rfl := Vd hd; simp only [TK.aM, zB] at hk; subst hk; simp [isAgg, run_underlying h.u])
   | (obtain rfl := n4 hd; simp only [TK.aM, zB] at hk; subst hk; simp [isAgg, run_underlying h.u])
   | (obtain rfl := VJ hd; simp only [TK.aM, zB] at hk; subst hk; simp [isAgg, run_underlying h.u])
   | (obtain rfl := rf hd; simp only [TK.aM, zB] at hk; subst hk; simp [isAgg, run_underlying h.u])
   | (obtain rfl := zO hd; simp only [TK.aM, zB] at hk; subst hk; simp [isAgg, run_underlying h.u])
   | (obtain rfl := Ve hd; simp only [TK.aM, zB] at hk; subst hk; simp [isAgg, run_underlying h.u])
theorem oh {k:TK} (h:k.aM = some b):k≠.other:=by rintro rfl;cases h
theorem yb {c:Ctx} {T:Nat} (hk:(c.ty T).k≠.other) (w:World):(sizeOf T).run c.P w=.ok (c.ty T).size w:=by
 obtain ⟨d,i,z,h⟩:=c.get rfl hk;simp [sizeOf,typeInfo,h.info,h.size]
theorem xO {c:Ctx} {T:Nat} (hk:(c.ty T).k≠.other) (w:World):∃ z,(zeroValue T).run c.P w=.ok z w∧xt z.cells.toList (c.ty T).zero=true∧z.cells.size=(c.ty T).size:=by
 obtain ⟨d,i,z,h⟩:=c.get rfl hk;refine ⟨z,by simp [zeroValue,typeInfo,h.info,h.zo],h.zr,?_⟩;have:=(ax.zeros (w:=w) (I:=fun _=>True) h.zr).1;rw [h.zl] at this;simpa using this
theorem ZH {c:Ctx} {T:Nat} (hk:(c.ty T).k.aM = some bb) (w:World) (b o:Nat) (us:List Value) (hl:(c.ty T).size≤us.length) (h1:bb=false→0<us.length)
  (hc:∀ (j:Nat) u,us[j]? = some u→w.cell? ⟨b,o+j,none⟩=some u) {fs:List FV} (hr:ax w I us fs) :
  ∃ v,(loadVar T ⟨b,o,none⟩).run c.P w=.ok v w∧Rd w I v (xu (c.ty T) fs):=by
 cases bb with
 | true=>
  refine ⟨.agg (us.take (c.ty T).size).toArray,?_,?_⟩
  ·have hs:=yb (oh hk) w;have nK:=run_loadCells_list (P:=c.P) (w:=w) ⟨b,o,none⟩ (us.take (c.ty T).size) (fun j v hv=>by
    rw [yi];rw [yt] at hv;split at hv
    ·exact hc j v hv
    ·cases hv)
   rw [zW,xc hl] at nK;simp [loadVar,Yr hk,hs,nK]
  ·unfold xu;rw [hk];have:=hr.take (c.ty T).size;exact .agg _ _ this.1 this.2
 | false=>
  have h0:=h1 rfl;obtain ⟨u,rest,rfl⟩:∃ u rest,us=u::rest:=by cases us with|nil=>simp at h0|cons u r=>exact ⟨u,r,rfl⟩
  obtain ⟨f,gs,rfl⟩:∃ f gs,fs=f::gs:=by cases fs with|nil=>have:=hr.1;simp at this|cons f r=>exact ⟨f,r,rfl⟩
  refine ⟨u,?_,?_⟩
  ·have:=hc 0 u rfl;rw [xG] at this;simp [loadVar,Yr hk,load,Sem.run,this]
  ·unfold xu;rw [hk];exact hr.2 0 u f rfl rfl
def FV.cells:FV→List FV
 | .agg cs => cs
 | f => [f]
theorem Rd.dh {f:FV} (h:Rd w I v f) (hf:f.one=true):v.oneCell'=true:=by
 cases h <;> first|rfl|(simp [FV.one] at hf)
theorem Rd.cells {f:FV} (h:Rd w I v f) (hf:f.cells.all FV.one=true):ax w I v.cells.toList f.cells∧(∀ u∈v.cells.toList,u.oneCell'=true):=by
 have key:ax w I v.cells.toList f.cells:=by
  cases h with
  | agg us fs hl hr => exact ⟨by simpa [Value.cells, FV.cells] using hl, by simpa [Value.cells, FV.cells] using hr⟩
  | undef v => simp [FV.cells, FV.one] at hf
  | bw us fs hl hr => simp [FV.cells, FV.one] at hf
  | aC b off sz es i o us hI he ho hA hl hr => exact ax.cons (.aC b off sz es i o us hI he ho hA hl hr) ax.nil
  | hZ f us fs hl hr => exact ax.cons (.hZ f us fs hl hr) ax.nil
  | perm v sz es aO hp hr => simp [FV.cells, FV.one] at hf
  | c4 v es aO hp hr => simp [FV.cells, FV.one] at hf
  | int k n => exact ax.cons (.int k n) .nil
  | bool b => exact ax.cons (.bool b) .nil
  | str s => exact ax.cons (.str s) .nil
  | nil => exact ax.cons .nil ax.nil
  | bG => exact ax.cons .bG ax.nil
  | au => exact ax.cons .au ax.nil
  | list A n c sz es us hn hc he ho hA hl hr => exact ax.cons (.list A n c sz es us hn hc he ho hA hl hr) ax.nil
  | smap b clock ai es hI hb bA hl hk hr => exact ax.cons (.smap b clock ai es hI hb bA hl hk hr) ax.nil
  | fn f us fs hl hr => exact ax.cons (.fn f us fs hl hr) ax.nil
  | iface t v f hr => exact ax.cons (.iface t v f hr) ax.nil
 refine ⟨key,fun u hu=>?_⟩;obtain ⟨j,hj,rfl⟩:=yl hu;have ew:j<f.cells.length:=by rw [← key.1];exact hj
 refine (key.2 j _ f.cells[j] zd (by simp [ew])).dh ?_;rw [zC] at hf;exact hf _ (zZ ew)
theorem Rd.eR {f:FV} (hf:f.cells.all FV.one=true):f.hand=none:=by
 cases f <;> first|rfl|(simp [FV.cells,FV.one] at hf)
def ab.wr (s:ab) (l:List (Nat×zS)):ab:=l.foldl (fun s p=>s.set p.1 p.2) s
theorem ab.bS (l:List (Nat×zS)):∀ (s:ab) (k:Nat),(s.wr l).get k=s.get k:=by
 induction l with
 | nil => exact fun _ _ => rfl
 | cons p l ih => exact fun s k => ih (s.set p.1 p.2) k
def ab.live (s:ab) (id aa:Nat):Prop:=(s.ob id).ae≠.dead∧(s.ob id).aa=aa
def yh (c:Ctx) (w0:World) (J:JJ) (s:ab) (a:Act) (o:Oper) (w:World) (f:FV) (wr:List (Nat×zS)):Prop:=
 ∃ v w' aJ,(execOp a.eval o).run c.P w=.ok (.value v) w'∧FR c.N w0 J (s.wr wr) a w' aJ∧VR w' (aH J w' aJ (s.wr wr)) aJ (s.wr wr) v f∧∀ id aa,(id,aa)∈f.hands→aa≤((s.wr wr).ob id).aa
section
variable {c:Ctx} {w0 w:World} {J:JJ} {s:ab} {a:Act} {β:Nat→Option Nat} {dst:Option Nat} {ty:TypeId} {pos:String} {after:Array Edge} {g:Option (Nat×Bool)}
theorem yh.pure {o:Oper} {f:FV} (h:FR c.N w0 J s a w β) (hr:(execOp a.eval o).run c.P w=.ok (.value v) w) (hf:VR w (aH J w β s) β s v f) (hv:∀ id aa,(id,aa)∈f.hands→aa≤(s.ob id).aa):yh c w0 J s a o w f []:=
 ⟨v,w,β,hr,h,hf,hv⟩
theorem yh.rd {o:Oper} {f:FV} (h:FR c.N w0 J s a w β) (hr:(execOp a.eval o).run c.P w=.ok (.value v) w) (hf:Rd w (aH J w β s) v f) (hn:f.hand=none):yh c w0 J s a o w f []:=
 .pure h hr (VR.a9 hf hn) (fun id aa e=>(FV.aS hn e).elim)
theorem rX (h:FR c.N w0 J s a w β) (x:Operand):yh c w0 J s a ⟨dst,.move x,ty,pos,after,g⟩ w (s.ev x) []:=
 .pure h (v:=a.eval x) (by simp [execOp]) (h.ev x) (fun id aa e=>h.bY x e)
theorem Uz (h:FR c.N w0 J s a w β) (x:Operand):yh c w0 J s a ⟨dst,.assign x,ty,pos,after,g⟩ w (s.ev x) []:=
 .pure h (v:=a.eval x) (by simp [execOp]) (h.ev x) (fun id aa e=>h.bY x e)
theorem rY (h:FR c.N w0 J s a w β) (ep x y:Operand) (hb:s.ev ep=.bool b):yh c w0 J s a ⟨dst,.pick ep x y,ty,pos,after,g⟩ w (if b then s.ev x else s.ev y) []:=by
 have e:=h.ch hb;cases b
 ·exact .pure h (v:=a.eval y) (by simp [execOp,e,asBool]) (h.ev y) (fun id aa e=>h.bY y e)
 ·exact .pure h (v:=a.eval x) (by simp [execOp,e,asBool]) (h.ev x) (fun id aa e=>h.bY x e)
theorem rT (h:FR c.N w0 J s a w β) (op:BinOp) (T T2:TypeId) (x y:Operand) {k:IntKind} {n:Int} {f:FV} (ex:s.ev x=.int k m) (ey:s.ev y=.int k n) (hf:bR op k m n=some f) :
  yh c w0 J s a ⟨dst,.binOp op T x y T2,ty,pos,after,g⟩ w f []:=by
 obtain ⟨v,h1,h2,h3⟩:=sB (P:=c.P) (w:=w) op T T2 x y (h.aN ex) (h.aN ey) hf dst ty pos after g (aH J w β s);exact .rd h h1 h2 h3
theorem rU (h:FR c.N w0 J s a w β) (op:BinOp) (T T2:TypeId) (x y:Operand) {k:IntKind} {n:Int} (ex:s.ev x=.int k m) (ey:s.ev y=.int k n) (hn:n≠0) (bu:op=.quo∨op=.rem) :
  yh c w0 J s a ⟨dst,.binOp op T x y T2,ty,pos,after,g⟩ w (.int k (if op=.quo then k.wrap (m.tdiv n) else m.tmod n)) []:=
 .rd h (sC (P:=c.P) (w:=w) op T T2 x y (h.aN ex) (h.aN ey) hn bu dst ty pos after g) (.int _ _) rfl
theorem qi (h:FR c.N w0 J s a w β) (op:BinOp) (T T2:TypeId) (x y:Operand) {k yk:IntKind} {n:Int} (ex:s.ev x=.int k m) (ey:s.ev y=.int yk n) (hn:0≤n) (bu:op=.shl∨op=.shr) :
  yh c w0 J s a ⟨dst,.binOp op T x y T2,ty,pos,after,g⟩ w (.int k (if op=.shl then k.wrap (m * 2 ^ (min n.toNat k.bits)) else m.fdiv (2 ^ (min n.toNat k.bits)))) []:=
 .rd h (rA (P:=c.P) (w:=w) op T T2 x y (h.aN ex) (h.aN ey) hn bu dst ty pos after g) (.int _ _) rfl
theorem rR (h:FR c.N w0 J s a w β) {T:TypeId} (hT:(c.ty T).k≠.other) (iQ:(c.ty T2).k=.int k2) (x:Operand) {k:IntKind} {n:Int} (ex:s.ev x=.int k n) :
  yh c w0 J s a ⟨dst,.convert T T2 x,ty,pos,after,g⟩ w (.int k2 (k2.wrap n)) []:=by
 obtain ⟨d1,i1,z1,h1⟩:=c.get (T:=T) rfl hT;obtain ⟨d2,i2,z2,h2⟩:=c.get iQ zd;have ie:=h2.k;rw [iQ] at ie;obtain rfl:=n4 ie;refine .rd h (v:=.int k2 (k2.wrap n)) ?_ (.int _ _) rfl;have hc:(convert T T2 (.int k n)).run c.P w=.ok (.int k2 (k2.wrap n)) w:=by
  unfold convert;simp [run_underlying h1.u,run_underlying h2.u,Conv.intToInt]
 simp [execOp,h.aN ex,hc]
theorem rQ (h:FR c.N w0 J s a w β) (op:BinOp) {T:TypeId} (x y:Operand) {m n:Bool} (hT:(c.ty T).k=.bool) (ex:s.ev x=.bool m) (ey:s.ev y=.bool n) (bu:op=.eql∨op=.neq) :
  yh c w0 J s a ⟨dst,.binOp op T x y T2,ty,pos,after,g⟩ w (.bool (if op=.eql then m == n else m != n)) []:=by
 obtain ⟨d,i,z,ht⟩:=c.get hT zd;have hd:=ht.k;rw [hT] at hd;obtain rfl:=VJ hd;exact .rd h (sA (P:=c.P) (w:=w) op x y ht.u (h.ch ex) (h.ch ey) bu dst ty pos after g) (.bool _) rfl
theorem rb (h:FR c.N w0 J s a w β) (T:TypeId) (x:Operand) (ex:s.ev x=.bool b):yh c w0 J s a ⟨dst,.unOp .not T x,ty,pos,after,g⟩ w (.bool (!b)) []:=
 .rd h (v:=.bool (!b)) (by simp [execOp,h.ch ex,Op.unary]) (.bool _) rfl
theorem ra (h:FR c.N w0 J s a w β) (T:TypeId) (x:Operand) {k:IntKind} {n:Int} (ex:s.ev x=.int k n):yh c w0 J s a ⟨dst,.unOp .neg T x,ty,pos,after,g⟩ w (.int k (k.wrap (-n))) []:=
 .rd h (v:=.int k (k.wrap (-n))) (by simp [execOp,h.aN ex,Op.unary,Op.intArith]) (.int _ _) rfl
theorem rW (h:FR c.N w0 J s a w β) (bi:Builtin) (T T2:TypeId) (x y:Operand) {k:IntKind} {n:Int} (ex:s.ev x=.int k m) (ey:s.ev y=.int k n) (dF:bi=.min∨bi=.max) :
  yh c w0 J s a ⟨dst,.call { callee:=.builtin bi,args:=#[x,y],argTypes:=#[T,T2] },ty,pos,after,g⟩ w (.int k (if bi=.min then (if n<m then n else m) else (if m<n then n else m))) []:=by
 rcases dF with rfl|rfl
 ·refine .rd h (v:=.int k (if n<m then n else m)) ?_ (.int _ _) rfl;simp [execOp,resolve,invoke,builtin,Builtin.min_,Builtin.min2,h.aN ex,h.aN ey]
 ·refine .rd h (v:=.int k (if m<n then n else m)) ?_ (.int _ _) rfl;simp [execOp,resolve,invoke,builtin,Builtin.max_,Builtin.max2,h.aN ex,h.aN ey]
theorem UO {T e:TypeId} (hT:(c.ty T).k=.slice e) (x:Operand) (ex:a.eval x=.slice A n cc) :
  (execOp a.eval ⟨dst,.call { callee:=.builtin .len,args:=#[x],argTypes:=#[T] },ty,pos,after,g⟩).run c.P w=.ok (.value (.int .i64 n)) w:=by
 obtain ⟨d,i,z,ht⟩:=c.get hT zd;have hd:=ht.k;rw [hT] at hd;obtain rfl:=zO hd;simp [execOp,resolve,invoke,builtin,Builtin.len_,ex,run_underlying ht.u,goInt]
theorem VD (h:FR c.N w0 J s a w β) {T e:TypeId} (hT:(c.ty T).k=.slice e) (x:Operand) {id aa o:Nat} (ex:s.ev x=.own id aa o n) (hl:s.live id aa) :
  yh c w0 J s a ⟨dst,.call { callee:=.builtin .len,args:=#[x],argTypes:=#[T] },ty,pos,after,g⟩ w (.int .i64 n) []:=by
 obtain ⟨A,cc,h1,_⟩:=(h.bc ex hl.1 hl.2).ex;exact .rd h (UO hT x h1) (.int _ _) rfl
theorem WU (h:FR c.N w0 J s a w β) {T e:TypeId} (hT:(c.ty T).k=.slice e) (x:Operand) {sz:Nat} {es:List (List FV)} (ex:s.ev x=.list sz es) :
  yh c w0 J s a ⟨dst,.call { callee:=.builtin .len,args:=#[x],argTypes:=#[T] },ty,pos,after,g⟩ w (.int .i64 es.length) []:=by
 have hr:=h.aP ex rfl;generalize hx:a.eval x=v at hr;cases hr with
 | list A n cc sz es us hn => subst hn; exact .rd h (UO hT x hx) (.int _ _) rfl
theorem VC (h:FR c.N w0 J s a w β) {T e:TypeId} (hT:(c.ty T).k=.slice e) (x:Operand) (ex:s.ev x=.nil) :
  yh c w0 J s a ⟨dst,.call { callee:=.builtin .len,args:=#[x],argTypes:=#[T] },ty,pos,after,g⟩ w (.int .i64 0) []:=
 .rd h (by have:=UO (c:=c) (w:=w) (dst:=dst) (ty:=ty) (pos:=pos) (after:=after) (g:=g) hT x (h.bX ex);simpa using this) (.int _ _) rfl
theorem FR.c7 (h:FR c.N w0 J s a w β) {sz o:Nat} {es:List (List FV)} (e:s.ev x=.aC sz es i o) :
  ∃ b off us,a.eval x=.pointer (some ⟨b,off+(i * sz+o),none⟩)∧aH J w β s b∧(∀ e∈es,e.length=sz)∧(∀ f∈es.flatten,f.one=true)∧(∀ (j:Nat) u,us[j]? = some u→w.cell? ⟨b,off+j,none⟩=some u)∧ax w (aH J w β s) us es.flatten:=by
 have hr:=h.aP e rfl;generalize a.eval x=v at hr;cases hr with
 | aC b off sz es i o us hI he ho hA hl hr => exact ⟨b, off, us, rfl, hI, he, ho, hA, hl, hr⟩
theorem Uf {T:Nat} (hT:(c.ty T).k=.ao fs) (hf:fs[i]? = some (off,ft)) (dr:(c.ty ft).k≠.other) (aA:(c.ty ft).size≠0) (x:Operand) {b o:Nat} (ex:a.eval x=.pointer (some ⟨b,o,none⟩)) :
  (execOp a.eval ⟨dst,.fieldAddr T x i,ty,pos,after,g⟩).run c.P w=.ok (.value (.pointer (some ⟨b,o+off,none⟩))) w:=by
 obtain ⟨d,ii,z,ht⟩:=c.get hT zd;have hd:=ht.k;rw [hT] at hd;obtain ⟨gs,rfl,fx,_⟩:=Zq hd;rw [fx,yZ] at hf;cases hg:gs.toList[i]? with
 | none => rw [hg] at hf; cases hf
 | some fl =>
  rw [hg] at hf;simp only [yQ,zB,zU] at hf;obtain ⟨rfl,rfl⟩:=hf;have lZ : gs[i]? = some fl:=by simpa using hg
  have hs:=yb (c:=c) dr w;simp [execOp,Instr.fieldAt,run_underlying ht.u,lZ,ex,Instr.sureAddr,fieldPlace,hs,aA,yi]
theorem We (h:FR c.N w0 J s a w β) {T:Nat} (hT:(c.ty T).k=.ao fs) (hf:fs[i]? = some (off,ft)) (dr:(c.ty ft).k≠.other) (aA:(c.ty ft).size≠0) (x:Operand)
  {id aa o:Nat} (ex:s.ev x=.ptr id aa j o) (hl:s.live id aa):yh c w0 J s a ⟨dst,.fieldAddr T x i,ty,pos,after,g⟩ w (.ptr id aa j (o+off)) []:=by
 obtain ⟨aB,b,hb,hv⟩:=h.bJ ex hl.1 hl.2;refine .pure h (Uf hT hf dr aA x hv) (fun _ _=>⟨aB,b,hb,by rw [Xb]⟩) (fun aQ bM e=>h.bY x (by rw [ex];exact e))
theorem Xx (h:FR c.N w0 J s a w β) {T:Nat} (hT:(c.ty T).k=.ao fs) (hf:fs[i]? = some (off,ft)) (dr:(c.ty ft).k≠.other) (aA:(c.ty ft).size≠0) (x:Operand)
  {sz o:Nat} {es:List (List FV)} (ex:s.ev x=.aC sz es j o):yh c w0 J s a ⟨dst,.fieldAddr T x i,ty,pos,after,g⟩ w (.aC sz es j (o+off)) []:=by
 obtain ⟨b,c5,us,hv,hI,he,ho,hA,hr⟩:=h.c7 ex;refine .rd h (Uf hT hf dr aA x hv) ?_ rfl;have:=Rd.aC (w:=w) (I:=aH J w β s) b c5 sz es j (o+off) us hI he ho hA hr.1 hr.2;rwa [show c5+(j * sz+(o+off))=c5+(j * sz+o)+off by omega] at this
theorem Ug {T e:Nat} (hT:(c.ty T).k=.slice e) (he:(c.ty e).k≠.other) (x y:Operand) {b o m:Nat} {k:IntKind} {n:Int} (ex:a.eval x=.slice (some ⟨b,o,none⟩) m cc) (ey:a.eval y=.int k n) (h0:0≤n) (h1:n<m) :
  (execOp a.eval ⟨dst,.indexAddr T x y,ty,pos,after,g⟩).run c.P w=.ok (.value (.pointer (some ⟨b,o+n.toNat * (c.ty e).size,none⟩))) w:=by
 obtain ⟨d,ii,z,ht⟩:=c.get hT zd;have hd:=ht.k;rw [hT] at hd;obtain rfl:=zO hd;have hs:=yb (c:=c) he w;simp [execOp,Instr.indexAt,run_underlying ht.u,ex,ey,asIntOf,hs,h0,h1,yi]
theorem Xz (h:FR c.N w0 J s a w β) {T e:Nat} (hT:(c.ty T).k=.slice e) (he:(c.ty e).k≠.other) (x y:Operand) {sz:Nat} {es:List (List FV)} {k:IntKind} (ex:s.ev x=.list sz es) (aA:(c.ty e).size=sz)
  (ey:s.ev y=.int k n) (h1:n<es.length):yh c w0 J s a ⟨dst,.indexAddr T x y,ty,pos,after,g⟩ w (.aC sz es n 0) []:=by
 have hr:=h.aP ex rfl;generalize hx:a.eval x=v at hr;cases hr with
 | list A m cc sz es us hn hc hw ho hA hl hr =>
  subst hn;obtain ⟨b,off,rfl,hI,aY⟩:=hA zc;refine .rd h (Ug hT he x y hx (h.aN ey) zc zc) ?_ rfl;have:=Rd.aC (w:=w) (I:=aH J w β s) b off sz es n 0 us hI hw ho aY hl hr;rw [aA];simpa using this
theorem Wf (h:FR c.N w0 J s a w β) {T e:Nat} (hT:(c.ty T).k=.slice e) (he:(c.ty e).k≠.other) (x y:Operand) {id aa o m:Nat} {k:IntKind} (ex:s.ev x=.own id aa o m) (hl:s.live id aa) (aA:(c.ty e).size=(s.ob id).sz)
  (ey:s.ev y=.int k n) (h1:n<m):yh c w0 J s a ⟨dst,.indexAddr T x y,ty,pos,after,g⟩ w (.ptr id aa (o+n) 0) []:=by
 have aB:=(h.bc ex hl.1 hl.2).row;obtain ⟨A,cc,e1,e2,e3,e4,e5⟩:=(h.bc ex hl.1 hl.2).ex;cases hb:β id with
 | none => have := (e4 hb).2; omega
 | some b =>
  obtain ⟨o',rfl,k2,k3⟩:=e5 b hb;have dt:=k2 (.inl zc);subst dt;refine .pure h (Ug hT he x y e1 (h.aN ey) zc zc) (fun _ _=>⟨aB,b,hb,?_⟩) (fun aQ bM e=>h.bY x (by rw [ex];exact e));rw [aA];simp [zF]
theorem Wx {T e:Nat} (hT:(c.ty T).k=.arr n e) (he:(c.ty e).k≠.other) (x y:Operand) {b o:Nat} {k:IntKind} {i:Int} (ex:a.eval x=.pointer (some ⟨b,o,none⟩)) (ey:a.eval y=.int k i) (h0:0≤i) (h1:i<n) :
  (execOp a.eval ⟨dst,.indexAddr T x y,ty,pos,after,g⟩).run c.P w=.ok (.value (.pointer (some ⟨b,o+i.toNat * (c.ty e).size,none⟩))) w:=by
 obtain ⟨d,ii,z,ht⟩:=c.get hT zd;have hd:=ht.k;rw [hT] at hd;obtain rfl:=Vd hd;have hs:=yb (c:=c) he w;simp [execOp,Instr.indexAt,run_underlying ht.u,ex,ey,asIntOf,hs,h0,h1,yi,Instr.sureAddr]
theorem Xy (h:FR c.N w0 J s a w β) {T m e:Nat} (hT:(c.ty T).k=.arr m e) (he:(c.ty e).k≠.other) (x y:Operand) {id aa o:Nat} {k:IntKind} (ex:s.ev x=.ptr id aa j o) (hl:s.live id aa)
  (ey:s.ev y=.int k n) (h1:n<m):yh c w0 J s a ⟨dst,.indexAddr T x y,ty,pos,after,g⟩ w (.ptr id aa j (o+n * (c.ty e).size)) []:=by
 obtain ⟨aB,b,hb,hv⟩:=h.bJ ex hl.1 hl.2;refine .pure h (Wx hT he x y hv (h.aN ey) zc zc) (fun _ _=>⟨aB,b,hb,by simp [Xb]⟩) (fun aQ bM e=>h.bY x (by rw [ex];exact e))
theorem YN (h:FR c.N w0 J s a w β) {T m e:Nat} (hT:(c.ty T).k=.arr m e) (he:(c.ty e).k≠.other) (x y:Operand) {sz o:Nat} {es:List (List FV)} {k:IntKind} (ex:s.ev x=.aC sz es j o)
  (ey:s.ev y=.int k n) (h1:n<m):yh c w0 J s a ⟨dst,.indexAddr T x y,ty,pos,after,g⟩ w (.aC sz es j (o+n * (c.ty e).size)) []:=by
 obtain ⟨b,c5,us,hv,hI,hw,ho,hA,hr⟩:=h.c7 ex;refine .rd h (Wx hT he x y hv (h.aN ey) zc zc) ?_ rfl;have:=Rd.aC (w:=w) (I:=aH J w β s) b c5 sz es j (o+n * (c.ty e).size) us hI hw ho hA hr.1 hr.2;simp only [Int.toNat_natCast];rwa [show c5+(j * sz+(o+n * (c.ty e).size))=c5+(j * sz+o)+n * (c.ty e).size by omega] at this
theorem xW {α:Type} {sz:Nat}:∀ (es:List (List α)),(∀ e∈es,e.length=sz)→∀ (i o:Nat),i<es.length→o≤sz→es.flatten.drop (i * sz+o)=(es.getD i []).drop o++(es.drop (i+1)).flatten
 | [], _, i, _, hi, _ => by simp at hi
 | e :: es, he, 0, o, _, ho => by
  have h1:=he e zd;simp only [ZX,zY,yr,ZR,List.drop_one,List.tail_cons];rw [List.drop_append,h1,Nat.sub_eq_zero_of_le ho,YR]
 | e :: es, he, i+1, o, hi, ho => by
  have h1:=he e zd;have ih:=xW es (fun x hx=>he x (by simp [hx])) i o (by simpa using hi) ho;rw [show (i+1) * sz+o=sz+(i * sz+o) by rw [zF];omega,yr,← List.drop_drop,← h1,List.drop_left,h1,ih];simp
theorem yD {sz:Nat} {es:List (List α)} (he:∀ e∈es,e.length=sz):es.flatten.length=es.length * sz:=by
 induction es with
 | nil => simp
 | cons e es ih => rw [yr, zT, ih (fun x hx => he x (by simp [hx])), he e zd, yK, zF]; omega
theorem Xg {sz:Nat} {es:List (List α)} (he:∀ e∈es,e.length=sz) (hi:i<es.length):(es.getD i []).length=sz:=by
 rw [yj,yY hi];exact he _ (zZ hi)
theorem xZ {ts:TS} {cs ds:List FV} (h:ts.size≤cs.length) (h1:cs≠[]):xu ts (cs++ds)=xu ts cs:=by
 unfold xu;split
 ·rw [YY h]
 ·cases cs with
  | nil => exact absurd rfl h1
  | cons x xs => rfl
theorem Wg (h:FR c.N w0 J s a w β) {T:Nat} (hk:(c.ty T).k.aM = some bb) (x:Operand) {sz o:Nat} {es:List (List FV)} (ex:s.ev x=.aC sz es j o) (hj:j<es.length) (ho:o+(c.ty T).size≤sz) (dt : o<sz) :
  yh c w0 J s a ⟨dst,.load T x,ty,pos,after,g⟩ w (xu (c.ty T) ((es.getD j []).drop o)) []:=by
 obtain ⟨b,c5,us,hv,hI,hw,bn,hA,hr⟩:=h.c7 ex;have hd:=hr.drop (j * sz+o);rw [xW es hw j o hj zc] at hd;have hlen:((es.getD j []).drop o).length=sz - o:=by rw [Zj,Xg hw hj]
 have g6:=hd.1;rw [zT,hlen] at g6;obtain ⟨v,r1,r2⟩:=ZH hk w b (c5+(j * sz+o)) (us.drop (j * sz+o)) zc (fun _=>by omega) (fun i u hu=>by
  rw [yJ] at hu;have:=hA _ u hu;rwa [show c5+(j * sz+o)+i=c5+(j * sz+o+i) by omega]) hd
 rw [xZ zc (fun e=>by rw [e] at hlen;simp at hlen;omega)] at r2;have jO:(xu (c.ty T) ((es.getD j []).drop o)).hand=none:=by
  unfold xu;split
  ·rfl
  ·have hm:((es.getD j []).drop o).headD .undef∈es.flatten:=by
    cases bh:(es.getD j []).drop o with
    | nil => rw [bh] at hlen; simp at hlen; omega
    | cons y ys =>
     have hy:y∈es.getD j []:=yw (i:=o) (by rw [bh];simp);rw [yj,yY hj] at hy;exact ym.2 ⟨es[j],zZ hj,hy⟩
   have:=bn _ hm;generalize ((es.getD j []).drop o).headD .undef=f at this;cases f <;> first|rfl|(simp [FV.one] at this)
 exact .rd h (by simp [execOp,Instr.loadAt,hv,Instr.sureAddr,r1]) r2 jO
theorem FR.block (h:FR c.N w0 J s a w β) {id:Nat} (hl:(s.ob id).ae≠.dead) (aW:(s.ob id).ae.row=true) {b:Nat} (hb:β id=some b) :
  ∃ cur cap,w.heap[b]? = some (.cells cur (s.ob id).E (0,0))∧(s.ob id).es.length≤cap∧cap≤maxLen∧cur.size=cap * (s.ob id).sz∧
   ax w (aH J w β s) (cur.toList.take ((s.ob id).es.length * (s.ob id).sz)) (s.ob id).es.flatten∧w.ownsRow w0.heap.size (s.ob id).E (s.ob id).sz (.slice (some ⟨b,0,none⟩) (s.ob id).es.length cap) (s.ob id).es.length (cur.toList.take ((s.ob id).es.length * (s.ob id).sz)):=by
 obtain ⟨v,us,r1,r2,r3⟩:=((h.obj id hl).bg aW).row;have qb:=r1;rcases r1.2 with ⟨rfl,_⟩|⟨g',cap,cur,rfl,_,dc,hn,hm,bh,jQ⟩
 ·rw [← r2] at hb;simp [Value.ownBlock] at hb
 ·have gY:g'=b:=by rw [← r2] at hb;simpa [Value.ownBlock] using hb
  subst gY;subst jQ;exact ⟨cur,cap,dc,hn,hm,bh,r3,qb⟩
theorem Yg (h:FR c.N w0 J s a w β) {T:Nat} (hk:(c.ty T).k.aM = some bb) (x:Operand) {id aa o:Nat} (ex:s.ev x=.ptr id aa j o) (hl:s.live id aa) (aW:(s.ob id).ae.row=true) (hj:j<(s.ob id).es.length) (ho:o+(c.ty T).size≤(s.ob id).sz) (dt : o<(s.ob id).sz) :
  yh c w0 J s a ⟨dst,.load T x,ty,pos,after,g⟩ w (xu (c.ty T) (((s.ob id).es.getD j []).drop o)) []:=by
 obtain ⟨_,b,hb,hv⟩:=h.bJ ex hl.1 hl.2;obtain ⟨cur,cap,aV,hn,hm,bh,hr,aB⟩:=h.block hl.1 aW hb;have hw:=((h.obj id hl.1).bg aW).wide;have bn:=((h.obj id hl.1).bg aW).one;generalize (s.ob id).es=es at hj hn hr aB hw bn ⊢;generalize (s.ob id).sz=sz at ho dt bh hr aB hw hv ⊢;have hd:=hr.drop (j * sz+o);rw [xW es hw j o hj zc] at hd;have hlen:((es.getD j []).drop o).length=sz - o:=by rw [Zj,Xg hw hj]
 have g6:=hd.1;rw [zT,hlen] at g6;obtain ⟨v,r1,r2⟩:=ZH hk w b (j * sz+o) ((cur.toList.take (es.length * sz)).drop (j * sz+o)) zc (fun _=>by omega) (fun i u hu=>by
  rw [yJ,yt] at hu;rw [cell_of_row w b _ cur (s.ob id).E (0,0) aV];split at hu
  ·simpa using hu
  ·cases hu) hd
 rw [xZ zc (fun e=>by rw [e] at hlen;simp at hlen;omega)] at r2;have jO:(xu (c.ty T) ((es.getD j []).drop o)).hand=none:=by
  unfold xu;split
  ·rfl
  ·have hm:((es.getD j []).drop o).headD .undef∈es.flatten:=by
    cases bh:(es.getD j []).drop o with
    | nil => rw [bh] at hlen; simp at hlen; omega
    | cons y ys =>
     have hy:y∈es.getD j []:=yw (i:=o) (by rw [bh];simp);rw [yj,yY hj] at hy;exact ym.2 ⟨es[j],zZ hj,hy⟩
   have:=bn _ hm;generalize ((es.getD j []).drop o).headD .undef=f at this;cases f <;> first|rfl|(simp [FV.one] at this)
 exact .rd h (by simp [execOp,Instr.loadAt,hv,Instr.sureAddr,r1]) r2 jO
end
def ag {α:Type} (cs:List α) (o:Nat) (ds:List α):List α:=cs.take o++ds++cs.drop (o+ds.length)
theorem yc {cs ds:List α} {o:Nat} (h:o+ds.length≤cs.length):(ag cs o ds).length=cs.length:=by
 unfold ag;simp;omega
theorem ax.ag {vs:List Value} {fs gs:List FV} (h:ax w I us fs) (k:ax w I vs gs) (o:Nat):ax w I (ag us o vs) (ag fs o gs):=by
 unfold YtedkppfghdipdaaDoor.ag;rw [k.1];exact ((h.take o).append k).append (h.drop _)
theorem Xu {α:Type} {sz:Nat}:∀ (es:List (List α)),(∀ e∈es,e.length=sz)→∀ (i o:Nat) (ds:List α),i<es.length→o+ds.length≤sz→
  (es.set i (ag (es.getD i []) o ds)).flatten=ag es.flatten (i * sz+o) ds
 | [], _, i, _, _, hi, _ => by simp at hi
 | e :: es, he, 0, o, ds, _, ho => by
  have h1:=he e zd;simp only [List.set_cons_zero,ZR,yr,ZX,zY];unfold ag;rw [YY zc,List.drop_append_of_le_length zc];simp [zw]
 | e :: es, he, i+1, o, ds, hi, ho => by
  have h1:=he e zd;have ih:=Xu es (fun x hx=>he x (by simp [hx])) i o ds (by simpa using hi) ho;simp only [List.set_cons_succ,List.getD_cons_succ,yr];rw [ih];unfold ag;have e1:(i+1) * sz+o=e.length+(i * sz+o):=by rw [zF,h1];omega
  rw [e1,UV,show e.length+(i * sz+o)+ds.length=e.length+(i * sz+o+ds.length) by omega,US];simp [zw]
theorem sF {sz:Nat} {es:List (List α)} (he:∀ e∈es,e.length=sz) {o:Nat} {ds:List α} (hi:i<es.length) (ho:o+ds.length≤sz):∀ e∈es.set i (ag (es.getD i []) o ds),e.length=sz:=by
 intro e hm;rcases YW hm with h|h
 ·exact he e h
 ·subst h;have:=Xg he hi;rw [yc zc,this]
theorem Yz {cs ds:List α} {o:Nat} {x:α} (h:x∈ag cs o ds):x∈cs∨x∈ds:=by
 unfold ag at h;simp only [yv] at h;rcases h with (h|h)|h
 ·exact .inl (yx h)
 ·exact .inr h
 ·exact .inl (yw h)
section
variable {c:Ctx} {w0 w:World} {J:JJ} {s:ab} {a:Act} {β:Nat→Option Nat} {dst:Option Nat} {ty:TypeId} {pos:String} {after:Array Edge} {g:Option (Nat×Bool)}
theorem yO (w:World) (g k:Nat) (cs:Array Value) (h:k≠g):(w.setRow g cs).heap[k]? = w.heap[k]?:=by
 simp only [World.setRow,Uq];rw [if_neg (fun e=>h e.symm)]
theorem yp (w:World) (g:Nat) (cs cur:Array Value) (E:TypeId) (h:w.heap[g]? = some (.cells cur E (0,0))):(w.setRow g cs).heap[g]? = some (.cells cs E (0,0)):=by
 simp [World.setRow,Uq,h]
theorem qj (h:FR c.N w0 J s a w β) {T:Nat} (hk:(c.ty T).k≠.other) (x y:Operand) {id aa o:Nat} (ex:s.ev x=.ptr id aa j o) (hl:(s.ob id).ae=.own) (hv:(s.ob id).aa=aa) {f:FV} (ey:s.ev y=f)
  (hf:f.cells.all FV.one=true) (bV:f.cells.length=(c.ty T).size) (hj:j<(s.ob id).es.length) (ho:o+(c.ty T).size≤(s.ob id).sz) :
  ∃ w',(execOp a.eval ⟨dst,.store T x y,ty,pos,after,g⟩).run c.P w=.ok .skip w'∧
   FR c.N w0 J (s.wr [(id,{ s.ob id with es:=(s.ob id).es.set j (ag ((s.ob id).es.getD j []) o f.cells) })]) a w' β:=by
 have ah:(s.ob id).ae≠.dead:=by rw [hl];decide
 have aW:(s.ob id).ae.row=true:=by rw [hl];rfl
 obtain ⟨_,b,hb,kH⟩:=h.bJ ex ah hv;obtain ⟨cur,cap,aV,hn,hm,bh,hr,aB⟩:=h.block ah aW hb;have hw:=((h.obj id ah).bg aW).wide;have bn:=((h.obj id ah).bg aW).one;have fh:=h.aP ey (Rd.eR hf);obtain ⟨eW,gM⟩:=fh.cells hf;generalize hy:a.eval y=v at eW gM;generalize jK:(s.ob id).es=es at hj hn hr aB hw bn ⊢;generalize aA:(s.ob id).sz=sz at ho bh hr aB hw kH ⊢;have pL:v.cells.toList.length=(c.ty T).size:=by rw [eW.1,bV]
 have hle:j * sz+sz≤es.length * sz:=by
  have:(j+1) * sz≤es.length * sz:=Nat.mul_le_mul_right sz zc;rw [zF] at this;omega
 have o8:es.length * sz≤cap * sz:=Nat.mul_le_mul_right sz hn;have bA:=run_storeCells_at c.P b (j * sz+o) (s.ob id).E v.cells.toList 0 cur w aV zc gM;simp only [xG] at bA;have cm:cur.toList.length=cap * sz:=by simpa using bh
 have pM:v.cells.toList.length=f.cells.length:=eW.1;have mC:(cur.toList.take (es.length * sz)).length=es.length * sz:=by rw [zW,cm];omega
 obtain ⟨W,hW⟩:∃ W,W=w.setRow b (ag cur.toList (j * sz+o) v.cells.toList).toArray:=⟨_,rfl⟩
 have fM:W.heap[b]? = some (.cells (ag cur.toList (j * sz+o) v.cells.toList).toArray (s.ob id).E (0,0)):=by rw [hW];exact yp w b _ cur _ aV
 have eN:w.grownBy W (β id):=by
  subst hW;refine ⟨rfl,rfl,rfl,by simp [World.setRow],fun k hk bK=>yO w b k _ (fun e=>bK (by rw [e,hb]))⟩
 have bO : W.ownsRow w0.heap.size (s.ob id).E sz (.slice (some ⟨b,0,none⟩) es.length cap) es.length (ag (cur.toList.take (es.length * sz)) (j * sz+o) v.cells.toList):=by
  refine ⟨?_,.inr ⟨b,cap,_,rfl,((h.obj id ah).lt hb).1,fM,hn,hm,?_,?_⟩⟩
  ·rw [yc zc,mC]
  ·simp only [ZT];rw [yc zc,cm]
  ·have key:∀ (L p:Nat) (cs ds:List Value),p+ds.length≤L→L≤cs.length→(ag cs p ds).take L=ag (cs.take L) p ds:=by
    intro L p cs ds h1 h2;unfold ag;rw [zw,zw,ZU,zW,xc zc,ZU,ZW,ZW,WN zc,xc zc,yn (by omega:ds.length≤L - p),List.drop_take];congr 3;omega
   exact key _ _ _ _ zc zc
 have gl : ∀ f'∈(es.set j (ag (es.getD j []) o f.cells)).flatten,f'.one=true:=by
  intro f' cx;obtain ⟨e,he,ij⟩:=ym.1 cx;rcases YW he with h'|h'
  ·exact bn f' (ym.2 ⟨e,h',ij⟩)
  ·subst h';rcases Yz ij with h'|h'
   ·rw [yj,yY hj] at h';exact bn f' (ym.2 ⟨_,zZ hj,h'⟩)
   ·exact zC.1 hf f' h'
 refine ⟨W,?_,?_⟩
 ·have hs:=yb (c:=c) hk w;have mz : v.cells.size=(c.ty T).size:=by simpa using pL
  have ji : (storeCells ⟨b,j * sz+o,none⟩ v.cells.toList).run c.P w=.ok () W:=by rw [hW];exact bA
  simp [execOp,Instr.storeAt,storeVar,kH,hy,Instr.sureAddr,hs,mz,ji]
 ·refine h.write id (es:=es.set j (ag (es.getD j []) o f.cells)) (v:=.slice (some ⟨b,0,none⟩) es.length cap) (xs:=ag (cur.toList.take (es.length * sz)) (j * sz+o) v.cells.toList) hl eN ?_ gl ?_ hb.symm ?_ ?_ ?_ (fun k=>?_) (fun k=>rfl)
  ·rw [aA];exact sF hw hj zc
  ·rw [aA,Zk];exact bO
  ·rw [Xu es hw j o f.cells hj zc];exact hr.ag eW _
  ·rw [jK,Zk]
  ·intro b' lB lC bD h1 h2;rw [hb] at bD;injection bD with bD
   subst bD;rw [aV] at h1;injection h1 with h1
   injection h1 with h1 _ _
   subst h1;rw [fM] at h2;injection h2 with h2
   injection h2 with h2 _ _
   rw [← h2];simp only [ZT];rw [yc zc,cm,bh]
  ·exact ab.aj s id _ k
end
theorem Wa.dY {E sz:Nat} {ob:zS} (h:w.ownsRow base E sz v n xs) (hn:ob.es.length=n) (hE:ob.E=E) (hs:ob.sz=sz) (aW:ob.ae.br=true):Wa w v.ownBlock ob v 0 n:=by
 rcases h.2 with ⟨rfl,rfl⟩|⟨g,cap,cur,rfl,_,dc,h1,h2,h3,_⟩
 ·exact ⟨aW,none,0,rfl,zi _,by omega,fun _=>⟨rfl,rfl⟩,fun b hb=>by simp [Value.ownBlock] at hb⟩
 ·refine ⟨aW,some ⟨g,0,none⟩,cap,rfl,h1,by omega,fun hb=>by simp [Value.ownBlock] at hb,fun b hb=>?_⟩;obtain rfl:g=b:=by simpa [Value.ownBlock] using hb
  refine ⟨0,rfl,fun _=>by simp,fun dM hc=>?_⟩;rw [hE,dc] at hc;injection hc with hc
  injection hc with hc _ _
  rw [← hc,hs];simpa using h3
section
variable {c:Ctx} {w0 w:World} {J:JJ} {s:ab} {a:Act} {β:Nat→Option Nat} {ty:TypeId} {pos:String} {after:Array Edge} {g:Option (Nat×Bool)}
theorem Uv (w:World) (o:Obj):Below w.heap.size w (w.alloc o):=(Yw _ _).alloc (zi _) o
theorem FR.newRow (h:FR c.N w0 J s a w β) (d E sz:Nat) (es:List (List FV)) (cur:Array Value) (hw:∀ e∈es,e.length=sz) (ho:∀ f∈es.flatten,f.one=true) (hr:ax w (aH J w β s) cur.toList es.flatten) (hm:es.length≤maxLen) :
  FR c.N w0 J (s.set d ⟨(s.ob d).aa+1,.own,E,sz,es⟩) a (w.alloc (.cells cur E)) (YC β d (some w.heap.size))∧
   (w.alloc (.cells cur E)).ownsRow w0.heap.size E sz (.slice (some ⟨w.heap.size,0,none⟩) es.length es.length) es.length cur.toList:=by
 have hlen:cur.size=es.length * sz:=by have:=hr.1;rw [yD hw] at this;simpa using this
 have aB:(w.alloc (.cells cur E)).ownsRow w0.heap.size E sz (.slice (some ⟨w.heap.size,0,none⟩) es.length es.length) es.length cur.toList:=
  ⟨by simpa using hlen,.inr ⟨w.heap.size,es.length,cur,rfl,h.bF.size,heap_alloc_new w _,zi _,hm,hlen,by rw [yn (by simp [hlen])]⟩⟩
 refine ⟨h.make none d (v:=.slice (some ⟨w.heap.size,0,none⟩) es.length es.length) (fun k e=>by cases e) (World.grownBy_alloc w _ _) hw ho aB hr (.inr (.inr ⟨_,rfl,zi _⟩)) (fun k=>?_) (fun k=>rfl),aB⟩;rw [ab.aj];split
 ·rfl
 ·simp
theorem yB (β:Nat→Option Nat) (j:Nat) (x:Option Nat):YC β j x j=x:=by simp [YC]
theorem XA (h:FR c.N w0 J s a w β) {o:Oper} (d E:Nat) (f:FV) (cur:Array Value) (hf:f.cells.all FV.one=true) (hr:ax w (aH J w β s) cur.toList f.cells)
  (bf:(execOp a.eval o).run c.P w=.ok (.value (.pointer (some ⟨w.heap.size,0,none⟩))) (w.alloc (.cells cur E))) :
  yh c w0 J s a o w (.ptr d ((s.ob d).aa+1) 0 0) [(d,⟨(s.ob d).aa+1,.own,E,f.cells.length,[f.cells]⟩)]:=by
 obtain ⟨h1,_⟩:=h.newRow d E f.cells.length [f.cells] cur zd (by simpa using hf) (by simpa using hr) (by simp [maxLen]);refine ⟨_,_,_,bf,h1,fun _ _=>⟨by rw [show (s.wr [(d,(⟨(s.ob d).aa+1,.own,E,f.cells.length,[f.cells]⟩:zS))]).ob d=⟨(s.ob d).aa+1,.own,E,f.cells.length,[f.cells]⟩ from (ab.aj s d _ d).trans (if_pos rfl)];rfl,w.heap.size,yB _ _ _,by simp⟩,fun id aa e=>?_⟩;simp only [FV.hands,zX,zU] at e;obtain ⟨e1,e2⟩:=e;replace e1:=e1.symm;replace e2:=e2.symm;subst e1;subst e2;show _≤(ab.ob (ab.set s d _) d).aa;rw [ab.aj,if_pos rfl];exact zi _
theorem qT (h:FR c.N w0 J s a w β) (d:Nat) {T:Nat} (hk:(c.ty T).k≠.other) (hz:(c.ty T).zero.all FV.one=true) :
  yh c w0 J s a ⟨some d,.alloc T,ty,pos,after,g⟩ w (.ptr d ((s.ob d).aa+1) 0 0) [(d,⟨(s.ob d).aa+1,.own,T,(c.ty T).zero.length,[(c.ty T).zero]⟩)]:=by
 obtain ⟨z,h1,h2,h3⟩:=xO hk w;refine XA h d T (.agg (c.ty T).zero) z.cells hz (ax.zeros h2) ?_;simp [execOp,Instr.alloc,h1,newVar,newRow]
theorem q9 (h:FR c.N w0 J s a w β) (d:Nat) {T:Nat} (x:Operand) {f:FV} (ex:s.ev x=f) (hf:f.cells.all FV.one=true) :
  yh c w0 J s a ⟨some d,.box T x,ty,pos,after,g⟩ w (.ptr d ((s.ob d).aa+1) 0 0) [(d,⟨(s.ob d).aa+1,.own,T,f.cells.length,[f.cells]⟩)]:=by
 obtain ⟨h1,h2⟩:=(h.aP ex (Rd.eR hf)).cells hf;refine XA h d T f (a.eval x).cells hf h1 ?_;simp [execOp,Instr.box,newVar,newRow]
def xo (place:Nat→Option (Nat×Nat)):List FV→List (Nat×FV)→Option (List FV)
 | cs, [] => some cs
 | cs, (i, f) :: rest =>
  match place i with
  | none => none
  | some (off, size) => if f.cells.all FV.one=true ∧ f.cells.length=size ∧ off+size ≤ cs.length then xo place (ag cs off f.cells) rest else none
theorem Vx:∀ (vs:List Value) (k off:Nat) (A:Array Value),off+k+vs.length≤A.size→(List.foldl (fun (cs:Array Value) (p:Value×Nat)=>cs.setIfInBounds (off+p.2) p.1) A (vs.zipIdx k)).toList=ag A.toList (off+k) vs
 | [], k, off, A, _ => by simp [ag]
 | v :: vs, k, off, A, h => by
  have h' : off+k<A.size:=by simp at h;omega
  rw [List.zipIdx_cons,List.foldl_cons,Vx vs (k+1) off _ (by simp at h ⊢;omega)];unfold ag;simp only [Array.toList_setIfInBounds,yK];rw [show off+(k+1)=off+k+1 by omega,ZV (by simpa using h'),List.take_set,List.getElem_set_self,List.set_eq_of_length_le yd,List.drop_set_of_lt zc];simp [Zm,Nat.add_left_comm]
theorem UX {w:World} {I:Nat→Prop} (place:Nat→Option (Nat×Nat)):∀ (ps:List (Nat×FV)) (vs:List (Nat×Value)) (A:Array Value) (cs cQ : List FV),ax w I A.toList cs→vs.length=ps.length→
  (∀ (j:Nat) v p,vs[j]? = some v→ps[j]? = some p→v.1=p.1∧Rd w I v.2 p.2)→xo place cs ps=some cQ→∃ A',Instr.fill place A vs=some A'∧ax w I A'.toList cQ
 | [], [], A, cs, cQ, hA, _, _, h => by
  simp only [xo,zB] at h;subst h;exact ⟨A,rfl,hA⟩
 | [], _ :: _, _, _, _, _, hl, _, _ => by simp at hl
 | _ :: _, [], _, _, _, _, hl, _, _ => by simp at hl
 | (i,f)::ps,(i',v)::vs,A,cs,cQ,hA,hl,hp,h=>by
  obtain ⟨e1,e2⟩:=hp 0 _ _ rfl rfl;dsimp only at e1 e2;subst e1;unfold xo at h;cases gq:place i' with
  | none => rw [gq] at h; cases h
  | some q=>
   obtain ⟨off,size⟩:=q;rw [gq] at h;dsimp only at h;split at h
   ·rename_i hc;obtain ⟨c1,c2,c3⟩:=hc;obtain ⟨k1,k2⟩:=e2.cells c1;have pO:v.cells.size=size:=by have:=k1.1;rw [c2] at this;simpa using this
    have eJ:A.size=cs.length:=by have:=hA.1;simpa using this
    have hz:A.size=A.toList.length:=by simp
    have kj:(v.cells.zipIdx.foldl (fun cs (c,j)=>cs.setIfInBounds (off+j) c) A).toList=ag A.toList off v.cells.toList:=by
     have:=Vx v.cells.toList 0 off A yd;rw [← Array.foldl_toList];simpa using this
    obtain ⟨A',r1,r2⟩:=UX place ps vs _ _ _ (by rw [kj];exact hA.ag k1 off) (by simpa using hl) (fun j v p hv hq=>hp (j+1) v p hv hq) h;refine ⟨A',?_,r2⟩;unfold Instr.fill;simp only [gq];rw [if_neg (by simp [pO];omega)];exact r1
   ·cases h
def ab.parts (s:ab) (ps:Array (Nat×Operand)):List (Nat×FV):=ps.toList.map fun p=>(p.1,s.ev p.2)
theorem FR.parts (h:FR c.N w0 J s a w β) (ps:Array (Nat×Operand)) {place:Nat→Option (Nat×Nat)} {cs cQ : List FV} {A:Array Value} (hA:ax w (aH J w β s) A.toList cs) (hf:xo place cs (s.parts ps)=some cQ) :
  ∃ A',Instr.fill place A (ps.map fun (i,x)=>(i,a.eval x)).toList=some A'∧ax w (aH J w β s) A'.toList cQ:=by
 have bn:∀ (l:List (Nat×FV)) (cs cQ : List FV),xo place cs l=some cQ→∀ p∈l,p.2.hand=none:=by
  intro l
  induction l with
  | nil => intro _ _ _ p hp; simp at hp
  | cons q l ih=>
   intro cs cQ hq p hp;obtain ⟨i,f⟩:=q;unfold xo at hq;cases gq:place i with
   | none => rw [gq] at hq; cases hq
   | some z=>
    rw [gq] at hq;dsimp only at hq;split at hq
    ·rename_i hc;rcases zM.1 hp with e|e
     ·subst e;exact Rd.eR hc.1
     ·exact ih _ _ hq p e
    ·cases hq
 refine UX place (s.parts ps) _ A cs cQ hA (by simp [ab.parts]) (fun j v p hv hp=>?_) hf;have po:=zN hp;simp only [ab.parts,yZ,Option.map_eq_some_iff] at hp;obtain ⟨q,hq,rfl⟩:=hp;have eZ : (ps.toList.map fun p=>(p.1,a.eval p.2))[j]? = some v:=by simpa using hv
 simp only [yZ,hq,yQ,zB] at eZ;subst eZ;exact ⟨rfl,h.aP rfl (bn _ _ _ hf _ po)⟩
theorem qV (h:FR c.N w0 J s a w β) {T:Nat} (hT:(c.ty T).k=.ao fs) (fx:∀ p∈fs,(c.ty p.2).k≠.other) (ps:Array (Nat×Operand)) {cs:List FV}
  (hf:xo (fun i=>(fs[i]?).map fun p=>(p.1,(c.ty p.2).size)) (c.ty T).zero (s.parts ps)=some cs):yh c w0 J s a ⟨dst,.build T ps,ty,pos,after,g⟩ w (.agg cs) []:=by
 obtain ⟨d,i,z,ht⟩:=c.get hT zd;have hd:=ht.k;rw [hT] at hd;obtain ⟨gs,rfl,nF,_⟩:=Zq hd;obtain ⟨A',h1,h2⟩:=h.parts ps (A:=z.cells) (ax.zeros ht.zr) hf;have hp:gs.toList.mapM (fun f=>(c.P.info? f.type).map fun i=>(f.offset,i.size))=some (gs.toList.map fun f=>(f.offset,(c.ty f.type).size)):=by
  have key:∀ (l:List Field),(∀ f∈l,(c.ty f.type).k≠.other)→l.mapM (fun f=>(c.P.info? f.type).map fun i=>(f.offset,i.size))=some (l.map fun f=>(f.offset,(c.ty f.type).size)):=by
   intro l
   induction l with
   | nil => intro _; rfl
   | cons f l ih =>
    intro hl;obtain ⟨d',i',z',bH⟩:=c.get rfl (hl f zd);simp only [List.mapM_cons,bH.info,yQ,Option.bind_eq_bind,xT,ih (fun f hf=>hl f (by simp [hf])),Option.pure_def,bH.size,ya]
  refine key _ (fun f hf=>fx (f.offset,f.type) ?_);rw [nF];exact zK.2 ⟨f,hf,rfl⟩
 have hb:c.P.built T (ps.map fun (i,x)=>(i,a.eval x)).toList=some A':=by
  unfold Program.built;simp only [ht.info,ht.u,ht.zo,hp];rw [← h1];congr 1;funext i;rw [nF];simp [Function.comp_def]
 refine .rd h (v:=.agg A') (by simp only [execOp,yR,run_build w T _ A' hb,xy,yS]) ?_ rfl;have:=Rd.agg (w:=w) (I:=aH J w β s) A'.toList cs h2.1 h2.2;simpa using this
theorem UA (h:FR c.N w0 J s a w β) {T e:Nat} (hT:(c.ty T).k=.arr n e) (he:(c.ty e).k≠.other) (ps:Array (Nat×Operand)) {cs:List FV}
  (hf:xo (fun i=>some (i * (c.ty e).size,(c.ty e).size)) (c.ty T).zero (s.parts ps)=some cs):yh c w0 J s a ⟨dst,.build T ps,ty,pos,after,g⟩ w (.agg cs) []:=by
 obtain ⟨d,i,z,ht⟩:=c.get hT zd;have hd:=ht.k;rw [hT] at hd;obtain rfl:=Vd hd;obtain ⟨A',h1,h2⟩:=h.parts ps (A:=z.cells) (ax.zeros ht.zr) hf;obtain ⟨d',i',z',bH⟩:=c.get rfl he;have hb:c.P.built T (ps.map fun (i,x)=>(i,a.eval x)).toList=some A':=by
  unfold Program.built;simp only [ht.info,ht.u,ht.zo,bH.info,bH.size];exact h1
 refine .rd h (v:=.agg A') (by simp only [execOp,yR,run_build w T _ A' hb,xy,yS]) ?_ rfl;have:=Rd.agg (w:=w) (I:=aH J w β s) A'.toList cs h2.1 h2.2;simpa using this
theorem ax.gH {w:World} (us:List Value):ax w I us (List.replicate us.length .undef):=by
 refine ⟨by simp,fun j u f hu hf=>?_⟩;rw [List.getElem?_replicate] at hf;split at hf
 ·injection hf with hf;subst hf;exact .undef u
 ·cases hf
theorem Yh (h:FR c.N w0 J s a w β) {o:Oper} (d E sz:Nat) (es:List (List FV)) (cur:Array Value) (hw:∀ e∈es,e.length=sz) (ho:∀ f∈es.flatten,f.one=true) (hr:ax w (aH J w β s) cur.toList es.flatten) (hm:es.length≤maxLen)
  (bf:(execOp a.eval o).run c.P w=.ok (.value (.slice (some ⟨w.heap.size,0,none⟩) es.length es.length)) (w.alloc (.cells cur E))) :
  yh c w0 J s a o w (.own d ((s.ob d).aa+1) 0 es.length) [(d,⟨(s.ob d).aa+1,.own,E,sz,es⟩)]:=by
 obtain ⟨h1,h2⟩:=h.newRow d E sz es cur hw ho hr hm;refine ⟨_,_,_,bf,h1,fun _ _=>?_,fun id aa e=>?_⟩
 ·show Wa _ (YC β d (some w.heap.size) d) (ab.ob (ab.set s d _) d) _ _ _;rw [yB,ab.aj,if_pos rfl];exact Wa.dY h2 rfl rfl rfl rfl
 ·simp only [FV.hands,zX,zU] at e;obtain ⟨e1,e2⟩:=e;replace e1:=e1.symm;replace e2:=e2.symm;subst e1;subst e2;show _≤(ab.ob (ab.set s d _) d).aa;rw [ab.aj,if_pos rfl];exact zi _
theorem Xw (h:FR c.N w0 J s a w β) (d:Nat) {T e:Nat} (hT:(c.ty T).k=.slice e) (he:(c.ty e).k≠.other) (ps:Array (Nat×Operand)) (es:List (List FV)) (hn:es.length=n) (hw:∀ x∈es,x.length=(c.ty e).size) (ho:∀ f∈es.flatten,f.one=true)
  (cA:n * (c.ty e).size≤16777216) (gj:n≤16777216)
  (hf:xo (fun i=>some (i * (c.ty e).size,(c.ty e).size)) (List.replicate (n * (c.ty e).size) .undef) (s.parts ps)=some es.flatten) :
  yh c w0 J s a ⟨some d,.buildSlice T n ps,ty,pos,after,g⟩ w (.own d ((s.ob d).aa+1) 0 n) [(d,⟨(s.ob d).aa+1,.own,e,(c.ty e).size,es⟩)]:=by
 obtain ⟨dd,i,z,ht⟩:=c.get hT zd;have hd:=ht.k;rw [hT] at hd;obtain rfl:=zO hd;have hs:=yb (c:=c) he w;obtain ⟨zz,hz,_,_⟩:=xO he w;obtain ⟨A0,c9⟩:∃ A0:Array Value,(if n * (c.ty e).size=0 then (Array.range (n * (c.ty e).size)).map (fun x=>(#[]:Array Value)[x % (#[]:Array Value).size]!) else (Array.range (n * (c.ty e).size)).map (fun x=>zz.cells[x % zz.cells.size]!))=A0:=⟨_,rfl⟩
 have aA:A0.size=n * (c.ty e).size:=by rw [← c9];split <;> simp
 have hu:=ax.gH (w:=w) (I:=aH J w β s) A0.toList;rw [WL,aA] at hu;obtain ⟨A',h1,h2⟩:=h.parts ps hu hf;subst hn;refine Yh h d e (c.ty e).size es A' hw ho h2 (by unfold maxLen;omega) ?_;have fQ : ¬ (16777216<es.length * (c.ty e).size):=by omega
 by_cases h0:es.length * (c.ty e).size=0
 ·rw [if_pos h0] at c9;simp [execOp,Instr.buildSlice,run_underlying ht.u,hs,h0,newRow] at c9 h1 ⊢;rw [c9,h1];simp
 ·rw [if_neg h0] at c9;simp [execOp,Instr.buildSlice,run_underlying ht.u,hs,fQ,h0,hz,newRow,c9] at h1 ⊢;rw [h1];simp
theorem Wh (h:FR c.N w0 J s a w β) {o:Oper} (E sz:Nat) (es:List (List FV)) (cur:Array Value) (hw:∀ e∈es,e.length=sz) (ho:∀ f∈es.flatten,f.one=true) (hr:ax w (aH J w β s) cur.toList es.flatten)
  (bf:(execOp a.eval o).run c.P w=.ok (.value (.slice (some ⟨w.heap.size,0,none⟩) es.length es.length)) (w.alloc (.cells cur E))):yh c w0 J s a o w (.list sz es) []:=by
 have hb:Below w.heap.size w (w.alloc (.cells cur E)):=(Yw _ _).alloc (zi _) _;have hG:=h.grow hb;refine ⟨_,_,β,bf,hG,?_,fun _ _ e=>(FV.aS rfl e).elim⟩;refine VR.a9 (Rd.list (some ⟨w.heap.size,0,none⟩) es.length es.length sz es cur.toList rfl (zi _) hw ho (fun _=>⟨w.heap.size,0,rfl,⟨?_,h.fresh _ h.bF.size (.inl (zi _)),fun id hl e=>?_⟩,fun j u hu=>?_⟩) hr.1 (fun j u f hu hf=>(hr.2 j u f hu hf).mono fun b aG=>aG.grow hb)) rfl
 ·show w.heap.size<(w.heap.push _).size;simp
 ·have:=((h.obj id (yV.aX hl)).lt e).2;omega
 ·have aV:(w.alloc (.cells cur E)).heap[w.heap.size]? = some (.cells cur E (0,0)):=by show (w.heap.push _)[w.heap.size]? = _;simp
  rw [cell_of_row _ w.heap.size _ cur E (0,0) aV];simpa using hu
theorem YM (h:FR c.N w0 J s a w β) (d:Nat) {T e:Nat} (hT:(c.ty T).k=.slice e) (he:(c.ty e).k≠.other) (ps:Array (Nat×Operand)) (es:List (List FV)) (hn:es.length=n) (hw:∀ x∈es,x.length=(c.ty e).size) (ho:∀ f∈es.flatten,f.one=true)
  (cA:n * (c.ty e).size≤16777216) (gj:n≤16777216)
  (hf:xo (fun i=>some (i * (c.ty e).size,(c.ty e).size)) (List.replicate (n * (c.ty e).size) .undef) (s.parts ps)=some es.flatten) :
  yh c w0 J s a ⟨some d,.buildSlice T n ps,ty,pos,after,g⟩ w (.list (c.ty e).size es) []:=by
 obtain ⟨dd,i,z,ht⟩:=c.get hT zd;have hd:=ht.k;rw [hT] at hd;obtain rfl:=zO hd;have hs:=yb (c:=c) he w;obtain ⟨zz,hz,_,_⟩:=xO he w;obtain ⟨A0,c9⟩:∃ A0:Array Value,(if n * (c.ty e).size=0 then (Array.range (n * (c.ty e).size)).map (fun x=>(#[]:Array Value)[x % (#[]:Array Value).size]!) else (Array.range (n * (c.ty e).size)).map (fun x=>zz.cells[x % zz.cells.size]!))=A0:=⟨_,rfl⟩
 have aA:A0.size=n * (c.ty e).size:=by rw [← c9];split <;> simp
 have hu:=ax.gH (w:=w) (I:=aH J w β s) A0.toList;rw [WL,aA] at hu;obtain ⟨A',h1,h2⟩:=h.parts ps hu hf;subst hn;refine Wh h e (c.ty e).size es A' hw ho h2 ?_;have fQ : ¬ (16777216<es.length * (c.ty e).size):=by omega
 by_cases h0:es.length * (c.ty e).size=0
 ·rw [if_pos h0] at c9;simp [execOp,Instr.buildSlice,run_underlying ht.u,hs,h0,newRow] at c9 h1 ⊢;rw [c9,h1];simp
 ·rw [if_neg h0] at c9;simp [execOp,Instr.buildSlice,run_underlying ht.u,hs,fQ,h0,hz,newRow,c9] at h1 ⊢;rw [h1];simp
theorem xA {α:Type} {sz:Nat}:∀ (es:List (List α)),(∀ e∈es,e.length=sz)→∀ k,(es.take k).flatten=es.flatten.take (k * sz)
 | [], _, k => by simp
 | e :: es, he, 0 => by simp
 | e :: es, he, k+1 => by
  have h1:=he e zd;rw [List.take_succ_cons,yr,yr,xA es (fun x hx=>he x (by simp [hx])) k,zF,Xe,Zm,← h1,UV]
theorem xf {α:Type} {sz:Nat}:∀ (es:List (List α)),(∀ e∈es,e.length=sz)→∀ k,(es.drop k).flatten=es.flatten.drop (k * sz)
 | [], _, k => by simp
 | e :: es, he, 0 => by simp
 | e :: es, he, k+1 => by
  have h1:=he e zd;rw [List.drop_succ_cons,yr,xf es (fun x hx=>he x (by simp [hx])) k,zF,Xe,Zm,← h1,US]
theorem Zv (h:FR c.N w0 J s a w β) (d:Nat) {T e:Nat} (hT:(c.ty T).k=.slice e) (he:(c.ty e).k≠.other) (x y:Operand) {k1:IntKind} (ex:s.ev x=.int k1 n) (ey:s.ev y=.int k2 n) (ho:(c.ty e).zero.all FV.one=true)
  (hb:(c.ty e).bytes * n≤281474976710656) (hn:n≤281474976710656) :
  yh c w0 J s a ⟨some d,.makeSlice T x y,ty,pos,after,g⟩ w (.own d ((s.ob d).aa+1) 0 n) [(d,⟨(s.ob d).aa+1,.own,e,(c.ty e).size,List.replicate n (c.ty e).zero⟩)]:=by
 obtain ⟨dd,i,z,ht⟩:=c.get hT zd;have hd:=ht.k;rw [hT] at hd;obtain rfl:=zO hd;obtain ⟨d',i',z',bH⟩:=c.get rfl he;have dF:(i'.bytes:Int) * (n:Int)≤281474976710656:=by
  have:((i'.bytes * n:Nat):Int)≤281474976710656:=by rw [bH.bytes];omega
  rwa [Int.natCast_mul] at this
 have hr:=run_make (P:=c.P) w T e i' z' ht.u bH.info bH.zo k1 k2 n n zc (Int.le_refl _) dF zc;simp only [Int.toNat_natCast] at hr;have nV:=(ax.zeros (w:=w) (I:=aH J w β s) bH.zr)
 have pW:z'.cells.size=(c.ty e).size:=by have:=nV.1;rw [bH.zl] at this;simpa using this
 have hlen:(List.replicate n (c.ty e).zero).length=n:=by simp
 have hg:=Yh h (o:=⟨some d,.makeSlice T x y,ty,pos,after,g⟩) d e (c.ty e).size (List.replicate n (c.ty e).zero) (madeCells z'.cells (n * i'.size)) (fun x hx=>by rw [YS hx,bH.zl]) (fun f hf=>by
   obtain ⟨q,hq,kl⟩:=ym.1 hf;rw [YS hq] at kl;exact zC.1 ho f kl) ⟨?_,?_⟩ (by rw [hlen];unfold maxLen;omega) (by
    rw [hlen];simp only [execOp,h.aN ex,h.aN ey,yR,hr,xy,yS])
 ·rwa [hlen] at hg
 ·rw [yD (sz:=(c.ty e).size) (fun x hx=>by rw [YS hx,bH.zl]),hlen];simp [madeCells,bH.size]
 ·intro j u f hu hf;rw [bH.size] at hu;have hj:j<n * (c.ty e).size:=by
   have:=(zP.1 hu).1;simpa [madeCells] using this
  have nR:0<(c.ty e).size:=by
   rcases WM (c.ty e).size with h0|h0
   ·rw [h0] at hj;simp at hj
   ·exact h0
  have mm:=Nat.mod_lt j nR;have pH : z'.cells.toList[j % (c.ty e).size]? = some u:=by
   have e1:(madeCells z'.cells (n * (c.ty e).size)).toList[j]? = some (z'.cells[j % z'.cells.size]!):=by
    simp [madeCells,hj]
   rw [e1] at hu;injection hu with hu
   rw [pW] at hu;rw [← hu];have aK:j % (c.ty e).size<z'.cells.size:=by omega
   simp [aK]
  have cx : (c.ty e).zero[j % (c.ty e).size]? = some f:=by
   have key:∀ (m q r:Nat),r<(c.ty e).size→q<m→(List.replicate m (c.ty e).zero).flatten[q * (c.ty e).size+r]? = (c.ty e).zero[r]?:=by
    intro m q r hr hq;have hw:∀ x∈List.replicate m (c.ty e).zero,x.length=(c.ty e).size:=fun x hx=>by rw [YS hx,bH.zl]
    have:=xW _ hw q r (by simpa using hq) zc;have h2:((List.replicate m (c.ty e).zero).flatten.drop (q * (c.ty e).size+r))[0]? = (c.ty e).zero[r]?:=by
     rw [this,yj,List.getElem?_replicate,if_pos hq,ZM,Zi (by rw [Zj,bH.zl];omega),yJ,xG]
    rwa [yJ,xG] at h2
   have fR:=Nat.div_add_mod j (c.ty e).size;rw [Nat.mul_comm] at fR;rw [← key n (j / (c.ty e).size) (j % (c.ty e).size) mm (by rw [Nat.div_lt_iff_lt_mul nR];exact hj),fR];exact hf
  exact nV.2 _ u f pH cx
def oF (a:Act):Option Operand→Nat→Prop
 | none, l => l=0
 | some y, l => ∃ k, a.eval y=.int k (l:Nat)
def oE (a:Act):Option Operand→Nat→Nat→Prop
 | none, m, u => u=m
 | some y, _, u => ∃ k, a.eval y=.int k (u:Nat)
theorem XR {T e:Nat} (hT:(c.ty T).k=.slice e) (he:(c.ty e).k≠.other) (x:Operand) (lo hi:Option Operand) {m u:Nat} (ex:a.eval x=.slice A m cc)
  (cK:oF a lo l) (cd:oE a hi m u) (h1:l≤u) (h2:u≤cc) :
  (execOp a.eval ⟨dst,.slice T x lo hi none,ty,pos,after,g⟩).run c.P w=.ok (.value (.slice (if cc=l then A else A.map (·.add (l * (c.ty e).size))) (u - l) (cc - l))) w:=by
 obtain ⟨dd,i,z,ht⟩:=c.get hT zd;have hd:=ht.k;rw [hT] at hd;obtain rfl:=zO hd;have hs:=yb (c:=c) he w;cases lo with
 | none=>
  change l=0 at cK;subst cK;cases hi with
  | none =>
   change u=m at cd;subst cd;simp [execOp,Instr.sliceAt,Instr.slice,Instr.sliceBounds,run_underlying ht.u,ex,hs]
  | some y =>
   obtain ⟨k,hk⟩:=cd;simp [execOp,Instr.sliceAt,Instr.slice,Instr.sliceBounds,Instr.sliceBound,asIntOf,run_underlying ht.u,ex,hs,hk,h2]
 | some z=>
  obtain ⟨k',gO⟩:=cK;cases hi with
  | none =>
   change u=m at cd;subst cd;simp [execOp,Instr.sliceAt,Instr.slice,Instr.sliceBounds,Instr.sliceBound,asIntOf,run_underlying ht.u,ex,hs,gO,h1]
  | some y =>
   obtain ⟨k,hk⟩:=cd;simp [execOp,Instr.sliceAt,Instr.slice,Instr.sliceBounds,Instr.sliceBound,asIntOf,run_underlying ht.u,ex,hs,hk,gO,h1,h2]
end
section
variable {c:Ctx} {w0 w:World} {J:JJ} {s:ab} {a:Act} {β:Nat→Option Nat} {dst:Option Nat} {ty:TypeId} {pos:String} {after:Array Edge} {g:Option (Nat×Bool)}
def ab.lo (s:ab):Option Operand→Nat→Prop
 | none, l => l=0
 | some y, l => ∃ k, s.ev y=.int k (l:Nat)
def ab.hi (s:ab):Option Operand→Nat→Nat→Prop
 | none, m, u => u=m
 | some y, _, u => ∃ k, s.ev y=.int k (u:Nat)
theorem FR.lo (h:FR c.N w0 J s a w β) {lo:Option Operand} (hl:s.lo lo l):oF a lo l:=by
 cases lo with
 | none => exact hl
 | some y => obtain ⟨k, hk⟩ := hl; exact ⟨k, h.aN hk⟩
theorem FR.hi (h:FR c.N w0 J s a w β) {hi:Option Operand} {m u:Nat} (hl:s.hi hi m u):oE a hi m u:=by
 cases hi with
 | none => exact hl
 | some y => obtain ⟨k, hk⟩ := hl; exact ⟨k, h.aN hk⟩
theorem Wj (h:FR c.N w0 J s a w β) {T e:Nat} (hT:(c.ty T).k=.slice e) (he:(c.ty e).k≠.other) (x:Operand) (lo hi:Option Operand) {id aa o m u:Nat} (ex:s.ev x=.own id aa o m) (hl:s.live id aa) (aA:(c.ty e).size=(s.ob id).sz)
  (cK:s.lo lo l) (cd:s.hi hi m u) (h1:l≤u) (h2:u≤m):yh c w0 J s a ⟨dst,.slice T x lo hi none,ty,pos,after,g⟩ w (.own id aa (o+l) (u - l)) []:=by
 have aW:=(h.bc ex hl.1 hl.2).row;obtain ⟨A,cc,e1,e2,e3,e4,e5⟩:=(h.bc ex hl.1 hl.2).ex;have hr:=XR (c:=c) (w:=w) (dst:=dst) (ty:=ty) (pos:=pos) (after:=after) (g:=g) hT he x lo hi e1 (h.lo cK) (h.hi cd) h1 zc;refine .pure h hr (fun _ _=>⟨aW,_,_,rfl,by omega,by omega,fun hb=>?_,fun b hb=>?_⟩) (fun aQ bM e=>h.bY x (by rw [ex];exact e))
 ·obtain ⟨rfl,rfl⟩:=e4 hb;obtain rfl:l=0:=by omega
  simp
 ·obtain ⟨o',rfl,k2,k3⟩:=e5 b hb;by_cases cm:cc=l
  ·rw [if_pos cm];refine ⟨o',rfl,fun mq=>?_,fun cur hc=>?_⟩
   ·rcases mq with mq|mq
    ·omega
    ·have:o=0:=by omega
     have o6:l=0:=by omega
     rw [k2 (.inr this),this,o6]
   ·rw [k3 cur hc];congr 1;omega
  ·rw [if_neg cm];have:=k2 (.inl zc);subst this;refine ⟨(o+l) * (s.ob id).sz,by rw [aA];simp [yi,zF],fun _=>rfl,fun cur hc=>?_⟩;rw [k3 cur hc];congr 1;omega
theorem XB (h:FR c.N w0 J s a w β) {T e:Nat} (hT:(c.ty T).k=.slice e) (he:(c.ty e).k≠.other) (x:Operand) (lo hi:Option Operand) {sz u:Nat} {es:List (List FV)} (ex:s.ev x=.list sz es) (aA:(c.ty e).size=sz)
  (cK:s.lo lo l) (cd:s.hi hi es.length u) (h1:l≤u) (h2:u≤es.length):yh c w0 J s a ⟨dst,.slice T x lo hi none,ty,pos,after,g⟩ w (.list sz ((es.drop l).take (u - l))) []:=by
 have hr:=h.aP ex rfl;generalize hx:a.eval x=v at hr;cases hr with
 | list A m cc sz es us hn hc hw ho hA hl iw=>
  subst hn;have bf:=XR (c:=c) (w:=w) (dst:=dst) (ty:=ty) (pos:=pos) (after:=after) (g:=g) hT he x lo hi hx (h.lo cK) (h.hi cd) h1 zc;have gR:∀ e∈es.drop l,e.length=sz:=fun e he=>hw e (yw he);have bV:((es.drop l).take (u - l)).flatten=(es.flatten.drop (l * sz)).take ((u - l) * sz):=by rw [xA _ gR,xf _ hw]
  have hR:ax w (aH J w β s) ((us.drop (l * sz)).take ((u - l) * sz)) ((es.drop l).take (u - l)).flatten:=by
   rw [bV];exact (ax.drop ⟨hl,iw⟩ _).take _
  refine .rd h bf (.list _ _ _ sz _ ((us.drop (l * sz)).take ((u - l) * sz)) yd zc (fun e he=>gR e (yx he)) (fun f hf=>?_) (fun h0=>?_) hR.1 hR.2) rfl
  ·rw [bV] at hf;exact ho f (yw (yx hf))
  ·obtain ⟨b,off,rfl,hI,aY⟩:=hA zc;rw [if_neg zc];refine ⟨b,off+l * sz,by rw [aA];simp [yi],hI,fun j u' hu=>?_⟩;rw [yt] at hu;split at hu
   ·rw [yJ] at hu;have:=aY _ u' hu;rwa [show off+(l * sz+j)=off+l * sz+j by omega] at this
   ·cases hu
theorem Wi (h:FR c.N w0 J s a w β) {T e:Nat} (hT:(c.ty T).k=.slice e) (he:(c.ty e).k≠.other) (x:Operand) (lo hi:Option Operand) (ex:s.ev x=.nil)
  (cK:s.lo lo 0) (cd:s.hi hi 0 0):yh c w0 J s a ⟨dst,.slice T x lo hi none,ty,pos,after,g⟩ w .nil []:=by
 have bf:=XR (c:=c) (w:=w) (dst:=dst) (ty:=ty) (pos:=pos) (after:=after) (g:=g) hT he x lo hi (h.bX ex) (h.lo cK) (h.hi cd) (zi _) (zi _);exact .rd h bf (by simpa using Rd.nil) rfl
theorem VB (h:FR c.N w0 J s a w β) (x:Operand) {fs:List FV} {f:FV} (ex:s.ev x=.bw fs) (hf:fs[i]? = some f) (hn:f.hand=none):yh c w0 J s a ⟨dst,.extract x i,ty,pos,after,g⟩ w f []:=by
 have hr:=h.aP ex rfl;generalize hx:a.eval x=v at hr;cases hr with
 | bw us fs hl hr =>
  have hi:i<us.length:=by rw [hl];exact (zP.1 hf).1
  have hu:us[i]? = some us[i]:=by simp [hi]
  exact .rd h (v:=us[i]) (by simp [execOp,Instr.extract,hx,hu]) (hr i _ f hu hf) hn
theorem Yy (h:FR c.N w0 J s a w β) (x:Operand) {id aa o:Nat} (ex:s.ev x=.ptr id aa i o) (hl:s.live id aa):yh c w0 J s a ⟨dst,.nilCheck x,ty,pos,after,g⟩ w (.ptr id aa i o) []:=by
 obtain ⟨_,b,hb,hv⟩:=h.bJ ex hl.1 hl.2;refine .pure h (v:=a.eval x) (by simp [execOp,hv]) ?_ (fun aQ bM e=>h.bY x (by rw [ex];exact e));have:=h.ev x;rwa [ex] at this
theorem Yi (h:FR c.N w0 J s a w β) (x:Operand) {sz o:Nat} {es:List (List FV)} (ex:s.ev x=.aC sz es i o):yh c w0 J s a ⟨dst,.nilCheck x,ty,pos,after,g⟩ w (.aC sz es i o) []:=by
 obtain ⟨b,off,us,hv,_⟩:=h.c7 ex;refine .rd h (v:=a.eval x) (by simp [execOp,hv]) (h.aP ex rfl) rfl
inductive Src (s:ab):FV→Nat→List (List FV)→Prop where
 | nil (sz:Nat):Src s .nil sz []
 | list (sz:Nat) (es:List (List FV)):Src s (.list sz es) sz es
 | own (id aa o n:Nat) (hl:s.live id aa) (aW:(s.ob id).ae.row=true):Src s (.own id aa o n) (s.ob id).sz (((s.ob id).es.drop o).take n)
theorem FR.src (h:FR c.N w0 J s a w β) {f:FV} {sz:Nat} {es:List (List FV)} (ex:s.ev x=f) (hs:Src s f sz es):(∀ e∈es,e.length=sz)∧(∀ f∈es.flatten,f.one=true)∧
  ∃ A cc us,a.eval x=.slice A es.length cc∧es.length≤cc∧ax w (aH J w β s) us es.flatten∧(A=none→us=[]∧es=[])∧(∀ ad,A=some ad→∀ (j:Nat) u,us[j]? = some u→w.cell? (ad.add j)=some u):=by
 cases hs with
 | nil sz => exact ⟨by simp, by simp, none, 0, [], h.bX ex, zi _, ax.nil, fun _ => ⟨rfl, rfl⟩, fun _ e => by cases e⟩
 | list sz es=>
  have hr:=h.aP ex rfl;generalize hx:a.eval x=v at hr;cases hr with
  | list A m cc sz es us hn hc hw ho hA hl iw=>
   subst hn;refine ⟨hw,ho,A,cc,us,rfl,hc,⟨hl,iw⟩,fun c9=>?_,fun ad j9 j u hu=>?_⟩
   ·have:es.length=0:=by
     rcases WM es.length with h0|h0
     ·exact h0
     ·obtain ⟨b,off,e,_⟩:=hA zc;rw [c9] at e;cases e
    have:es=[]:=Zg this;subst this;exact ⟨by simpa using hl,rfl⟩
   ·have h0:es.length≠0:=fun h0=>by
     have:es=[]:=Zg h0;subst this;have:us=[]:=by simpa using hl
     subst this;simp at hu
    obtain ⟨b,off,e,_,aY⟩:=hA h0;rw [j9] at e;injection e with e
    subst e;rw [yi];exact aY j u hu
 | own id aa o n hl aW=>
  obtain ⟨A,cc,e1,e2,e3,e4,e5⟩:=(h.bc ex hl.1 hl.2).ex;have hw:=((h.obj id hl.1).bg aW).wide;have bn:=((h.obj id hl.1).bg aW).one;have gR:∀ e∈(s.ob id).es.drop o,e.length=(s.ob id).sz:=fun e he=>hw e (yw he);have hlen:(((s.ob id).es.drop o).take n).length=n:=by simp;omega
  have bV:(((s.ob id).es.drop o).take n).flatten=((s.ob id).es.flatten.drop (o * (s.ob id).sz)).take (n * (s.ob id).sz):=by rw [xA _ gR,xf _ hw]
  refine ⟨fun e he=>gR e (yx he),fun f hf=>by rw [bV] at hf;exact bn f (yw (yx hf)),?_⟩;cases hb:β id with
  | none =>
   obtain ⟨rfl,rfl⟩:=e4 hb;obtain rfl:n=0:=by omega
   exact ⟨none,0,[],by simpa using e1,by simp,by simpa using ax.nil,fun _=>⟨rfl,by simp⟩,fun _ e=>by cases e⟩
  | some b=>
   obtain ⟨o',rfl,k2,k3⟩:=e5 b hb;obtain ⟨cur,cap,aV,hn,hm,bh,hr,aB⟩:=h.block hl.1 aW hb;refine ⟨_,cc,((cur.toList.take ((s.ob id).es.length * (s.ob id).sz)).drop (o * (s.ob id).sz)).take (n * (s.ob id).sz),by rw [hlen];exact e1,by omega,by rw [bV];exact (hr.drop _).take _,(fun e=>by cases e),fun ad j9 j u hu=>?_⟩;injection j9 with j9
   subst j9;rw [yi,cell_of_row w b _ cur _ (0,0) aV];rw [yt] at hu;split at hu
   ·rename_i hj;have jN:n≠0:=by rintro rfl;simp at hj
    have:=k2 (.inl zc);subst this;rw [yJ,yt] at hu;split at hu
    ·simpa using hu
    ·cases hu
   ·cases hu
inductive fE (s:ab):FV→Nat→List (List FV)→Option Nat→Prop where
 | nil (sz:Nat):fE s .nil sz [] none
 | own (id aa:Nat) (hl:(s.ob id).ae=.own) (hv:(s.ob id).aa=aa) (n:Nat) (hn:n=(s.ob id).es.length):fE s (.own id aa 0 n) (s.ob id).sz (s.ob id).es (some id)
def xE (s:ab) (d:Nat) (E sz:Nat) (es:List (List FV)):Option Nat→List (Nat×zS)
 | none => [(d, ⟨(s.ob d).aa+1, .own, E, sz, es⟩)]
 | some i => [(i, { s.ob i with ae := .dead }), (d, ⟨(s.ob d).aa+1, .own, E, sz, es⟩)]
theorem Xm (P:Program) (t ty:TypeId) (v:Value) (cc:Nat) (w:World):(Builtin.append_ #[t,t] ty #[v,.slice none 0 cc]).run P w=(Builtin.append_ #[t,t] ty #[v,.slice none 0 0]).run P w:=rfl
theorem Xv (h:FR c.N w0 J s a w β) (d:Nat) {T e:Nat} (hT:(c.ty T).k=.slice e) (he:(c.ty e).k≠.other) (aZ:0<(c.ty e).size) (x y:Operand) {f1 f2:FV} {bo av:List (List FV)} {i:Option Nat} (ex:s.ev x=f1) (ey:s.ev y=f2)
  (h1:fE s f1 (c.ty e).size bo i) (hE:∀ k,i=some k→(s.ob k).E=e) (h2:Src s f2 (c.ty e).size av) (hb:(bo.length+av.length) * (c.ty e).bytes≤140737488355328) (hm:bo.length+av.length≤140737488355328) :
  yh c w0 J s a ⟨some d,.call { callee:=.builtin .append,args:=#[x,y],argTypes:=#[T,T] },ty,pos,after,g⟩ w (.own d ((s.ob d).aa+1) 0 (bo++av).length) (xE s d e (c.ty e).size (bo++av) i):=by
 obtain ⟨dd,ii,z,ht⟩:=c.get hT zd;have hd:=ht.k;rw [hT] at hd;obtain rfl:=zO hd;obtain ⟨d',i',z',bH⟩:=c.get rfl he;have lg:z'.cells.size=(c.ty e).size:=by
  have:=(ax.zeros (w:=w) (I:=aH J w β s) bH.zr).1;rw [bH.zl] at this;simpa using this
 obtain ⟨gy,g4,A2,c2,ct,hy,gM,gu,lJ,bZ⟩:=h.src ey h2;obtain ⟨v1,ef,pK,gw,pz,gQ,jP,ic⟩:∃ v1 ef,a.eval x=v1∧w.ownsRow w0.heap.size e (c.ty e).size v1 bo.length ef∧ax w (aH J w β s) ef bo.flatten∧(∀ q∈bo,q.length=(c.ty e).size)∧(∀ f∈bo.flatten,f.one=true)∧v1.ownBlock=i.bind β:=by
  generalize aA:(c.ty e).size=sz at h1 ⊢;cases h1 with
  | nil sz => exact ⟨_, [], h.bX ex, ZN _ _ _ _, ax.nil, by simp, by simp, rfl⟩
  | own id aa hl hv n hn=>
   have ah:(s.ob id).ae≠.dead:=by rw [hl];decide
   have nx:=hE id rfl;obtain ⟨A,cc,e1,e2,e3,e4,e5⟩:=(h.bc ex ah hv).ex;have aW:(s.ob id).ae.row=true:=by rw [hl];rfl
   obtain ⟨v,us,r1,r2,r3⟩:=((h.obj id ah).bg aW).row;have hw:=((h.obj id ah).bg aW).wide;have bn:=((h.obj id ah).bg aW).one;rw [nx] at r1;refine ⟨v,us,?_,r1,r3,hw,bn,r2⟩;rw [e1];rcases r1.2 with ⟨rfl,h0⟩|⟨b,cap,cur,rfl,_,dc,_,_,bh,_⟩
   ·have eV:β id=none:=by rw [← r2];rfl
    obtain ⟨rfl,rfl⟩:=e4 eV;rw [hn,h0]
   ·have eV:β id=some b:=by rw [← r2];rfl
    obtain ⟨o',rfl,k2,k3⟩:=e5 b eV;have:=k3 cur (by rw [nx];exact dc);rw [bh,zY] at this;have lT:cap=cc:=Xc (by rw [aA] at aZ;exact aZ) this;rw [k2 (.inr rfl),lT,hn];simp
 have o7:∀ k,i=some k→(s.ob k).ae=.own:=by
  intro k hk;generalize (c.ty e).size=sz at h1;cases h1 with
  | nil => cases hk
  | own id aa hl hv n hn => injection hk with hk; subst hk; exact hl
 have gb:ct.length=av.length * (c.ty e).size:=by rw [gu.1,yD gy]
 have lI:∀ u∈ct,u.oneCell'=true:=by
  intro u hu;obtain ⟨j,hj,rfl⟩:=yl hu;have ew:j<av.flatten.length:=by rw [← gu.1];exact hj
  exact (gu.2 j _ av.flatten[j] (by simp [hj]) zd).dh (g4 _ (zZ ew))
 obtain ⟨v',w',bf,bO,km,mb⟩:∃ v' w',(Builtin.append_ #[T,T] ty #[v1,.slice A2 av.length c2]).run c.P w=.ok v' w'∧w'.ownsRow w0.heap.size e (c.ty e).size v' (bo.length+av.length) (ef++ct)∧w.grownBy w' v1.ownBlock∧
   (v'.ownBlock=v1.ownBlock∨v'.ownBlock=some w.heap.size):=by
  cases hA:A2 with
  | none =>
   obtain ⟨rfl,rfl⟩:=lJ hA;rw [WI,Xm];refine ⟨v1,w,run_append_owned_none (P:=c.P) (w:=w) w0.heap.size T ty e i' (c.ty e).size ht.u bH.info v1 bo.length ef gw,by simpa using gw,⟨rfl,rfl,rfl,zi _,fun _ _ _=>rfl⟩,.inl rfl⟩
  | some ad =>
   obtain ⟨v',w',q1,q2,q3,_,q5⟩:=run_append_own_at (P:=c.P) w w0.heap.size T ty e i' z' (c.ty e).size (c.ty e).bytes ht.u bH.info bH.zo bH.size bH.bytes lg aZ v1 bo.length ef gw ad av.length c2 ct gb (bZ ad hA) lI (by unfold maxLen;omega) hb h.bF.size;exact ⟨v',w',q1,q2,q3,q5⟩
 have eu:(execOp a.eval ⟨some d,.call { callee:=.builtin .append,args:=#[x,y],argTypes:=#[T,T] },ty,pos,after,g⟩).run c.P w=.ok (.value v') w':=by
  simp [execOp,resolve,invoke,builtin,pK,hy,bf]
 rw [← zT] at bO;have j8:FR c.N w0 J (s.wr (xE s d e (c.ty e).size (bo++av) i)) a w' (YC β d v'.ownBlock):=by
  refine h.make i d (es:=bo++av) (fun k hk=>by rw [o7 k hk];rfl) (by rw [← ic];exact km) ?_ ?_ bO ?_ ?_ (fun k=>?_) (fun k=>ab.bS _ _ _)
  ·intro q hq;rcases yv.1 hq with h'|h'
   ·exact gQ q h'
   ·exact gy q h'
  ·intro f hf;rw [xq] at hf;rcases yv.1 hf with h'|h'
   ·exact jP f h'
   ·exact g4 f h'
  ·rw [xq];exact pz.append gu
  ·rw [← ic];rcases mb with e|e
   ·exact .inl e
   ·exact .inr (.inr ⟨_,e,zi _⟩)
  ·cases i with
   | none =>
    show (ab.set s d _).ob k=_;rw [ab.aj];split
    ·rfl
    ·simp
   | some i=>
    show (ab.set (ab.set s i _) d _).ob k=_;rw [ab.aj,ab.aj];by_cases eG:d=k
    ·rw [if_pos eG,if_pos eG]
    ·rw [if_neg eG,if_neg eG];by_cases fX:i=k
     ·subst fX;simp
     ·rw [if_neg fX,if_neg (by simpa using fX)]
 have cu:(s.wr (xE s d e (c.ty e).size (bo++av) i)).ob d=⟨(s.ob d).aa+1,.own,e,(c.ty e).size,bo++av⟩:=by
  cases i with
  | none => show (ab.set s d _).ob d=_; rw [ab.aj, if_pos rfl]
  | some i => show (ab.set (ab.set s i _) d _).ob d=_; rw [ab.aj, if_pos rfl]
 refine ⟨v',w',_,eu,j8,fun _ _=>?_,fun id aa e=>?_⟩
 ·rw [cu,yB];exact Wa.dY bO rfl rfl rfl rfl
 ·simp only [FV.hands,zX,zU] at e;obtain ⟨e1,e2⟩:=e;replace e1:=e1.symm;replace e2:=e2.symm;subst e1;subst e2;rw [cu];exact zi _
theorem VA (h:FR c.N w0 J s a w β) (d:Nat) {T e:Nat} (hT:(c.ty T).k=.slice e) (he:(c.ty e).k≠.other) (aZ:0<(c.ty e).size) (x y:Operand) {f1 f2:FV} {bo av:List (List FV)} {i:Option Nat} (ex:s.ev x=f1) (ey:s.ev y=f2)
  (h1:fE s f1 (c.ty e).size bo i) (hE:∀ k,i=some k→(s.ob k).E=e) (h2:Src s f2 (c.ty e).size av) (hb:(bo.length+av.length) * (c.ty e).bytes≤140737488355328) (hm:bo.length+av.length≤140737488355328) :
  yh c w0 J s a ⟨some d,.call { callee:=.builtin .append,args:=#[x,y],argTypes:=#[T,T] },ty,pos,after,g⟩ w (.list (c.ty e).size (bo++av)) (xE s d e (c.ty e).size (bo++av) i++[(d,⟨(s.ob d).aa+1,.dead,e,(c.ty e).size,bo++av⟩)]):=by
 obtain ⟨v,w',aJ,bf,hF,hV,_⟩:=Xv (ty:=ty) (pos:=pos) (after:=after) (g:=g) h d hT he aZ x y ex ey h1 hE h2 hb hm;have cu:(s.wr (xE s d e (c.ty e).size (bo++av) i)).ob d=⟨(s.ob d).aa+1,.own,e,(c.ty e).size,bo++av⟩:=by
  cases i with
  | none => show (ab.set s d _).ob d=_; rw [ab.aj, if_pos rfl]
  | some i => show (ab.set (ab.set s i _) d _).ob d=_; rw [ab.aj, if_pos rfl]
 have pQ:s.wr (xE s d e (c.ty e).size (bo++av) i++[(d,⟨(s.ob d).aa+1,.dead,e,(c.ty e).size,bo++av⟩)])=(s.wr (xE s d e (c.ty e).size (bo++av) i)).set d ⟨(s.ob d).aa+1,.dead,e,(c.ty e).size,bo++av⟩:=by
  unfold ab.wr;rw [List.foldl_append];rfl
 unfold yh;rw [pQ];generalize s.wr (xE s d e (c.ty e).size (bo++av) i)=s1 at hF hV cu ⊢;have hl:(s1.ob d).ae≠.dead:=by rw [cu];exact fun q=>by cases q
 have aW:(s1.ob d).ae.row=true:=by rw [cu];rfl
 obtain ⟨A,cc,e1,e2,e3,e4,e5⟩:=(hV hl (by rw [cu])).ex;have lL:FR c.N w0 J (s1.set d ⟨(s.ob d).aa+1,.dead,e,(c.ty e).size,bo++av⟩) a w' aJ:=
  hF.gz d .dead (fun q=>by cases q) (fun _=>rfl) (fun q=>absurd rfl q) (fun k=>by rw [ab.aj,cu]) (fun _=>rfl) (fun q=>absurd rfl q)
 have hI:∀ b,aH J w' aJ s1 b→aH J w' aJ (s1.set d ⟨(s.ob d).aa+1,.dead,e,(c.ty e).size,bo++av⟩) b∧w'.heap[b]? = w'.heap[b]?:=fun b aG=>by
  refine ⟨⟨aG.1,aG.2.1,fun id hq=>?_⟩,rfl⟩;rw [ab.aj] at hq;split at hq
  ·cases hq
  ·exact aG.2.2 id hq
 have hw:=((hF.obj d hl).bg aW).wide;have bn:=((hF.obj d hl).bg aW).one;rw [cu] at hw bn;refine ⟨v,w',aJ,bf,lL,?_,fun _ _ q=>(FV.aS rfl q).elim⟩;refine VR.a9 ?_ rfl;rw [e1];cases iU:aJ d with
 | none =>
  obtain ⟨rfl,rfl⟩:=e4 iU;have jN:(bo++av).length=0:=by omega
  have gi:bo++av=[]:=Zg jN;exact Rd.list none _ 0 _ _ [] rfl zc hw bn (fun q=>absurd jN q) (by rw [gi];rfl) (fun j u f hu=>by simp at hu)
 | some b=>
  obtain ⟨cur,cap,aV,hn,gZ,bh,hr,aB⟩:=hF.block hl aW iU;obtain ⟨o',rfl,k2,k3⟩:=e5 b iU;have dt : o'=0:=by have:=k2 (.inr rfl);rw [ZX] at this;exact this
  subst dt;rw [cu] at aV bh hr aB hn;have hlen:(bo++av).flatten.length=(bo++av).length * (c.ty e).size:=yD hw;refine Rd.list (some ⟨b,0,none⟩) _ cc _ _ (cur.toList.take ((bo++av).length * (c.ty e).size)) rfl e2 hw bn (fun _=>⟨b,0,rfl,⟨?_,?_,fun id hq pw=>?_⟩,fun j u hu=>?_⟩) hr.1 (fun j u f hu hf=>(hr.2 j u f hu hf).mono hI)
  ·exact ((hF.obj d hl).lt iU).2
  ·exact hF.fresh b ((hF.obj d hl).lt iU).1 (.inr ⟨d,hl,iU⟩)
  ·rw [ab.aj] at hq;split at hq
   ·cases hq
   ·rename_i bK;exact bK (hF.inj d id b hl (yV.aX hq) iU pw)
  ·rw [cell_of_row w' b _ cur _ (0,0) aV];rw [yt] at hu;split at hu
   ·simpa using hu
   ·cases hu
end
end Go.Proofs.YtedkppfghdipdaaDoor
