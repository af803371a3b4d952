/-
  Lemmas, in parts.
-/
import Derived.WalkKit
import Derived.WalkLawsBesides
import Derived.WalkSpells
import Derived.BigQuiet
import Derived.Deep.QuietTactic
import Derived.Handy
import Derived.Lib.Hide
import Derived.Maps.AppendAt
import Derived.StillTailTactics
import Derived.Deep.Draws
import Derived.Laws.OwnMore
import Derived.Maps.OwnSet
import Derived.Laws.MakeOwn
namespace Go.Proofs.YtedkppfghdipdaaGreatDoor
set_option linter.unusedVariables false
set_option maxHeartbeats 16000000
open Go.RowKit
abbrev YQ:=@Array.ext'
abbrev YR:=@Array.getD_eq_getD_getElem?
abbrev yy:=@Array.getElem?_eq_some_iff
abbrev UL:=@Array.getElem?_modify
abbrev rU:=@Array.getElem?_push
abbrev rV:=@Array.getElem?_replicate
abbrev u4:=@Array.getElem?_setIfInBounds_ne
abbrev UR:=@Array.length_toList
abbrev rW:=@Array.toList_push
abbrev zQ:=@Below.refl
abbrev Xf:=@Below.trod
abbrev zA:=@Bool.and_eq_true
abbrev UH:=@Bool.eq_iff_iff
abbrev ZF:=@Bool.false_eq_true
abbrev xw:=@Bool.false_or
abbrev Wr:=@Bool.not_eq_true'
abbrev ZG:=@Bool.or_eq_true
abbrev Ws:=@Bool.or_true
abbrev UI:=@DataW.trod_int
abbrev Xi:=@DataW.trod_lt
abbrev UJ:=@Int.emod_lt_of_pos
abbrev UK:=@Int.emod_nonneg
abbrev Ys:=@Int.toNat_natCast
abbrev Yt:=@Int.toNat_of_nonneg
abbrev zg:=@Lib.hid
abbrev Xj:=@List.all_cons
abbrev zI:=@List.all_eq_true
abbrev Wt:=@List.any_append
abbrev yY:=@List.any_eq_true
abbrev zE:=@List.append_assoc
abbrev Yu:=@List.append_nil
abbrev UM:=@List.contains_eq_mem
abbrev uO:=@List.drop_length_add_append
abbrev Wu:=@List.drop_zero
abbrev ZH:=@List.eq_nil_of_length_eq_zero
abbrev Wv:=@List.eq_of_mem_replicate
abbrev Yv:=@List.filterMap_cons
abbrev xO:=@List.flatMap_cons
abbrev Zi:=@List.flatten_append
abbrev yM:=@List.flatten_cons
abbrev Xk:=@List.getD_cons_zero
abbrev yC:=@List.getD_eq_getElem?_getD
abbrev Yw:=@List.getElem?_append_left
abbrev Xl:=@List.getElem?_append_right
abbrev xx:=@List.getElem?_drop
abbrev xP:=@List.getElem?_eq_getElem
abbrev ye:=@List.getElem?_eq_some_iff
abbrev xy:=@List.getElem?_map
abbrev UN:=@List.getElem?_of_mem
abbrev yD:=@List.getElem?_take
abbrev yw:=@List.getElem_mem
abbrev yr:=@List.getElem_of_mem
abbrev zH:=@List.length_append
abbrev yZ:=@List.length_cons
abbrev Yx:=@List.length_drop
abbrev UO:=@List.length_eq_one_iff
abbrev zU:=@List.length_map
abbrev Ww:=@List.length_nil
abbrev Yy:=@List.length_replicate
abbrev Zj:=@List.length_set
abbrev UP:=@List.length_singleton
abbrev yf:=@List.length_take
abbrev Yz:=@List.map_append
abbrev Wx:=@List.map_congr_left
abbrev yn:=@List.map_cons
abbrev zO:=@List.mem_append
abbrev zZ:=@List.mem_cons
abbrev Wy:=@List.mem_cons_of_mem
abbrev UQ:=@List.mem_filter
abbrev ZI:=@List.mem_filterMap
abbrev yE:=@List.mem_flatten
abbrev zL:=@List.mem_map
abbrev ya:=@List.mem_of_getElem?
abbrev xa:=@List.mem_of_mem_drop
abbrev yN:=@List.mem_of_mem_take
abbrev Xm:=@List.mem_or_eq_of_mem_set
abbrev zP:=@List.mem_singleton
abbrev Wz:=@List.nil_append
abbrev US:=@List.nodup_cons
abbrev WA:=@List.pairwise_iff_getElem
abbrev uP:=@List.replicate_append_replicate
abbrev uQ:=@List.set_eq_take_append_cons_drop
abbrev ZJ:=@List.set_set
abbrev Xn:=@List.size_toArray
abbrev Xo:=@List.take_append
abbrev WC:=@List.take_append_of_le_length
abbrev ZK:=@List.take_length
abbrev uR:=@List.take_length_add_append
abbrev yO:=@List.take_of_length_le
abbrev ZL:=@List.take_succ_eq_append_getElem
abbrev Xp:=@List.take_take
abbrev xz:=@MapKept.run_getObj_map
abbrev WD:=@MapKept.run_setObj_map
abbrev WE:=@Nat.add_assoc
abbrev YA:=@Nat.add_comm
abbrev zJ:=@Nat.add_mul
abbrev xQ:=@Nat.add_zero
abbrev WF:=@Nat.eq_of_mul_eq_mul_right
abbrev WG:=@Nat.eq_or_lt_of_le
abbrev ZM:=@Nat.eq_zero_or_pos
abbrev yt:=@Nat.le_of_ble_eq_true
abbrev zf:=@Nat.le_refl
abbrev yT:=@Nat.le_trans
abbrev xY:=@Nat.lt_of_lt_of_le
abbrev yd:=@Nat.lt_or_ge
abbrev yU:=@Nat.min_eq_left
abbrev WW:=@Nat.min_eq_right
abbrev xE:=@Nat.mul_one
abbrev Xg:=@Nat.one_mul
abbrev zM:=@Nat.zero_add
abbrev zN:=@Nat.zero_le
abbrev Zs:=@Nat.zero_mul
abbrev Zt:=@Oper.upon_skip
abbrev Yb:=@Option.bind_some
abbrev xF:=@Option.getD_some
abbrev WX:=@Option.isSome_some
abbrev xG:=@Option.map_some
abbrev zK:=@Option.some.injEq
abbrev yu:=@Prod.mk.injEq
abbrev xZ:=@Result.andThen_ok
abbrev yV:=@Sem.run_bind
abbrev yW:=@Sem.run_pure
abbrev Xh:=@World.cell?_alloc_lt
abbrev Zu:=@World.cell?_setCell_other
abbrev yv:=@World.ownsRow_nil
abbrev yX:=@World.size_alloc
variable {B base fN cc ft g j l n off:Nat} {v:Value} {cs us xs:List Value} {a:Act} {w w' w0:World} {α:Type} {I I' : Nat→Prop} {β aS : Nat→Option Nat} {dst aB:Option Nat} {b bb:Bool} {d:TypeDesc} {x:Operand} {m:Int} {T2:TypeId} {fs:List (Nat×Nat)} {k2:IntKind} {A:Option Addr}
structure pK (P:Prop):Prop where
 out:P
theorem zb {P Q:Prop} (h:P) (f:pK P→Q:=by intro h;(repeat (first|refine FW.seq ?_|refine FW.region ?_|refine FW.block ?_|refine FW.skip ?_|refine FW.exit ?_|refine FW.k6 rfl ?_|refine FW.hJ rfl ?_|refine zx.nil ?_|(refine sr ?_;first|refine zx.aq (ZO rfl) rfl rfl ?_|refine zx.aq (Za rfl) rfl rfl ?_|(refine uC ?_;first|refine zx.aq (ZN rfl rfl rfl (by first|omega|(simp;omega)|(simp;done)) (by first|exact yh (by omega)|rfl) rfl rfl) rfl rfl ?_|refine zx.aq (Xx rfl rfl rfl rfl rfl (by first|omega|(simp;omega)|(simp;done)) (by first|exact yh (by omega)|rfl) rfl rfl) rfl rfl ?_|refine zx.aq (ub rfl rfl rfl (by decide) (by first|omega|(simp;omega)|(simp;done)) (by first|exact yh (by omega)|rfl) rfl) rfl rfl ?_|refine zx.aq (Xy rfl rfl rfl (by decide) rfl rfl (by first|omega|(simp;omega)|(simp;done)) (by first|exact yh (by omega)|rfl) rfl) rfl rfl ?_)|(refine CW ?_;first|refine zx.fR (ud rfl rfl rfl rfl rfl rfl rfl rfl) rfl ?_|refine zx.fR (YC rfl rfl rfl rfl rfl rfl rfl rfl) rfl ?_|refine zx.fR (CD rfl rfl rfl rfl rfl rfl (by first|omega|(simp;omega)|(simp;done)) (by first|exact yh (by omega)|rfl) rfl rfl) rfl ?_)|(refine CU ?_;first|refine zx.aq (Zx rfl rfl rfl rfl rfl) rfl rfl ?_|refine zx.aq (Xv rfl rfl rfl rfl rfl rfl (by decide)) rfl rfl ?_)|(refine CV ?_;first|refine zx.aq (Xw rfl rfl (by first|rfl|exact (Yt (by omega)).symm) rfl rfl rfl (by first|omega|(simp;omega)|(simp;done))) rfl rfl ?_|refine zx.aq (Cx rfl rfl (by first|rfl|exact (Yt (by omega)).symm) rfl rfl rfl (by decide) rfl (by first|omega|(simp;omega)|(simp;done))) rfl rfl ?_)|(refine uD ?_;first|refine zx.aq (WI rfl rfl) rfl rfl ?_|refine zx.aq (WH rfl rfl) rfl rfl ?_)|(refine rR ?_;first|refine zx.aq (Ul rfl rfl) rfl rfl ?_|refine zx.aq (u6 rfl rfl rfl) rfl rfl ?_|refine zx.aq (Cw rfl rfl rfl) rfl rfl ?_|refine zx.aq (pF rfl rfl) rfl rfl ?_|refine zx.aq (DW rfl rfl rfl) rfl rfl ?_|refine zx.aq (CB rfl rfl rfl) rfl rfl ?_|refine zx.aq (r8 rfl rfl) rfl rfl ?_|refine zx.aq (Eo rfl rfl) rfl rfl ?_|refine zx.aq (vp rfl rfl) rfl rfl ?_|refine zx.aq (vn rfl rfl) rfl rfl ?_|refine zx.aq (En rfl rfl (by omega)) rfl rfl ?_|refine zx.aq (vq rfl rfl (by omega)) rfl rfl ?_)|refine zx.cC (B0 rfl) rfl rfl ?_|refine zx.cC (Xu rfl rfl rfl rfl rfl) rfl rfl ?_|refine zx.cC (Yd rfl rfl rfl rfl rfl) rfl rfl ?_|refine VA rfl rfl rfl rfl ?_|refine zx.cC (BX rfl rfl rfl rfl) rfl rfl ?_|refine zx.aq (BZ rfl rfl) rfl rfl ?_|refine zx.aq (Um rfl rfl rfl rfl) rfl rfl ?_|refine D3 rfl rfl (by first|exact zU _|exact (zU _).symm|exact Yy|rfl|(simp;done)|omega|(simp;omega)) rfl rfl rfl (by decide) (by first|exact iY.own rfl rfl (by decide) (by first|exact zU _|exact (zU _).symm|exact Yy|rfl|(simp;done)|omega|(simp;omega))|exact iY.list rfl|exact iY.nil rfl|exact iY.part rfl rfl (by decide)) (by first|omega|(simp;omega)|(simp;done)) (by first|omega|(simp;omega)|(simp;done)) rfl rfl rfl ?_|refine zx.aq (Cz rfl rfl rfl (by decide)) rfl rfl ?_|refine zx.aq (YB rfl rfl (by first|exact zU _|exact (zU _).symm|exact Yy|rfl|(simp;done)|omega|(simp;omega))) rfl rfl ?_|refine zx.aq (Cy rfl rfl) rfl rfl ?_|refine zx.aq (Er rfl rfl) rfl rfl ?_|refine zx.aq (r9 rfl) rfl rfl ?_)|(refine Ej ?_;first|refine zx.aq (ZO rfl) rfl ⟨_,_,rfl,rfl,rfl⟩ ?_|(refine uC ?_;first|refine zx.aq (ZN rfl rfl rfl (by first|omega|(simp;omega)|(simp;done)) (by first|exact yh (by omega)|rfl) rfl rfl) rfl ⟨_,_,rfl,rfl,rfl⟩ ?_|refine zx.aq (Xx rfl rfl rfl rfl rfl (by first|omega|(simp;omega)|(simp;done)) (by first|exact yh (by omega)|rfl) rfl rfl) rfl ⟨_,_,rfl,rfl,rfl⟩ ?_|refine zx.aq (ub rfl rfl rfl (by decide) (by first|omega|(simp;omega)|(simp;done)) (by first|exact yh (by omega)|rfl) rfl) rfl ⟨_,_,rfl,rfl,rfl⟩ ?_|refine zx.aq (Xy rfl rfl rfl (by decide) rfl rfl (by first|omega|(simp;omega)|(simp;done)) (by first|exact yh (by omega)|rfl) rfl) rfl ⟨_,_,rfl,rfl,rfl⟩ ?_)|refine zx.aq (Xv rfl rfl rfl rfl rfl rfl (by decide)) rfl ⟨_,_,rfl,rfl,rfl⟩ ?_|(refine uD ?_;first|refine zx.aq (WI rfl rfl) rfl ⟨_,_,rfl,rfl,rfl⟩ ?_|refine zx.aq (WH rfl rfl) rfl ⟨_,_,rfl,rfl,rfl⟩ ?_)|(refine rR ?_;first|refine zx.aq (Ul rfl rfl) rfl ⟨_,_,rfl,rfl,rfl⟩ ?_|refine zx.aq (u6 rfl rfl rfl) rfl ⟨_,_,rfl,rfl,rfl⟩ ?_|refine zx.aq (pF rfl rfl) rfl ⟨_,_,rfl,rfl,rfl⟩ ?_|refine zx.aq (vp rfl rfl) rfl ⟨_,_,rfl,rfl,rfl⟩ ?_|refine zx.aq (vn rfl rfl) rfl ⟨_,_,rfl,rfl,rfl⟩ ?_)|refine VA rfl rfl rfl ⟨_,_,rfl,rfl,rfl⟩ ?_|refine zx.aq (Um rfl rfl rfl rfl) rfl ⟨_,_,rfl,rfl,rfl⟩ ?_|refine zx.aq (YB rfl rfl (by first|exact zU _|exact (zU _).symm|exact Yy|rfl|(simp;done)|omega|(simp;omega))) rfl ⟨_,_,rfl,rfl,rfl⟩ ?_|refine zx.aq (Ep rfl rfl) rfl ⟨_,_,rfl,rfl,rfl⟩ ?_|refine zx.aq (r9 rfl) rfl ⟨_,_,rfl,rfl,rfl⟩ ?_|refine D5 rfl rfl ⟨_,_,rfl,rfl,rfl⟩ ?_)|refine ZC.nil ?_|refine ZC.one rfl rfl rfl rfl rfl ?_|refine ZC.agg rfl rfl rfl rfl (List.cons_ne_nil _ _) rfl ?_));exact h.out):Q:=f ⟨h⟩
theorem xb {P Q:Prop} (h:P) (f:pK P→Q:=by intro h;(repeat (first|refine FW.seq ?_|refine FW.region ?_|refine FW.block ?_|refine FW.skip ?_|refine FW.exit ?_|refine FW.k6 rfl ?_|refine FW.hJ rfl ?_|refine zx.nil ?_|(refine sr ?_;first|refine zx.aq (Za rfl) rfl rfl ?_|refine zx.aq (Xx rfl rfl rfl rfl rfl (by first|omega|(simp;omega)|(simp;done)) (by first|exact yh (by omega)|rfl) rfl rfl) rfl rfl ?_|(refine rR ?_;first|refine zx.aq (Ul rfl rfl) rfl rfl ?_|refine zx.aq (r8 rfl rfl) rfl rfl ?_)|refine zx.cC (Yd rfl rfl rfl rfl rfl) rfl rfl ?_|refine zx.aq (YB rfl rfl (by first|exact zU _|exact (zU _).symm|exact Yy|rfl|(simp;done)|omega|(simp;omega))) rfl rfl ?_)|refine FW.draw ?_|refine zG.nil ?_|(refine vM ?_;first|refine zG.aq (ZO rfl) rfl rfl ?_|(refine uy ?_;first|refine zG.aq (ZN rfl rfl rfl (by first|omega|(simp;omega)|(simp;done)) (by first|exact yh (by omega)|rfl) rfl rfl) rfl rfl ?_|refine zG.aq (Xx rfl rfl rfl rfl rfl (by first|omega|(simp;omega)|(simp;done)) (by first|exact yh (by omega)|rfl) rfl rfl) rfl rfl ?_|refine zG.aq (Xy rfl rfl rfl (by decide) rfl rfl (by first|omega|(simp;omega)|(simp;done)) (by first|exact yh (by omega)|rfl) rfl) rfl rfl ?_)|refine zG.fR (ud rfl rfl rfl rfl rfl rfl rfl rfl) rfl ?_|(refine Uy ?_;first|refine zG.aq (Zx rfl rfl rfl rfl rfl) rfl rfl ?_|refine zG.aq (Xv rfl rfl rfl rfl rfl rfl (by decide)) rfl rfl ?_)|refine zG.aq (Xw rfl rfl (by first|rfl|exact (Yt (by omega)).symm) rfl rfl rfl (by first|omega|(simp;omega)|(simp;done))) rfl rfl ?_|(refine uK ?_;first|refine zG.aq (Ul rfl rfl) rfl rfl ?_|refine zG.aq (vq rfl rfl (by omega)) rfl rfl ?_)|refine zG.cC (Xu rfl rfl rfl rfl rfl) rfl rfl ?_|refine zG.aq (YB rfl rfl (by first|exact zU _|exact (zU _).symm|exact Yy|rfl|(simp;done)|omega|(simp;omega))) rfl rfl ?_)));exact h.out):Q:=f ⟨h⟩
theorem Yc {P Q:Prop} (h:P) (f:pK P→Q:=by intro h;(repeat (first|refine FW.seq ?_|refine FW.region ?_|refine FW.exit ?_|refine zx.nil ?_|(refine sr ?_;first|refine zx.aq (ZO rfl) rfl rfl ?_|refine zx.aq (Za rfl) rfl rfl ?_|refine D4 rfl rfl rfl rfl rfl ?_)));exact h.out):Q:=f ⟨h⟩
theorem zq {P Q:Prop} (h:P) (f:pK P→Q:=by intro h;(repeat (first|refine ZC.nil ?_|refine ZC.one rfl rfl rfl rfl rfl ?_|refine zG.nil ?_|(refine vM ?_;first|refine zG.aq (ZO rfl) rfl rfl ?_|refine zG.aq (Za rfl) rfl rfl ?_|(refine uy ?_;first|refine zG.aq (ZN rfl rfl rfl (by first|omega|(simp;omega)|(simp;done)) (by first|exact yh (by omega)|rfl) rfl rfl) rfl rfl ?_|refine zG.aq (Xx rfl rfl rfl rfl rfl (by first|omega|(simp;omega)|(simp;done)) (by first|exact yh (by omega)|rfl) rfl rfl) rfl rfl ?_|refine zG.aq (Xy rfl rfl rfl (by decide) rfl rfl (by first|omega|(simp;omega)|(simp;done)) (by first|exact yh (by omega)|rfl) rfl) rfl rfl ?_)|refine zG.fR (YC rfl rfl rfl rfl rfl rfl rfl rfl) rfl ?_|(refine Uy ?_;first|refine zG.aq (Zx rfl rfl rfl rfl rfl) rfl rfl ?_|refine zG.aq (Xv rfl rfl rfl rfl rfl rfl (by decide)) rfl rfl ?_)|(refine CQ ?_;first|refine zG.aq (Xw rfl rfl (by first|rfl|exact (Yt (by omega)).symm) rfl rfl rfl (by first|omega|(simp;omega)|(simp;done))) rfl rfl ?_|refine CP rfl rfl (by first|rfl|exact (Yt (by omega)).symm) rfl rfl rfl rfl (by decide) (by first|omega|(simp;omega)|(simp;done)) rfl rfl ?_)|(refine uz ?_;first|refine zG.aq (WI rfl rfl) rfl rfl ?_|refine zG.aq (WH rfl rfl) rfl rfl ?_)|refine zG.aq (Ul rfl rfl) rfl rfl ?_|refine zG.cC (Xu rfl rfl rfl rfl rfl) rfl rfl ?_|refine DD rfl rfl rfl rfl ?_|refine CO rfl rfl rfl rfl rfl ?_|refine zG.aq (r9 rfl) rfl rfl ?_)|(refine Ei ?_;first|refine zG.aq (ZO rfl) rfl ⟨_,_,rfl,rfl,rfl⟩ ?_|refine zG.aq (ZN rfl rfl rfl (by first|omega|(simp;omega)|(simp;done)) (by first|exact yh (by omega)|rfl) rfl rfl) rfl ⟨_,_,rfl,rfl,rfl⟩ ?_|refine zG.aq (Zx rfl rfl rfl rfl rfl) rfl ⟨_,_,rfl,rfl,rfl⟩ ?_|refine zG.aq (Xw rfl rfl (by first|rfl|exact (Yt (by omega)).symm) rfl rfl rfl (by first|omega|(simp;omega)|(simp;done))) rfl ⟨_,_,rfl,rfl,rfl⟩ ?_|(refine uz ?_;first|refine zG.aq (WI rfl rfl) rfl ⟨_,_,rfl,rfl,rfl⟩ ?_|refine zG.aq (WH rfl rfl) rfl ⟨_,_,rfl,rfl,rfl⟩ ?_)|(refine uK ?_;first|refine zG.aq (Ul rfl rfl) rfl ⟨_,_,rfl,rfl,rfl⟩ ?_|refine zG.aq (pF rfl rfl) rfl ⟨_,_,rfl,rfl,rfl⟩ ?_|refine zG.aq (r8 rfl rfl) rfl ⟨_,_,rfl,rfl,rfl⟩ ?_)|refine D2 rfl rfl ⟨_,_,rfl,rfl,rfl⟩ ?_)));exact h.out):Q:=f ⟨h⟩
theorem zu {P:Prop} (h:P:=by repeat (first|exact .nil|refine .cons (.plain rfl rfl (by first|rfl|(simp;done)|(congr 1;omega)|(simp;omega)|(simp [yO];done)|(refine congrArg (FV.int .i64) ?_;omega))) ?_|refine .cons (.own rfl (.head _) rfl (by first|rfl|(simp;done)|(congr 1;omega)|(simp;omega)|(simp [yO];done)|(refine congrArg (FV.int .i64) ?_;omega))) ?_|refine .cons (.nil rfl (.head _) rfl) ?_|refine .cons (.ptr rfl (.head _) rfl) ?_|refine .cons (.omap rfl (.head _) rfl) ?_|refine .cons (.ptr rfl (.tail _ (.head _)) rfl) ?_|refine .cons (.ptr rfl (.tail _ (.tail _ (.head _))) rfl) ?_)):P:=h
theorem zw {P:Prop} (h:P:=by repeat (first|exact .nil|refine .ir rfl (by decide) (by first|rfl|(simp;done)|(congr 1;omega)|(simp;omega)|(simp [yO];done)|(refine congrArg (FV.int .i64) ?_;omega)) ?_|refine .new ?_)):P:=h
theorem Xq {P:Prop} (h:P:=by repeat (first|exact zi.nil|refine zi.cons (by first|exact fH.plain rfl rfl|exact fH.own rfl rfl (by decide) (by first|exact (fun _=>rfl)|(intro h;cases h)) (by first|rfl|(simp;done)|(congr 1;omega)|(simp;omega)|(simp [yO];done)|(refine congrArg (FV.int .i64) ?_;omega))|exact fH.nil rfl|exact fH.sub rfl rfl (by repeat (first|exact FV.le.refl _|exact FV.le.nil _|refine FV.le.agg ?_|refine FV.le.bN ?_|exact fL.nil|refine fL.cons ?_ ?_|exact FV.le.undef _))|exact fH.part rfl rfl (by decide) (by first|exact (fun _=>rfl)|(intro h;cases h))) ?_)):P:=h
theorem zT {P:Prop} (h:P:=by simp [Op.operands,Call.operands]):P:=h
theorem UT {P:Prop} (h:P:=by repeat (first|exact zi.nil)):P:=h
theorem yQ {P:Prop} (h:P:=by repeat (first|exact .nil)):P:=h
theorem zj {P:Prop} (h:P:=by exact fH.plain rfl rfl):P:=h
theorem YS {P:Prop} (h:P:=by simp [Value.oneCell']):P:=h
theorem zh {P:Prop} (h:P:=by simp [Op.operands]):P:=h
theorem zy {P:Prop} (h:P:=by simp;omega):P:=h
theorem zp {P:Prop} (h:P:=by kernel_rfl):P:=h
theorem zc {P:Prop} (h:P:=by decide):P:=h
theorem za {P:Prop} (h:P:=by omega):P:=h
theorem zd {P:Prop} (h:P:=by simp):P:=h
def flat {α:Type} (ah:α→List Value) (l:List α):List Value:=l.flatMap ah
def lM {α:Type} (sz:Nat) (ah:α→List Value):Prop:=∀ a,(ah a).length=sz
section
variable {α:Type} {sz:Nat} {ah:α→List Value}
theorem Dr (h:lM sz ah) (l:List α):(flat ah l).length=l.length * sz:=by
 induction l with
 | nil => simp [flat]
 | cons a l ih => simp only [flat, xO, zH, yZ] at *; rw [ih, h a, zJ]; omega
theorem yA (l m:List α):flat ah (l++m)=flat ah l++flat ah m:=by simp [flat]
theorem Zk (a:α):flat ah [a]=ah a:=by simp [flat]
theorem rJ (h:lM sz ah):∀ (l:List α) (i j:Nat) (hi:i<l.length),j<sz→(flat ah l)[i * sz+j]? = (ah l[i])[j]?
 | [], i, _, hi, _ => by simp at hi
 | a :: l, 0, j, _, hj => by
  simp only [flat,xO,Zs,zM,List.getElem_cons_zero];rw [Yw (by rw [h a];exact hj)]
 | a :: l, i+1, j, hi, hj => by
  have ih:=rJ h l i j (by simpa using hi) hj;simp only [flat,xO,List.getElem_cons_succ] at *;rw [Xl (by rw [h a,zJ];omega),h a,← ih];congr 1;rw [zJ];omega
theorem rK (h:lM sz ah):∀ (l:List α) (i j:Nat) (u:Value) (a' : α) (hi:i<l.length),j<sz→ah a'=(ah l[i]).set j u→(flat ah l).set (i * sz+j) u=flat ah (l.set i a')
 | [], i, _, _, _, hi, _, _ => by simp at hi
 | a :: l, 0, j, u, a', _, hj, ha => by
  simp only [flat,xO,Zs,zM,List.set_cons_zero,List.getElem_cons_zero] at *;rw [List.set_append_left _ _ (by rw [h a];exact hj),ha]
 | a :: l, i+1, j, u, a', hi, hj, ha => by
  have ih:=rK h l i j u a' (by simpa using hi) hj (by simpa using ha);simp only [flat,xO,List.set_cons_succ] at *;rw [List.set_append_right _ _ (by rw [h a,zJ];omega),h a,← ih];congr 2;rw [zJ];omega
def Sl (ah:α→List Value) (w:World) (B:Nat) (A:Option Addr) (l:List α):Prop:=
 l≠[]→∃ b off,A=some ⟨b,off,none⟩∧b<B∧∀ j u,(flat ah l)[j]? = some u→w.cell? ⟨b,off+j,none⟩=some u
variable {w w' : World} {B B' : Nat} {A:Option Addr} {l:List α}
theorem Sl.rr (ah:α→List Value) (w:World) (B:Nat) (A:Option Addr):Sl ah w B A []:=fun h=>absurd rfl h
theorem Sl.keep (h:Sl ah w B A l) (hk:∀ p:Addr,p.block<B→w'.cell? p=w.cell? p):Sl ah w' B A l:=fun hl=>by
 obtain ⟨b,off,ha,hb,hc⟩:=h hl;exact ⟨b,off,ha,hb,fun j u hu=>(hk _ hb).trans (hc j u hu)⟩
theorem Sl.more (h:Sl ah w B A l) (hB:B≤B'):Sl ah w B' A l:=fun hl=>by
 obtain ⟨b,off,ha,hb,hc⟩:=h hl;exact ⟨b,off,ha,by omega,hc⟩
theorem Sl.below (h:Sl ah w B A l) (hb:Below B w w'):Sl ah w' B A l:=h.keep fun _ hp=>hb.cell hp
theorem Sl.ext (h:Sl ah w w.heap.size A l) (hb:Below w.heap.size w w'):Sl ah w' w'.heap.size A l:=(h.below hb).more hb.size
theorem Sl.get (h:Sl ah w B A l) (hs:lM sz ah) {i:Nat} (hi:i<l.length):∃ b off,A=some ⟨b,off,none⟩∧b<B∧∀ j u,j<sz→(ah l[i])[j]? = some u→w.cell? ⟨b,off+i * sz+j,none⟩=some u:=by
 obtain ⟨b,off,ha,hb,hc⟩:=h (by rintro rfl;simp at hi);refine ⟨b,off,ha,hb,fun j u hj hu=>?_⟩;rw [WE];exact hc _ u (by rw [rJ hs l i j hi hj];exact hu)
theorem Sl.bK {e:TypeId} {c:Nat} (h:w.ownsRow base e sz (.slice A n c) n (flat ah l)) (hl:n=l.length):Sl ah w w.heap.size A l:=fun aZ=>by
 rcases h.2 with ⟨hv,h0⟩|⟨g,cap,cur,hv,hg,hh,hn,hm,hc,ht⟩
 ·subst h0;exact absurd (ZH hl.symm) aZ
 ·have hA:A=some ⟨g,0,none⟩:=by injection hv
  subst hA;have aD:g<w.heap.size:=(yy.1 hh).1;refine ⟨g,0,rfl,aD,fun j u hu=>?_⟩;rw [zM,cell_of_row w g j cur e (0,0) hh];rw [← ht,yD] at hu;split at hu
  ·simpa using hu
  ·cases hu
theorem rP {e:TypeId} (h:w.ownsRow base e sz v n xs):∃ A c,v=.slice A n c:=by
 rcases h.2 with ⟨hv,h0⟩|⟨g,cap,cur,hv,_⟩
 ·subst h0;exact ⟨none,0,hv⟩
 ·exact ⟨_,_,hv⟩
theorem WN {e:TypeId} {A:Option Addr} {c:Nat} (h:w.ownsRow base e sz (.slice A n c) n xs) (hn:0<n):∃ g,A=some ⟨g,0,none⟩∧base≤g∧g<w.heap.size:=by
 rcases h.2 with ⟨hv,h0⟩|⟨g,cap,cur,hv,hb,hg,_⟩
 ·omega
 ·injection hv with hA
  exact ⟨g,hA,hb,(yy.1 hg).1⟩
theorem Yo {e:TypeId} (h:w.ownsRow base e sz v n xs) (hb:Below w.heap.size w w'):w'.ownsRow base e sz v n xs:=by
 refine ⟨h.1,?_⟩;rcases h.2 with hn|⟨g,cap,cur,rfl,bP,dx,rest⟩
 ·exact .inl hn
 ·exact .inr ⟨g,cap,cur,rfl,bP,(hb.block g (yy.1 dx).1).trans dx,rest⟩
theorem ZT {e:TypeId} (h:w.ownsRow base e sz v n xs) (hb:fN≤base):w.ownsRow fN e sz v n xs:=by
 refine ⟨h.1,?_⟩;rcases h.2 with hn|⟨g,cap,cur,rfl,bP,r⟩
 ·exact .inl hn
 ·exact .inr ⟨g,cap,cur,rfl,by omega,r⟩
end
theorem Zv {a:World} (h:Below B a w) (n:Nat):Below B a (w.drewN n):=⟨h.os,h.tape,h.output,h.size,h.block⟩
theorem vL {a:World} (h:Below B a w):Below B a w.drew:=⟨h.os,h.tape,h.output,h.size,h.block⟩
theorem pM {w1 w2:World} (h:Below w.heap.size w w1) (k:Below w1.heap.size w1 w2):Below w.heap.size w w2:=h.trans (k.mono h.size)
theorem vh {e:TypeId} {sz:Nat} (h:w.ownsRow B e sz v n xs) (hB:B≤w.heap.size) (hg:w.grownBy w' v.ownBlock):Below B w w':=
 (zQ B w).grown hg hB fun k hk=>(h.lt k hk).1
def aQ (w:World) (g:Nat) (t:TypeId) (cs:List Value):Prop:=w.heap[g]? = some (.cells cs.toArray t (0,0))
section
variable {w w' : World} {g:Nat} {t:TypeId} {cs:List Value}
theorem aQ.lt (h:aQ w g t cs):g<w.heap.size:=by
 rcases yd g w.heap.size with aD|ij
 ·exact aD
 ·unfold aQ at h;rw [Array.getElem?_eq_none ij] at h;cases h
theorem aQ.cell (h:aQ w g t cs) (i:Nat):w.cell? ⟨g,i,none⟩=cs[i]?:=by rw [cell_of_row w g i cs.toArray t (0,0) h];simp
theorem aQ.frozen (h:aQ w g t cs) (i:Nat):w.frozen? ⟨g,i,none⟩=false:=by
 unfold aQ at h;simp [World.frozen?,h]
theorem aQ.new (w:World) (t:TypeId) (cs:List Value):aQ (w.alloc (.cells cs.toArray t)) w.heap.size t cs:=heap_alloc_new w _
theorem aQ.drew (h:aQ w g t cs):aQ w.drew g t cs:=h
theorem aQ.drewN (h:aQ w g t cs) (n:Nat):aQ (w.drewN n) g t cs:=h
theorem aQ.alloc (h:aQ w g t cs) (o:Obj):aQ (w.alloc o) g t cs:=(Below.heap_alloc w o g h.lt).trans h
theorem aQ.dF (h:aQ w g t cs) (i:Nat) (u:Value):aQ (w.setCell ⟨g,i,none⟩ u) g t (cs.set i u):=by
 unfold aQ at h ⊢;simp [World.setCell,UL,h]
theorem aQ.cj (h:aQ w g t cs) {p:Addr} (hp:g≠p.block) (u:Value):aQ (w.setCell p u) g t cs:=(Below.heap_setCell w p u g hp).trans h
theorem aQ.below (h:aQ w g t cs) (hb:Below B w w') (hg:g<B):aQ w' g t cs:=(hb.block g hg).trans h
theorem aQ.grown {row:Option Nat} (h:aQ w g t cs) (hb:w.grownBy w' row) (hg:some g≠row):aQ w' g t cs:=(hb.block g h.lt hg).trans h
end
def nth {α:Type} [Inhabited α] (l:List α) (i:Nat):α:=l.getD i default
theorem yq [Inhabited α] {l:List α} {i:Nat} (h:i<l.length):nth l i=l[i]:=by simp [nth,h]
theorem xh [Inhabited α] {l m:List α} {i:Nat} (h:i<l.length):nth (l++m) i=nth l i:=by
 rw [yq h,yq zy,List.getElem_append_left h]
theorem yj [Inhabited α] {l:List α} {i:Nat} (h:i<l.length):nth l i∈l:=by rw [yq h];exact yw h
theorem xC [Inhabited α] {l:List α} {a:α}:nth (l++[a]) l.length=a:=by rw [yq zd];simp
theorem zY [Inhabited α] {l:List α} {i:Nat} {a:α} (h:i<l.length):nth (l.set i a) i=a:=by rw [yq (by simpa using h),List.getElem_set_self]
theorem ZR [Inhabited α] {l:List α} {i:Nat} {a:α} (h:i≠j):nth (l.set i a) j=nth l j:=by
 simp only [nth,yC,List.getElem?_set_ne h]
def YM {σ:Type} (f:Nat→σ→σ) (s:σ):Nat→σ
 | 0 => s
 | k+1 => f k (YM f s k)
def aT (x:Int):Prop:=-9223372036854775808≤x∧x≤9223372036854775807
theorem u9 (x:Int) (h:aT x):IntKind.i64.wrap x=x:=by
 unfold aT at h;rw [IntKind.wrap_i64];omega
structure Uf (P:Program) (T E sz cK:Nat):Prop where
 u:P.underlying T=some (.slice E)
 i:∃ i z,P.info? E=some i∧i.zero=some z∧i.size=sz∧i.bytes=cK∧z.cells.size=sz
 pos:0<sz
theorem ym {P:Program} {T E sz cK:Nat} (hT:Uf P T E sz cK) {W:World} {ops:Array Oper} {rest:List Oper} {o:Oper} {Q:Exit→Act→World→Prop}
(dQ:W.ownsRow base E sz v n xs) {E' : TypeId}
  (o6:o.guard=none) (s x:Operand) (ho:o.op=.call { callee:=.builtin .append,args:=#[s,x],argTypes:=#[T,T] })
  (hs:a.eval s=v) (hx:a.eval x=.slice (some ⟨W.heap.size,0,none⟩) 1 1) (hl:cs.length=sz) (h1:∀ u∈cs,u.oneCell'=true)
  (hn:n≤1000000000) (qj:cK≤100000) (ib:base≤W.heap.size)
  (h:∀ A' c' w',w'.ownsRow base E sz (.slice A' (n+1) c') (n+1) (xs++cs)→Below base W w'→W.grownBy w' v.ownBlock→((Value.slice A' (n+1) c').ownBlock=v.ownBlock∨(∃ g,(Value.slice A' (n+1) c').ownBlock=some g∧W.heap.size≤g))→
   wpList P ops Q rest (a.put o.dst (.slice A' (n+1) c')) w') :
  wpList P ops Q (o::rest) a (W.alloc (.cells cs.toArray E')):=by
 obtain ⟨i,z,hi,hz,az,kE,kP⟩:=hT.i;have oh:=dQ.alloc (.cells cs.toArray E');refine wpList_append_own_at _ o6 s x T ho base E i z sz cK hT.u hi hz az kE kP hT.pos v n xs hs oh ⟨W.heap.size,0,none⟩ 1 1 cs hx za ?_ h1 ?_ ?_ ?_ ?_
 ·intro j u hu;have e:(⟨W.heap.size,0,none⟩:Addr).add j=⟨W.heap.size,j,none⟩:=by unfold Addr.add;split <;> simp_all
  rw [e,cell_of_row _ _ j cs.toArray E' (0,0) (heap_alloc_new W _)];simpa using hu
 ·unfold maxLen;omega
 ·have:(n+1) * cK≤1000000001 * 100000:=Nat.mul_le_mul za qj;omega
 ·simp;omega
 ·intro v' w' bX hg _ mb;obtain ⟨A',c',rfl⟩:=rP bX;have bG:=(World.grownBy_alloc W (.cells cs.toArray E') v.ownBlock).trans hg;refine h A' c' w' bX (vh dQ ib bG) bG (mb.imp id fun hh=>⟨_,hh,by simp⟩)
theorem xu {t:TypeId} {e:TypeId} {size:Nat} (h:w.ownsRow base e size v n xs) (hg:aQ w g t cs) (aZ:e≠t):some g≠v.ownBlock:=by
 rcases h.2 with ⟨rfl,_⟩|⟨g',cap,cur,rfl,_,hh,_⟩
 ·simp [Value.ownBlock]
 ·intro he;have:g=g':=by simpa [Value.ownBlock] using he
  subst this;unfold aQ at hg;rw [hg] at hh;injection hh with hh
  injection hh with _ ht
  exact aZ ht.symm
theorem yR {e e' : TypeId} {sz rC n' : Nat} {v' : Value} {rH : List Value} (h:w.ownsRow base e sz v n xs) (h' : w.ownsRow fN e' rC v' n' rH) (aZ:e≠e'):v.ownBlock=none∨v.ownBlock≠v'.ownBlock:=by
 rcases h.2 with ⟨rfl,_⟩|⟨g,cap,cur,rfl,_,hh,_⟩
 ·exact .inl rfl
 ·rcases h'.2 with ⟨rfl,_⟩|⟨g',vT,eK,rfl,_,ld,_⟩
  ·right;simp [Value.ownBlock]
  ·right;intro he;have:g=g':=by simpa [Value.ownBlock] using he
   subst this;rw [hh] at ld;injection ld with ld
   injection ld with _ ht
   exact aZ ht
theorem aQ.int {t:TypeId} {l:List Int} (h:aQ w g t (flat (fun x=>[Value.int .i64 x]) l)) {i:Nat} (hi:i<l.length):w.cell? ⟨g,i,none⟩=some (.int .i64 (nth l i)):=by
 rw [h.cell i];have:=rJ (sz:=1) (ah:=fun x=>[Value.int .i64 x]) (fun _=>rfl) l i 0 hi za;rw [yq hi];simpa using this
inductive Wk where
 | fn (f:Nat)|bound (f:Nat)|agg|bN|pj (t:Nat)|vQ (n:Nat)
 deriving Inhabited,DecidableEq
inductive FV where
 | undef
 | int (k:IntKind) (n:Int)
 | bool (b:Bool)
 | str (s:ByteArray)
 | nil
 | bW
 | ao
 | list (sz:Nat) (es:List (List FV))
 | aK (sz:Nat) (es:List (List FV)) (i off:Nat)
 | agg (cs:List FV)
 | bN (vs:List FV)
 | own (id aa o n:Nat)
 | ptr (id aa i off:Nat)
 | omap (id aa:Nat)
 | smap (es:List (List FV))
 | fn (f:Nat) (aO:List FV)
 | iface (t:Nat) (f:FV)
 | wrap (k:Wk) (fs:List FV)
 | perm (sz:Nat) (es:List (List FV))
 | kZ (f:Nat) (aO:List FV)
 deriving Inhabited
def Wk.mk:Wk→List Value→Value
 | .fn f, us => .func (.func f) #[] us.toArray
 | .bound f, us => .func (.func f) us.toArray #[]
 | .agg, us => .agg us.toArray
 | .bN, us => .tuple us.toArray
 | .pj t, us => .iface t (us.headD .nilFunc)
 | .vQ n, us => .tuple (.agg (us.take n).toArray :: us.drop n).toArray
def FV.one:FV→Bool
 | .int _ _|.bool _|.str _|.nil|.bW|.ao|.list _ _|.smap _|.fn _ _|.iface _ _|.kZ _ _|.aK _ _ _ _ => true
 | _ => false
def FV.cd:FV→Value
 | .int k n => .int k n
 | .bool b => .bool b
 | .str s => .string s
 | _ => .nilFunc
def FV.val:FV→Value
 | .agg cs => .agg (cs.map FV.cd).toArray
 | f => f.cd
def FV.aG:FV→Bool
 | .int _ _|.bool _|.str _ => true
 | _ => false
def FV.simple:FV→Bool
 | .agg cs => cs.all FV.aG
 | f => f.aG
inductive Rd (w:World) (I:Nat→Prop):Value→FV→Prop where
 | undef (v:Value):Rd w I v .undef
 | int (k:IntKind) (n:Int):Rd w I (.int k n) (.int k n)
 | bool (b:Bool):Rd w I (.bool b) (.bool b)
 | str (s:ByteArray):Rd w I (.string s) (.str s)
 | nil:Rd w I (.slice none 0 0) .nil
 | bW:Rd w I (.map none) .bW
 | ao:Rd w I .nilFunc .ao
 | list (A:Option Addr) (n c sz:Nat) (es:List (List FV)) (us:List Value) (hn:es.length=n) (hc:n≤c) (he:∀ e∈es,e.length=sz) (ho:∀ f∈es.flatten,f.one=true)
   (hA:n≠0→∃ b off,A=some ⟨b,off,none⟩∧I b∧∀ (j:Nat) u,us[j]? = some u→w.cell? ⟨b,off+j,none⟩=some u)
   (hl:us.length=es.flatten.length) (hr:∀ (j:Nat) u f,us[j]? = some u→es.flatten[j]? = some f→Rd w I u f):Rd w I (.slice A n c) (.list sz es)
 | aK (b off sz:Nat) (es:List (List FV)) (i o:Nat) (us:List Value) (hI:I b) (he:∀ e∈es,e.length=sz) (ho:∀ f∈es.flatten,f.one=true)
   (hA:∀ (j:Nat) u,us[j]? = some u→w.cell? ⟨b,off+j,none⟩=some u)
   (hl:us.length=es.flatten.length) (hr:∀ (j:Nat) u f,us[j]? = some u→es.flatten[j]? = some f→Rd w I u f):Rd w I (.pointer (some ⟨b,off+(i * sz+o),none⟩)) (.aK sz es i o)
 | smap (b clock:Nat) (au:Array MapEntry) (es:List (List FV)) (hI:I b) (hb:w.heap[b]? = some (.map au clock)) (br:MapKept.Stamped au clock) (hl:au.size=es.length)
   (hk:∀ (j:Nat) e row,au[j]? = some e→es[j]? = some row→∃ kf vf,row=[kf,vf]∧kf.simple=true∧e.key=kf.val)
   (hr:∀ (j:Nat) e row f,au[j]? = some e→es[j]? = some row→row[1]? = some f→Rd w I e.val f):Rd w I (.map (some b)) (.smap es)
 | fn (f:Nat) (us:List Value) (fs:List FV) (hl:us.length=fs.length) (hr:∀ (j:Nat) u g, us[j]? = some u → fs[j]? = some g → Rd w I u g):Rd w I (.func (.func f) #[] us.toArray) (.fn f fs)
 | iface (t:Nat) (v:Value) (f:FV) (hr:Rd w I v f):Rd w I (.iface t v) (.iface t f)
 | agg (us:List Value) (fs:List FV) (hl:us.length=fs.length) (hr:∀ (j:Nat) u f, us[j]? = some u → fs[j]? = some f → Rd w I u f):Rd w I (.agg us.toArray) (.agg fs)
 | bN (us:List Value) (fs:List FV) (hl:us.length=fs.length) (hr:∀ (j:Nat) u f, us[j]? = some u → fs[j]? = some f → Rd w I u f):Rd w I (.tuple us.toArray) (.bN fs)
 | kZ (f:Nat) (us:List Value) (fs:List FV) (hl:us.length=fs.length) (hr:∀ (j:Nat) u g, us[j]? = some u → fs[j]? = some g → Rd w I u g):Rd w I (.func (.func f) us.toArray #[]) (.kZ f fs)
 | perm (v:Value) (sz:Nat) (es aY : List (List FV)) (hp:aY.Perm es) (hr:Rd w I v (.list sz aY)):Rd w I v (.perm sz es)
 | dW (v:Value) (es aY : List (List FV)) (hp:aY.Perm es) (hr:Rd w I v (.smap aY)):Rd w I v (.perm 0 es)
def ay (w:World) (I:Nat→Prop) (us:List Value) (fs:List FV):Prop:=us.length=fs.length∧∀ (j:Nat) u f,us[j]? = some u→fs[j]? = some f→Rd w I u f
theorem Rd.mono (hI:∀ b,I b→I' b∧w'.heap[b]? = w.heap[b]?) {f:FV} (h:Rd w I v f):Rd w' I' v f:=by
 induction h with
 | undef v => exact .undef v
 | int k n => exact .int k n
 | bool b => exact .bool b
 | str s => exact .str s
 | nil => exact .nil
 | bW => exact .bW
 | ao => exact .ao
 | list A n c sz es us hn hc he ho hA hl hr ih =>
  refine .list A n c sz es us hn hc he ho (fun h0=>?_) hl ih;obtain ⟨b,off,ha,hb,aU⟩:=hA h0;exact ⟨b,off,ha,(hI b hb).1,fun j u hu=>(World.cell?_of_block (w:=w) (w':=w') (a:=⟨b,off+j,none⟩) (hI b hb).2).trans (aU j u hu)⟩
 | aK b off sz es i o us hb he ho hA hl hr ih =>
  exact .aK b off sz es i o us (hI b hb).1 he ho (fun j u hu=>(World.cell?_of_block (w:=w) (w':=w') (a:=⟨b,off+j,none⟩) (hI b hb).2).trans (hA j u hu)) hl ih
 | smap b clock au es hb kC br hl hk hr ih => exact .smap b clock au es (hI b hb).1 ((hI b hb).2.trans kC) br hl hk ih
 | agg us fs hl hr ih => exact .agg us fs hl ih
 | iface t v f hr ih => exact .iface t v f ih
 | fn f us fs hl hr ih => exact .fn f us fs hl ih
 | bN us fs hl hr ih => exact .bN us fs hl ih
 | kZ f us fs hl hr ih => exact .kZ f us fs hl ih
 | perm v sz es aY hp hr ih => exact .perm v sz es aY hp ih
 | dW v es aY hp hr ih => exact .dW v es aY hp ih
theorem ay.mono (hI:∀ b,I b→I' b∧w'.heap[b]? = w.heap[b]?) {fs:List FV} (h:ay w I us fs):ay w' I' us fs:=
 ⟨h.1,fun j u f hu hf=>(h.2 j u f hu hf).mono hI⟩
theorem ay.nil {w:World} {I:Nat→Prop}:ay w I [] []:=⟨rfl,fun j u f hu=>by simp at hu⟩
theorem ay.append {vs:List Value} {fs gs:List FV} (h:ay w I us fs) (k:ay w I vs gs):ay w I (us++vs) (fs++gs):=by
 refine ⟨by simp [h.1,k.1],fun j u f hu hf=>?_⟩;rcases yd j us.length with hj|hj
 ·rw [Yw hj] at hu;rw [Yw (by rw [← h.1];exact hj)] at hf;exact h.2 j u f hu hf
 ·rw [Xl hj] at hu;rw [Xl (by rw [← h.1];exact hj),← h.1] at hf;exact k.2 _ u f hu hf
theorem ay.cons {u:Value} {f:FV} {fs:List FV} (h:Rd w I u f) (k:ay w I us fs):ay w I (u::us) (f::fs):=by
 refine ⟨by simp [k.1],fun j u' f' hu hf=>?_⟩;cases j with
 | zero => simp at hu hf; subst hu; subst hf; exact h
 | succ j => simp at hu hf; exact k.2 j u' f' hu hf
theorem ay.take {fs:List FV} (h:ay w I us fs) (n:Nat):ay w I (us.take n) (fs.take n):=by
 refine ⟨by simp [h.1],fun j u f hu hf=>?_⟩;rw [yD] at hu hf;split at hu
 ·rename_i hj;rw [if_pos hj] at hf;exact h.2 j u f hu hf
 ·cases hu
theorem ay.drop {fs:List FV} (h:ay w I us fs) (n:Nat):ay w I (us.drop n) (fs.drop n):=by
 refine ⟨by simp [h.1],fun j u f hu hf=>?_⟩;rw [xx] at hu hf;exact h.2 _ u f hu hf
inductive xL where
 | dead|own|shut|bc|maps|aJ|roomy|full|bH
 deriving DecidableEq,Inhabited
def xL.row:xL→Bool
 | .own|.shut|.roomy|.full => true
 | _ => false
def xL.bL:xL→Bool
 | .own|.shut|.roomy|.full|.aJ => true
 | _ => false
def xL.j7:xL→Bool
 | .own|.bc|.roomy|.full|.aJ|.bH => true
 | _ => false
theorem xL.dS {l:xL} (h:l.row=true):l≠.dead:=by rintro rfl;cases h
theorem xL.gu {l:xL} (h:l.row=true):l.bL=true:=by cases l <;> first|rfl|cases h
theorem xL.bo {l:xL} (h:l.j7=true):l≠.dead:=by rintro rfl;cases h
structure yo where
 aa:Nat:=0
 ag:xL:=.dead
 E:TypeId:=0
 sz:Nat:=0
 es:List (List FV):=[]
 deriving Inhabited
def look {α:Type} (d:α):List (Nat×α)→Nat→α
 | [], _ => d
 | (i, a) :: l, k => bif Nat.beq i k then a else look d l k
theorem zC (d:α) (i:Nat) (a:α) (l:List (Nat×α)) (k:Nat):look d ((i,a)::l) k=if i=k then a else look d l k:=by
 show (bif Nat.beq i k then a else look d l k)=_;by_cases h:i=k
 ·subst h;simp
 ·have hb:Nat.beq i k=false:=by
   cases hb:Nat.beq i k with
   | true => exact absurd (Nat.eq_of_beq_eq_true hb) h
   | false => rfl
  rw [hb,if_neg h];rfl
structure ab where
 t:List (Nat×FV)
 o:List (Nat×yo)
def ab.get (s:ab) (d:Nat):FV:=look .undef s.t d
def ab.ob (s:ab) (id:Nat):yo:=look {} s.o id
def ab.put (s:ab) (d:Nat) (v:FV):ab:=⟨(d,v)::s.t,s.o⟩
def ab.set (s:ab) (id:Nat) (b:yo):ab:=⟨s.t,(id,b)::s.o⟩
theorem ab.ec (s:ab) (d:Nat) (v:FV) (k:Nat):(s.put d v).get k=if d=k then v else s.get k:=zC _ _ _ _ _
theorem ab.av (s:ab) (d:Nat) (b:yo) (k:Nat):(s.set d b).ob k=if d=k then b else s.ob k:=zC _ _ _ _ _
structure VP (w:World) (aB:Option Nat) (ob:yo) (v:Value) (o n:Nat):Prop where
 row:ob.ag.bL=true
 ex:∃ A c,v=.slice A n c∧n≤c∧o+n≤ob.es.length∧(aB=none→A=none∧c=0)∧
  ∀ b,aB=some b→∃ o',A=some ⟨b,o',none⟩∧(c≠0∨o=0→o'=o * ob.sz)∧∀ cur,w.heap[b]? = some (.cells cur ob.E (0,0))→cur.size=(o+c) * ob.sz
def kX (w:World) (I:Nat→Prop) (β:Nat→Option Nat) (s:ab) (v:Value):FV→Prop
 | .own id aa o n => (s.ob id).ag ≠ .dead → (s.ob id).aa=aa → VP w (β id) (s.ob id) v o n
 | .ptr id aa i off => (s.ob id).ag ≠ .dead → (s.ob id).aa=aa → (s.ob id).ag.bL=true ∧ ∃ b, β id=some b ∧ v=.pointer (some ⟨b, i * (s.ob id).sz+off, none⟩)
 | .omap id aa => (s.ob id).ag ≠ .dead → (s.ob id).aa=aa → (s.ob id).ag.bL=false ∧ ∃ b, β id=some b ∧ v=.map (some b)
 | f => Rd w I v f
def VR (w:World) (I:Nat→Prop) (β:Nat→Option Nat) (s:ab) (v:Value):FV→Prop
 | .own id aa o n => (s.ob id).ag ≠ .dead → (s.ob id).aa=aa → VP w (β id) (s.ob id) v o n
 | .ptr id aa i off => (s.ob id).ag ≠ .dead → (s.ob id).aa=aa → (s.ob id).ag.bL=true ∧ ∃ b, β id=some b ∧ v=.pointer (some ⟨b, i * (s.ob id).sz+off, none⟩)
 | .omap id aa => (s.ob id).ag ≠ .dead → (s.ob id).aa=aa → (s.ob id).ag.bL=false ∧ ∃ b, β id=some b ∧ v=.map (some b)
 | .wrap k fs => ∃ us:List Value, v=k.mk us ∧ us.length=fs.length ∧ ∀ (j:Nat) u f, us[j]? = some u → fs[j]? = some f → kX w I β s u f
 | f => Rd w I v f
def FV.hand:FV→Option (Nat×Nat)
 | .own id aa _ _ => some (id, aa)
 | .ptr id aa _ _ => some (id, aa)
 | .omap id aa => some (id, aa)
 | .wrap _ _ => some (0, 0)
 | _ => none
def FV.hands:FV→List (Nat×Nat)
 | .own id aa _ _ => [(id, aa)]
 | .ptr id aa _ _ => [(id, aa)]
 | .omap id aa => [(id, aa)]
 | .wrap _ fs => fs.filterMap FV.hand
 | _ => []
theorem FV.gM {f:FV} (h:f.hand=none):f.hands=[]:=by cases f <;> first|rfl|(simp [FV.hand] at h)
theorem FV.bf {f:FV} (h:f.hand=none) {p:Nat×Nat} (hp:p∈f.hands):False:=by rw [FV.gM h] at hp;cases hp
structure nk (w:World) (base:Nat) (I:Nat→Prop) (aB:Option Nat) (ob:yo):Prop where
 wide:∀ e∈ob.es,e.length=ob.sz
 one:∀ f∈ob.es.flatten,f.one=true
 row:∃ v us,w.ownsRow base ob.E ob.sz v ob.es.length us∧v.ownBlock=aB∧ay w I us ob.es.flatten
structure ng (w:World) (base:Nat) (I:Nat→Prop) (aB:Option Nat) (ob:yo):Prop where
 ex:∃ b clock au,aB=some b∧base≤b∧w.heap[b]? = some (.map au clock)∧MapKept.Stamped au clock∧au.size=ob.es.length∧
  (∀ (j:Nat) e row,au[j]? = some e→ob.es[j]? = some row→∃ kf vf,row=[kf,vf]∧kf.simple=true∧e.key=kf.val)∧
  ∀ (j:Nat) e row f,au[j]? = some e→ob.es[j]? = some row→row[1]? = some f→Rd w I e.val f
structure nj (w:World) (base:Nat) (I:Nat→Prop) (β:Nat→Option Nat) (s:ab) (aB:Option Nat) (ob:yo):Prop where
 wide:∀ e∈ob.es,e.length=ob.sz
 di:∀ f∈ob.es.flatten,∀ id aa,(id,aa)∈f.hands→aa≤(s.ob id).aa
 row:∃ v us,w.ownsRow base ob.E ob.sz v ob.es.length us∧v.ownBlock=aB∧us.length=ob.es.flatten.length∧∀ (j:Nat) u f,us[j]? = some u→ob.es.flatten[j]? = some f→VR w I β s u f
structure nc (w:World) (base:Nat) (I:Nat→Prop) (β:Nat→Option Nat) (s:ab) (aB:Option Nat) (ob:yo):Prop where
 di:∀ f∈ob.es.flatten,∀ id aa,(id,aa)∈f.hands→aa≤(s.ob id).aa
 ex:∃ b clock au,aB=some b∧base≤b∧w.heap[b]? = some (.map au clock)∧MapKept.Stamped au clock∧au.size=ob.es.length∧
  (∀ (j:Nat) e row,au[j]? = some e→ob.es[j]? = some row→∃ kf vf,row=[kf,vf]∧kf.simple=true∧e.key=kf.val)∧
  ∀ (j:Nat) e row f,au[j]? = some e→ob.es[j]? = some row→row[1]? = some f→VR w I β s e.val f
def YP (w:World) (aB:Option Nat) (ob:yo):Prop:=
 match ob.ag with
 | .roomy => ∃ b cur, aB=some b ∧ w.heap[b]? = some (.cells cur ob.E (0, 0)) ∧ (ob.es.length+1) * ob.sz ≤ cur.size
 | .full => ∀ b cur, aB=some b → w.heap[b]? = some (.cells cur ob.E (0, 0)) → cur.size=ob.es.length * ob.sz
 | _ => True
def cu (w:World) (base:Nat) (I:Nat→Prop) (β:Nat→Option Nat) (s:ab) (aB:Option Nat) (ob:yo):Prop:=
 if ob.ag.row=true then nk w base I aB ob∧YP w aB ob else if ob.ag.bL=true then nj w base I β s aB ob else if ob.ag=.bH then nc w base I β s aB ob else ng w base I aB ob
section
variable {w:World} {base:Nat} {I:Nat→Prop} {β:Nat→Option Nat} {s:ab} {aB:Option Nat} {ob:yo}
theorem cu.bA (h:cu w base I β s aB ob) (hr:ob.ag.row=true):nk w base I aB ob:=by unfold cu at h;rw [if_pos hr] at h;exact h.1
theorem cu.iu (h:cu w base I β s aB ob) (hr:ob.ag.row=true):YP w aB ob:=by unfold cu at h;rw [if_pos hr] at h;exact h.2
theorem cu.iO (h:cu w base I β s aB ob) (hr:ob.ag.row=false) (hs:ob.ag.bL=true):nj w base I β s aB ob:=by unfold cu at h;rwa [if_neg (by rw [hr];decide),if_pos hs] at h
theorem cu.iN (h:cu w base I β s aB ob) (hr:ob.ag.bL=false) (hm:ob.ag≠.bH):ng w base I aB ob:=by
 unfold cu at h;rwa [if_neg (fun e=>by rw [xL.gu e] at hr;cases hr),if_neg (by rw [hr];decide),if_neg hm] at h
theorem cu.mC (h:cu w base I β s aB ob) (hm:ob.ag=.bH):nc w base I β s aB ob:=by
 unfold cu at h;rwa [if_neg (by rw [hm];decide),if_neg (by rw [hm];decide),if_pos hm] at h
theorem cu.rp (h:cu w base I β s aB ob) (hr:ob.ag.bL=false):∃ b clock au,aB=some b∧base≤b∧w.heap[b]? = some (.map au clock):=by
 by_cases hm:ob.ag=.bH
 ·obtain ⟨b,clock,au,h1,h2,h3,_⟩:=(h.mC hm).ex;exact ⟨b,clock,au,h1,h2,h3⟩
 ·obtain ⟨b,clock,au,h1,h2,h3,_⟩:=(h.iN hr hm).ex;exact ⟨b,clock,au,h1,h2,h3⟩
theorem cu.ofRow (h:nk w base I aB ob) (hm:YP w aB ob) (hr:ob.ag.row=true):cu w base I β s aB ob:=by unfold cu;rw [if_pos hr];exact ⟨h,hm⟩
theorem cu.rv (h:nj w base I β s aB ob) (hr:ob.ag=.aJ):cu w base I β s aB ob:=by unfold cu;rw [if_neg (by rw [hr];decide),if_pos (by rw [hr];rfl)];exact h
theorem cu.ofMap (h:ng w base I aB ob) (hr:ob.ag.bL=false) (hm:ob.ag≠.bH):cu w base I β s aB ob:=by
 unfold cu;rwa [if_neg (fun e=>by rw [xL.gu e] at hr;cases hr),if_neg (by rw [hr];decide),if_neg hm]
theorem cu.oH (h:nc w base I β s aB ob) (hm:ob.ag=.bH):cu w base I β s aB ob:=by
 unfold cu;rwa [if_neg (by rw [hm];decide),if_neg (by rw [hm];decide),if_pos hm]
theorem YP.own (hl:ob.ag=.own):YP w aB ob:=by unfold YP;rw [hl];trivial
theorem YP.shut (hl:ob.ag=.shut):YP w aB ob:=by unfold YP;rw [hl];trivial
end
structure JJ where
 ok:Nat→Prop
 K:Nat→Prop:=fun _=>False
 h0:Nat→Option Obj:=fun _=>none
 gh:Value→FV→Prop:=fun _ _=>False
 ds:List Deferred:=[]
instance:CoeFun JJ fun _=>Nat→Prop:=⟨JJ.ok⟩
def Yh:Nat:=5000
def aR (J:JJ) (w:World) (β:Nat→Option Nat) (s:ab) (b:Nat):Prop:=b<w.heap.size∧J b∧∀ id,(s.ob id).ag.j7=true→β id≠some b
structure FR (N:Nat) (w0:World) (J:JJ) (s:ab) (a:Act) (w:World) (β:Nat→Option Nat):Prop where
 size:a.tmps.size=N
 defers:a.defers=J.ds
 bn:Below w0.heap.size w0 w
 dL:∀ b,w0.heap.size≤b→J b∨J.K b
 slot:∀ d,VR w (aR J w β s) β s (a.tmps.getD d undef) (s.get d)
 di:∀ d id aa,(id,aa)∈(s.get d).hands→aa≤(s.ob id).aa
 obj:∀ id,(s.ob id).ag≠.dead→cu w w0.heap.size (aR J w β s) β s (β id) (s.ob id)
 inj:∀ id ba b,(s.ob id).ag≠.dead→(s.ob ba).ag≠.dead→β id=some b→β ba=some b→id=ba
 kept:∀ b,J.K b→b<w.heap.size∧(∀ id,(s.ob id).ag≠.dead→β id≠some b)∧w.heap[b]? = J.h0 b
 gh:∀ v f,J.gh v f→VR w (aR J w β s) β s v f∧∀ id aa,(id,aa)∈f.hands→Yh≤id∧aa≤(s.ob id).aa
theorem FR.fresh {N:Nat} {J:JJ} {s:ab} (h:FR N w0 J s a w β) (b:Nat) (hb:w0.heap.size≤b) (hx:w.heap.size≤b∨∃ id,(s.ob id).ag≠.dead∧β id=some b):J b:=by
 rcases h.dL b hb with h1|h1
 ·exact h1
 ·obtain ⟨k1,k2,_⟩:=h.kept b h1;rcases hx with hx|⟨id,hl,e⟩
  ·omega
  ·exact absurd e (k2 id hl)
theorem VP.mono {ob:yo} {o:Nat} (h:VP w aB ob v o n) (hb:∀ b,aB=some b→w'.heap[b]? = w.heap[b]?):VP w' aB ob v o n:=by
 obtain ⟨A,c,h1,h2,h3,h4,h5⟩:=h.ex;refine ⟨h.row,A,c,h1,h2,h3,h4,fun b aP=>?_⟩;obtain ⟨o',k1,k2,k3⟩:=h5 b aP;exact ⟨o',k1,k2,fun cur hc=>k3 cur (by rw [← hb b aP];exact hc)⟩
theorem uu {e:TypeId} {sz:Nat} (h:w.ownsRow base e sz v n xs) (hb:∀ b,v.ownBlock=some b→w'.heap[b]? = w.heap[b]?):w'.ownsRow base e sz v n xs:=by
 refine ⟨h.1,?_⟩;rcases h.2 with hn|⟨g,cap,cur,rfl,bP,dx,rest⟩
 ·exact .inl hn
 ·exact .inr ⟨g,cap,cur,rfl,bP,(hb g rfl).trans dx,rest⟩
theorem nk.mono {ob:yo} (h:nk w base I aB ob) (hI:∀ b,I b→I' b∧w'.heap[b]? = w.heap[b]?) (hb:∀ b,aB=some b→w'.heap[b]? = w.heap[b]?) :
  nk w' base I' aB ob:=by
 obtain ⟨v,us,h1,h2,h3⟩:=h.row;exact ⟨h.wide,h.one,v,us,uu h1 (fun b hv=>hb b (h2▸hv)),h2,h3.mono hI⟩
theorem ng.mono {ob:yo} (h:ng w base I aB ob) (hI:∀ b,I b→I' b∧w'.heap[b]? = w.heap[b]?) (hb:∀ b,aB=some b→w'.heap[b]? = w.heap[b]?) :
  ng w' base I' aB ob:=by
 obtain ⟨b,clock,au,h1,h2,h3,h4,h5,h6,h7⟩:=h.ex;exact ⟨b,clock,au,h1,h2,(hb b h1).trans h3,h4,h5,h6,fun j e row f a b c=>(h7 j e row f a b c).mono hI⟩
theorem YP.mono {ob:yo} (h:YP w aB ob) (hb:∀ b,aB=some b→w'.heap[b]? = w.heap[b]?):YP w' aB ob:=by
 unfold YP at h ⊢;cases hl:ob.ag with
 | roomy =>
  rw [hl] at h;obtain ⟨b,cur,h1,h2,h3⟩:=h;exact ⟨b,cur,h1,(hb b h1).trans h2,h3⟩
 | full =>
  rw [hl] at h;exact fun b cur h1 h2=>h b cur h1 ((hb b h1).symm.trans h2)
 | _ => trivial
theorem nj.mono {s s' : ab} {ob:yo} (h:nj w base I β s aB ob) (hb:∀ b,aB=some b→w'.heap[b]? = w.heap[b]?)
  (T:∀ v f,VR w I β s v f→(∀ id aa,(id,aa)∈f.hands→aa≤(s.ob id).aa)→VR w' I' aS s' v f) (hv:∀ id,(s.ob id).aa≤(s'.ob id).aa):nj w' base I' aS s' aB ob:=by
 obtain ⟨v,us,h1,h2,h3,h4⟩:=h.row;exact ⟨h.wide,fun f hf id aa e=>yT (h.di f hf id aa e) (hv id),v,us,uu h1 (fun b hv=>hb b (h2▸hv)),h2,h3,fun j u f hu hf=>T u f (h4 j u f hu hf) (h.di f (ya hf))⟩
theorem nc.mono {s s' : ab} {ob:yo} (h:nc w base I β s aB ob) (hb:∀ b,aB=some b→w'.heap[b]? = w.heap[b]?)
  (T:∀ v f,VR w I β s v f→(∀ id aa,(id,aa)∈f.hands→aa≤(s.ob id).aa)→VR w' I' aS s' v f) (hv:∀ id,(s.ob id).aa≤(s'.ob id).aa):nc w' base I' aS s' aB ob:=by
 obtain ⟨b,clock,au,h1,h2,h3,h4,h5,h6,h7⟩:=h.ex;exact ⟨fun f hf id aa e=>yT (h.di f hf id aa e) (hv id),b,clock,au,h1,h2,by rw [hb b h1];exact h3,h4,h5,h6,fun j e row f he hr hf=>T _ f (h7 j e row f he hr hf) (h.di f (yE.2 ⟨row,ya hr,ya hf⟩))⟩
theorem cu.mono {s s' : ab} {ob:yo} (h:cu w base I β s aB ob) (hI:∀ b,I b→I' b∧w'.heap[b]? = w.heap[b]?) (hb:∀ b,aB=some b→w'.heap[b]? = w.heap[b]?)
  (T:∀ v f,VR w I β s v f→(∀ id aa,(id,aa)∈f.hands→aa≤(s.ob id).aa)→VR w' I' aS s' v f) (hv:∀ id,(s.ob id).aa≤(s'.ob id).aa):cu w' base I' aS s' aB ob:=by
 cases hr:ob.ag.row with
 | true => exact .ofRow ((h.bA hr).mono hI hb) ((h.iu hr).mono hb) hr
 | false=>
  cases hs:ob.ag.bL with
  | true =>
   refine .rv ((h.iO hr hs).mono hb T hv) ?_;cases hl:ob.ag <;> rw [hl] at hr hs <;> first|rfl|(simp [xL.row,xL.bL] at hr hs;done)
  | false =>
   by_cases hm:ob.ag=.bH
   ·exact .oH ((h.mC hm).mono hb T hv) hm
   ·exact .ofMap ((h.iN hs hm).mono hI hb) hs hm
theorem cu.lt {s:ab} {ob:yo} (h:cu w base I β s aB ob) {b:Nat} (hb:aB=some b):base≤b∧b<w.heap.size:=by
 cases hr:ob.ag.row with
 | true =>
  obtain ⟨v,us,h1,h2,h3⟩:=(h.bA hr).row;exact h1.lt b (h2.trans hb)
 | false=>
  cases hs:ob.ag.bL with
  | true =>
   obtain ⟨v,us,h1,h2,h3⟩:=(h.iO hr hs).row;exact h1.lt b (h2.trans hb)
  | false =>
   obtain ⟨b',clock,au,h1,h2,h3⟩:=h.rp hs;rw [hb] at h1;injection h1 with h1
   subst h1;exact ⟨h2,(yy.1 h3).1⟩
theorem kX.mono {s s' : ab} {f:FV} (h:kX w I β s v f) (hI:∀ b,I b→I' b∧w'.heap[b]? = w.heap[b]?)
  (hh:∀ id aa,f.hand=some (id,aa)→(s'.ob id).ag≠.dead→(s'.ob id).aa=aa→(s.ob id).ag≠.dead∧(s.ob id).aa=aa∧aS id=β id∧(s'.ob id).sz=(s.ob id).sz∧(s'.ob id).ag.bL=(s.ob id).ag.bL∧
   ∀ v o n,VP w (β id) (s.ob id) v o n→VP w' (aS id) (s'.ob id) v o n):kX w' I' aS s' v f:=by
 cases f with
 | own id aa o n =>
  intro h1 h2;obtain ⟨k1,k2,_,_,_,k3⟩:=hh id aa rfl h1 h2;exact k3 v o n (h k1 k2)
 | ptr id aa i off =>
  intro h1 h2;obtain ⟨k1,k2,k3,k4,k5,_⟩:=hh id aa rfl h1 h2;obtain ⟨aJ,b,hb,hv⟩:=h k1 k2;exact ⟨by rw [k5];exact aJ,b,by rw [k3];exact hb,by rw [k4];exact hv⟩
 | omap id aa =>
  intro h1 h2;obtain ⟨k1,k2,k3,k4,k5,_⟩:=hh id aa rfl h1 h2;obtain ⟨aJ,b,hb,hv⟩:=h k1 k2;exact ⟨by rw [k5];exact aJ,b,by rw [k3];exact hb,hv⟩
 | _ => exact Rd.mono hI h
theorem VR.tU {s:ab} {f:FV} (h:kX w I β s v f):VR w I β s v f:=by
 cases f with
 | wrap k fs => have h' : Rd w I v (.wrap k fs) := h; cases h'
 | _ => exact h
theorem VR.rD {s:ab} {f:FV} (h:VR w I β s v f) (hw:∀ k fs,f≠.wrap k fs):kX w I β s v f:=by
 cases f with
 | wrap k fs => exact absurd rfl (hw k fs)
 | _ => exact h
theorem VR.mono {s s' : ab} {f:FV} (h:VR w I β s v f) (hI:∀ b,I b→I' b∧w'.heap[b]? = w.heap[b]?)
  (hh:∀ id aa,(id,aa)∈f.hands→(s'.ob id).ag≠.dead→(s'.ob id).aa=aa→(s.ob id).ag≠.dead∧(s.ob id).aa=aa∧aS id=β id∧(s'.ob id).sz=(s.ob id).sz∧(s'.ob id).ag.bL=(s.ob id).ag.bL∧
   ∀ v o n,VP w (β id) (s.ob id) v o n→VP w' (aS id) (s'.ob id) v o n):VR w' I' aS s' v f:=by
 have key:∀ g:FV,(∀ k fs,g≠.wrap k fs)→∀ id aa,g.hand=some (id,aa)→(id,aa)∈g.hands:=fun g hg id aa e=>by
  cases g with
  | wrap k fs => exact absurd rfl (hg k fs)
  | own|ptr|omap => simp only [FV.hand, zK] at e; rw [← e]; exact zP.2 rfl
  | _ => cases e
 by_cases hw:∃ k fs,f=.wrap k fs
 ·obtain ⟨k,fs,rfl⟩:=hw;obtain ⟨us,e,hl,hr⟩:=h;refine ⟨us,e,hl,fun j u g hu hg=>(hr j u g hu hg).mono hI fun id aa hf=>hh id aa ?_⟩;exact ZI.2 ⟨g,ya hg,hf⟩
 ·have hw' : ∀ k fs,f≠.wrap k fs:=fun k fs e=>hw ⟨k,fs,e⟩;exact VR.tU ((h.rD hw').mono hI fun id aa hf=>hh id aa (key f hw' id aa hf))
theorem VR.bu {s:ab} {f:FV} (h:Rd w I v f) (hf:f.hand=none):VR w I β s v f:=by
 cases f <;> first|exact h|(simp [FV.hand] at hf)
theorem VR.rd {s:ab} {f:FV} (h:VR w I β s v f) (hf:f.hand=none):Rd w I v f:=by
 cases f <;> first|exact h|(simp [FV.hand] at hf)
theorem FR.step {N:Nat} {w0 w w' : World} {J:JJ} {s s' : ab} {a a' : Act} {β aS : Nat→Option Nat} (h:FR N w0 J s a w β) (C:Nat→Prop)
  (size:a'.tmps.size=N) (defers:a'.defers=J.ds) (bn:Below w0.heap.size w0 w')
  (hI:∀ b,aR J w β s b→aR J w' aS s' b∧w'.heap[b]? = w.heap[b]?)
  (c6:∀ k,(a'.tmps.getD k undef=a.tmps.getD k undef∧s'.get k=s.get k)∨
   (VR w' (aR J w' aS s') aS s' (a'.tmps.getD k undef) (s'.get k)∧∀ id aa,(id,aa)∈(s'.get k).hands→aa≤(s'.ob id).aa))
  (cZ:∀ id,¬ C id→s'.ob id=s.ob id∧aS id=β id∧((s.ob id).ag≠.dead→∀ b,β id=some b→w'.heap[b]? = w.heap[b]?))
  (aH:∀ id,C id→(s.ob id).aa≤(s'.ob id).aa)
  (ou:∀ id,C id→(s'.ob id).ag≠.dead→(s'.ob id).aa=(s.ob id).aa→(s.ob id).ag≠.dead∧aS id=β id∧(s'.ob id).sz=(s.ob id).sz∧(s'.ob id).ag.bL=(s.ob id).ag.bL∧∀ v o n,VP w (β id) (s.ob id) v o n→VP w' (aS id) (s'.ob id) v o n)
  (kI:∀ id,C id→(s'.ob id).ag≠.dead→(∀ v f,VR w (aR J w β s) β s v f→(∀ id aa,(id,aa)∈f.hands→aa≤(s.ob id).aa)→VR w' (aR J w' aS s') aS s' v f)→cu w' w0.heap.size (aR J w' aS s') aS s' (aS id) (s'.ob id))
  (inj:∀ id ba b,(s'.ob id).ag≠.dead→(s'.ob ba).ag≠.dead→aS id=some b→aS ba=some b→id=ba)
  (hH:∀ b,b<w.heap.size→(∀ id,(s.ob id).ag≠.dead→β id≠some b)→w'.heap[b]? = w.heap[b]?∧∀ id,(s'.ob id).ag≠.dead→aS id≠some b):FR N w0 J s' a' w' aS:=by
 have T:∀ v f,VR w (aR J w β s) β s v f→(∀ id aa,(id,aa)∈f.hands→aa≤(s.ob id).aa)→VR w' (aR J w' aS s') aS s' v f:=fun v f hv hle=>by
  refine hv.mono hI fun id aa hf h1 h2=>?_;have hle:=hle id aa hf;by_cases hC:C id
  ·have:=aH id hC;have hv:(s'.ob id).aa=(s.ob id).aa:=by omega
   obtain ⟨k1,k2,k3,k4,k5⟩:=ou id hC h1 hv;exact ⟨k1,by omega,k2,k3,k4,k5⟩
  ·obtain ⟨e,e',hb⟩:=cZ id hC;rw [e] at h1 h2;refine ⟨h1,h2,e',by rw [e],by rw [e],fun v o n hv=>?_⟩;rw [e,e'];exact hv.mono (hb h1)
 have hv:∀ id,(s.ob id).aa≤(s'.ob id).aa:=fun id=>by
  by_cases hC:C id
  ·exact aH id hC
  ·rw [(cZ id hC).1];exact zf _
 refine { size:=size,defers:=defers,bn:=bn,dL:=h.dL,slot:=fun k=>?_,di:=fun k id aa hf=>?_,obj:=fun id hl=>?_,inj:=inj,
          kept:=fun b hb=>by
           obtain ⟨k1,k2,k3⟩:=h.kept b hb;obtain ⟨q1,q2⟩:=hH b k1 k2;have:w'.heap[b]? = some w.heap[b]:=q1.trans (by simp [k1]);exact ⟨(yy.1 this).1,q2,q1.trans k3⟩,
          gh:=fun v f hg=>⟨T v f (h.gh v f hg).1 fun id aa hf=>((h.gh v f hg).2 id aa hf).2,fun id aa hf=>⟨((h.gh v f hg).2 id aa hf).1,yT ((h.gh v f hg).2 id aa hf).2 (hv id)⟩⟩ }
 ·rcases c6 k with ⟨e1,e2⟩|⟨hv,_⟩
  ·rw [e1,e2];exact T _ _ (h.slot k) (h.di k)
  ·exact hv
 ·rcases c6 k with ⟨e1,e2⟩|⟨_,iq⟩
  ·rw [e2] at hf;exact yT (h.di k id aa hf) (hv id)
  ·exact iq id aa hf
 ·by_cases hC:C id
  ·exact kI id hC hl T
  ·obtain ⟨e,e',hb⟩:=cZ id hC;rw [e] at hl ⊢;rw [e'];exact (h.obj id hl).mono hI (hb hl) T hv
theorem Du (a:Act) (d:Nat) (v:Value) (k:Nat) (hd:d<a.tmps.size):(a.put (some d) v).tmps.getD k undef=if d=k then v else a.tmps.getD k undef:=by
 simp only [Act.put,YR,Array.getElem?_setIfInBounds];split
 ·rename_i h;subst h;simp
 ·rfl
theorem FR.put {N:Nat} {J:JJ} {s:ab} (h:FR N w0 J s a w β) {d:Nat} {f:FV} (hd:d<N) (hv:VR w (aR J w β s) β s v f)
  (aH:∀ id aa,(id,aa)∈f.hands→aa≤(s.ob id).aa):FR N w0 J (s.put d f) (a.put (some d) v) w β:=by
 refine h.step (C:=fun _=>False) (by simp [Act.put,h.size]) h.defers h.bn (fun b hb=>⟨hb,rfl⟩) (fun k=>?_) (fun id _=>⟨rfl,rfl,fun _ _ _=>rfl⟩) (fun _ h=>h.elim) (fun _ h=>h.elim) (fun _ h=>h.elim) h.inj (fun b _ hn=>⟨rfl,hn⟩);rw [Du a d v k (h.size▸hd),ab.ec];split
 ·exact .inr ⟨hv.mono (fun b hb=>⟨hb,rfl⟩) (fun id aa _ h1 h2=>⟨h1,h2,rfl,rfl,rfl,fun _ _ _ h=>h⟩),fun id aa hf=>aH id aa hf⟩
 ·exact .inl ⟨rfl,rfl⟩
theorem aR.grow {J:JJ} {s:ab} {b:Nat} (h:aR J w β s b) (hb:Below w.heap.size w w'):aR J w' β s b∧w'.heap[b]? = w.heap[b]?:=
 ⟨⟨xY h.1 hb.size,h.2⟩,hb.block b h.1⟩
theorem FR.grow {N:Nat} {J:JJ} {s:ab} (h:FR N w0 J s a w β) (hb:Below w.heap.size w w'):FR N w0 J s a w' β:=by
 refine h.step (C:=fun _=>False) h.size h.defers (h.bn.trans (hb.mono h.bn.size)) (fun b aP=>aP.grow hb) (fun k=>.inl ⟨rfl,rfl⟩) (fun id _=>⟨rfl,rfl,fun hl b e=>?_⟩) (fun _ h=>h.elim) (fun _ h=>h.elim) (fun _ h=>h.elim) h.inj (fun b aD hn=>⟨hb.block b aD,hn⟩);exact hb.block b ((h.obj id hl).lt e).2
def XZ (β:Nat→Option Nat) (j:Nat) (x:Option Nat):Nat→Option Nat:=fun k=>if k=j then x else β k
theorem FR.make {N:Nat} {J:JJ} {s:ab} (h:FR N w0 J s a w β) (i:Option Nat) (j:Nat) {E sz:Nat} {es:List (List FV)}
  (hi:∀ k,i=some k→(s.ob k).ag.j7=true) (hg:w.grownBy w' (i.bind β)) (hw:∀ e∈es,e.length=sz) (ho:∀ f∈es.flatten,f.one=true) (hv:w'.ownsRow w0.heap.size E sz v es.length xs) (hr:ay w (aR J w β s) xs es.flatten)
  (hb:(v.ownBlock=i.bind β)∨v.ownBlock=none∨∃ b,v.ownBlock=some b∧w.heap.size≤b) {s' : ab}
  (hs:∀ k,s'.ob k=if j=k then ⟨(s.ob j).aa+1,.own,E,sz,es⟩ else if i=some k then { s.ob k with ag:=.dead } else s.ob k) (br:∀ k,s'.get k=s.get k) :
  FR N w0 J s' a w' (XZ β j v.ownBlock):=by
 have iH:∀ k,i.bind β=some k→w0.heap.size≤k:=fun k hk=>by
  cases i with
  | none => simp at hk
  | some i => exact ((h.obj i (xL.bo (hi i rfl))).lt (by simpa using hk)).1
 have aZ:∀ b,aR J w β s b→some b≠i.bind β:=fun b aP e=>by
  cases i with
  | none => simp at e
  | some i => exact aP.2.2 i (hi i rfl) (by simpa using e.symm)
 have hI:∀ b,aR J w β s b→aR J w' (XZ β j v.ownBlock) s' b∧w'.heap[b]? = w.heap[b]?:=fun b aP=>by
  refine ⟨⟨xY aP.1 hg.size,aP.2.1,fun id hl=>?_⟩,hg.block b aP.1 (aZ b aP)⟩;rw [hs] at hl;unfold XZ;by_cases hj:j=id
  ·rw [if_pos hj.symm];rcases hb with e|e|⟨b',e,ij⟩
   ·rw [e];exact fun e2=>aZ b aP e2.symm
   ·rw [e];simp
   ·rw [e];intro e2;injection e2 with e2;have:=aP.1;omega
  ·rw [if_neg hj] at hl;rw [if_neg (fun e=>hj e.symm)];by_cases ef:i=some id
   ·rw [if_pos ef] at hl;cases hl
   ·rw [if_neg ef] at hl;exact aP.2.2 id hl
 have bh:∀ id b,id≠j→i≠some id→(s.ob id).ag≠.dead→β id=some b→b<w.heap.size∧w'.heap[b]? = w.heap[b]?∧v.ownBlock≠some b:=fun id b hj ef hl aP=>by
  have aD:=((h.obj id hl).lt aP).2;have oa:some b≠i.bind β:=fun e=>by
   cases i with
   | none => simp at e
   | some i =>
    have:=h.inj id i b hl (xL.bo (hi i rfl)) aP (by simpa using e.symm);exact ef (by rw [this])
  refine ⟨aD,hg.block b aD oa,?_⟩;rcases hb with e|e|⟨b',e,ij⟩
  ·rw [e];exact fun e2=>oa e2.symm
  ·rw [e];simp
  ·rw [e];intro e2;injection e2 with e2;omega
 refine h.step (C:=fun id=>id=j∨i=some id) h.size h.defers (h.bn.grown hg h.bn.size iH) hI (fun k=>.inl ⟨rfl,br k⟩) (fun id hC=>?_) (fun id hC=>?_) (fun id hC hl fF=>?_) (fun id hC hl _=>?_) ?_ ?_
 ·have hj:¬ id=j:=fun e=>hC (.inl e);have ef:¬ i=some id:=fun e=>hC (.inr e);refine ⟨by rw [hs,if_neg (fun e=>hj e.symm),if_neg ef],by unfold XZ;rw [if_neg hj],fun hl b aP=>(bh id b hj ef hl aP).2.1⟩
 ·rw [hs];split
  ·rename_i e;subst e;simp
  ·split <;> simp
 ·rw [hs] at hl fF;split at hl
  ·rename_i e;rw [if_pos e] at fF;subst e;simp at fF
  ·rename_i e;rcases hC with hC|hC
   ·exact absurd hC.symm e
   ·rw [if_pos hC] at hl;simp at hl
 ·rw [hs] at hl ⊢;split at hl
  ·rename_i e;subst e;rw [if_pos rfl];unfold XZ;rw [if_pos rfl];exact .ofRow ⟨hw,ho,v,xs,hv,rfl,hr.mono hI⟩ (.own rfl) rfl
  ·rename_i e;rcases hC with hC|hC
   ·exact absurd hC.symm e
   ·rw [if_pos hC] at hl;simp at hl
 ·intro id ba b hl bw e e';unfold XZ at e e';rw [hs] at hl bw;by_cases hj:id=j
  ·by_cases ko : ba=j
   ·rw [hj,ko]
   ·rw [if_pos hj] at e;rw [if_neg ko] at e';rw [if_neg (fun e=>ko e.symm)] at bw;by_cases ef:i=some ba
    ·rw [if_pos ef] at bw;simp at bw
    ·rw [if_neg ef] at bw;exact absurd e (bh ba b ko ef bw e').2.2
  ·rw [if_neg hj] at e;rw [if_neg (fun e=>hj e.symm)] at hl;have ef:¬ i=some id:=fun ef=>by rw [if_pos ef] at hl;simp at hl
   rw [if_neg ef] at hl;by_cases ko : ba=j
   ·rw [if_pos ko] at e';exact absurd e' (bh id b hj ef hl e).2.2
   ·rw [if_neg ko] at e';rw [if_neg (fun e=>ko e.symm)] at bw;have qy : ¬ i=some ba:=fun ef=>by rw [if_pos ef] at bw;simp at bw
    rw [if_neg qy] at bw;exact h.inj id ba b hl bw e e'
 ·intro b aD hn;have oa:some b≠i.bind β:=fun e=>by
   cases i with
   | none => simp at e
   | some i => exact hn i (xL.bo (hi i rfl)) (by simpa using e.symm)
  refine ⟨hg.block b aD oa,fun id hl e=>?_⟩;unfold XZ at e;rw [hs] at hl;by_cases hj:id=j
  ·rw [if_pos hj] at e;rcases hb with e2|e2|⟨b',e2,ij⟩
   ·rw [e2] at e;exact oa e.symm
   ·rw [e2] at e;simp at e
   ·rw [e2] at e;injection e with e;omega
  ·rw [if_neg hj] at e;rw [if_neg (fun e=>hj e.symm)] at hl;have ef:¬ i=some id:=fun ef=>by rw [if_pos ef] at hl;simp at hl
   rw [if_neg ef] at hl;exact hn id hl e
theorem FR.write {N:Nat} {J:JJ} {s:ab} (h:FR N w0 J s a w β) (i:Nat) {es:List (List FV)}
  (hi:(s.ob i).ag=.own) (hg:w.grownBy w' (β i)) (hw:∀ e∈es,e.length=(s.ob i).sz) (ho:∀ f∈es.flatten,f.one=true) (hv:w'.ownsRow w0.heap.size (s.ob i).E (s.ob i).sz v es.length xs) (rh:v.ownBlock=β i)
  (hr:ay w (aR J w β s) xs es.flatten) (hl:es.length=(s.ob i).es.length) (az:∀ b cur eK,β i=some b→w.heap[b]? = some (.cells cur (s.ob i).E (0,0))→w'.heap[b]? = some (.cells eK (s.ob i).E (0,0))→eK.size=cur.size)
  {s' : ab} (hs:∀ k,s'.ob k=if i=k then { s.ob i with es:=es } else s.ob k) (br:∀ k,s'.get k=s.get k):FR N w0 J s' a w' β:=by
 have lj:(s.ob i).ag≠.dead:=by rw [hi];decide
 have hI:∀ b,aR J w β s b→aR J w' β s' b∧w'.heap[b]? = w.heap[b]?:=fun b aP=>by
  refine ⟨⟨xY aP.1 hg.size,aP.2.1,fun id hl=>?_⟩,hg.block b aP.1 (fun e=>aP.2.2 i (by rw [hi];rfl) e.symm)⟩;rw [hs] at hl;split at hl
  ·rename_i e;subst e;exact aP.2.2 i (by rw [hi];rfl)
  ·exact aP.2.2 id hl
 refine h.step (C:=fun id=>id=i) h.size h.defers (h.bn.grown hg h.bn.size fun k hk=>((h.obj i lj).lt hk).1) hI (fun k=>.inl ⟨rfl,br k⟩) (fun id hC=>?_) (fun id hC=>?_) (fun id hC bC fF=>?_) (fun id hC bC T=>?_) ?_ ?_
 ·refine ⟨by rw [hs,if_neg (fun e=>hC e.symm)],rfl,fun bC b aP=>hg.block b ((h.obj id bC).lt aP).2 (fun e=>hC (h.inj id i b bC lj aP e.symm))⟩
 ·subst hC;rw [hs,if_pos rfl];exact zf _
 ·subst hC;refine ⟨lj,rfl,by rw [hs,if_pos rfl],by rw [hs,if_pos rfl],fun v2 o n lC=>?_⟩;rw [hs,if_pos rfl];obtain ⟨A,c,h1,h2,h3,h4,h5⟩:=lC.ex;refine ⟨lC.row,A,c,h1,h2,by dsimp only;omega,h4,fun b aP=>?_⟩;obtain ⟨o',k1,k2,k3⟩:=h5 b aP;refine ⟨o',k1,k2,fun eK eR=>?_⟩;obtain ⟨v0,E9,r1,r2,r3⟩:=((h.obj id lj).bA (by rw [hi];rfl)).row;rcases r1.2 with ⟨rfl,_⟩|⟨g,cap,cur,rfl,_,dx,_⟩
  ·rw [← r2] at aP;simp [Value.ownBlock] at aP
  ·have jD:g=b:=by rw [← r2] at aP;simpa [Value.ownBlock] using aP
   subst jD;rw [az g cur eK aP dx eR];exact k3 cur dx
 ·subst hC;rw [hs,if_pos rfl];exact .ofRow ⟨hw,ho,v,xs,hv,rh,hr.mono hI⟩ (.own hi) (by show (s.ob id).ag.row=true;rw [hi];rfl)
 ·intro id ba b bC dO e e';refine h.inj id ba b ?_ ?_ e e'
  ·rw [hs] at bC;split at bC
   ·rename_i e;subst e;exact lj
   ·exact bC
  ·rw [hs] at dO;split at dO
   ·rename_i e;subst e;exact lj
   ·exact dO
 ·intro b aD hn;refine ⟨hg.block b aD (fun e=>hn i lj e.symm),fun id bC=>hn id ?_⟩;rw [hs] at bC;split at bC
  ·rename_i e;subst e;exact lj
  ·exact bC
theorem FR.j5 {N:Nat} {J:JJ} {s:ab} (h:FR N w0 J s a w β) (i:Nat) (l:xL) (kq:l.j7=true→(s.ob i).ag.j7=true) (hd:(s.ob i).ag=.dead→l=.dead) (lA:l≠.dead→l.bL=(s.ob i).ag.bL)
  {s' : ab} (hs:∀ k,s'.ob k=if i=k then { s.ob i with ag:=l } else s.ob k) (br:∀ k,s'.get k=s.get k)
  (x8:l≠.dead→cu w w0.heap.size (aR J w β s') β s' (β i) (s.ob i)→cu w w0.heap.size (aR J w β s') β s' (β i) { s.ob i with ag:=l }):FR N w0 J s' a w β:=by
 have eM:∀ id,(s'.ob id).ag≠.dead→(s.ob id).ag≠.dead:=fun id hl=>by
  rw [hs] at hl;split at hl
  ·rename_i e;subst e;exact fun e=>hl (hd e)
  ·exact hl
 have hI:∀ b,aR J w β s b→aR J w β s' b∧w.heap[b]? = w.heap[b]?:=fun b aP=>by
  refine ⟨⟨aP.1,aP.2.1,fun id hl=>?_⟩,rfl⟩;rw [hs] at hl;split at hl
  ·rename_i e;subst e;exact aP.2.2 i (kq hl)
  ·exact aP.2.2 id hl
 have hv:∀ id,(s.ob id).aa≤(s'.ob id).aa:=fun id=>by
  rw [hs];split
  ·rename_i e;subst e;exact zf _
  ·exact zf _
 refine h.step (C:=fun id=>id=i) h.size h.defers h.bn hI (fun k=>.inl ⟨rfl,br k⟩) (fun id hC=>?_) (fun id hC=>hv id) (fun id hC bC fF=>?_) (fun id hC bC T=>?_) ?_ (fun b _ hn=>⟨rfl,fun id bC=>hn id (eM id bC)⟩)
 ·exact ⟨by rw [hs,if_neg (fun e=>hC e.symm)],rfl,fun _ _ _=>rfl⟩
 ·have mY:=eM id bC;subst hC;rw [hs,if_pos rfl] at bC;have bl:=lA bC;refine ⟨mY,rfl,by rw [hs,if_pos rfl],by rw [hs,if_pos rfl];exact bl,fun v2 o n lC=>?_⟩;rw [hs,if_pos rfl];exact ⟨bl.trans lC.row,lC.ex⟩
 ·have mY:=eM id bC;subst hC;have ho:=(h.obj id mY).mono hI (fun _ _=>rfl) T hv;rw [hs,if_pos rfl] at bC ⊢;exact x8 bC ho
 ·intro id ba b bC dO e e';exact h.inj id ba b (eM id bC) (eM ba dO) e e'
inductive TK where
 | other|any|int (k:IntKind)|bool|str|slice (e:Nat)|aw (fs:List (Nat × Nat))|arr (n e:Nat)|map (k e:Nat)
 deriving Inhabited
def TK.aW:TK→Option Bool
 | .aw _|.arr _ _ => some true
 | .int _|.bool|.str|.slice _|.map _ _|.any => some false
 | .other => none
structure TS where
 k:TK:=.other
 size:Nat:=0
 bytes:Nat:=0
 zero:List FV:=[]
 deriving Inhabited
def xv:Value→FV→Bool
 | .int k n, .int k' n' => decide (k=k') && decide (n=n')
 | .bool a, .bool b => a == b
 | .string s, .str s' => s.size == 0 && s'.size == 0
 | .slice none 0 0, .nil => true
 | .map none, .bW => true
 | .nilFunc, .ao => true
 | _, .undef => true
 | _, _ => false
def Zm:List Value→List FV→Bool
 | [], [] => true
 | v :: vs, f :: fs => xv v f && Zm vs fs
 | _, _ => false
def xI (P:Program) (d:TypeDesc) (k:TK):Bool:=
 match k,d with
 | .other, _ => true
 | .any, .struct _ => false
 | .any, .array _ _ => false
 | .any, _ => true
 | .int k, .int k' => decide (k=k')
 | .bool, .bool => true
 | .str, .string => true
 | .slice e, .slice e' => decide (e=e')
 | .aw fs, .struct gs => decide (fs=gs.toList.map fun f => (f.offset, f.type)) && gs.toList.all fun f => decide (f.name ≠ "_")
 | .arr n e, .array n' e' => decide (n=n') && decide (e=e')
 | .map k e, .map k' e' => decide (k=k') && decide (e=e')
 | _, _ => false
def sx (k:TK) (z:Value):Bool:=
 match k.aW with
 | some true => match z with|.agg _ => true|_ => false
 | some false => match z with|.agg _ => false|_ => true
 | none => true
def Xc (P:Program) (T:Nat) (ts:TS):Bool:=
 match P.underlying T,P.info? T with
 | some d,some i=>
  xI P d ts.k && decide (i.size=ts.size) && decide (i.bytes=ts.bytes) && decide (ts.zero.length=ts.size) &&
   (match i.zero with|some z=>Zm z.cells.toList ts.zero && sx ts.k z|none=>false)
 | _, _ => false
structure vD (P:Program) (T:Nat) (ts:TS) (d:TypeDesc) (i:TypeInfo) (z:Value):Prop where
 u:P.underlying T=some d
 k:xI P d ts.k=true
 info:P.info? T=some i
 size:i.size=ts.size
 bytes:i.bytes=ts.bytes
 zo:i.zero=some z
 zl:ts.zero.length=ts.size
 zr:Zm z.cells.toList ts.zero=true
 zk:sx ts.k z=true
theorem C6 {P:Program} {T:Nat} {ts:TS} (h:Xc P T ts=true):∃ d i z,vD P T ts d i z:=by
 unfold Xc at h;cases hu:P.underlying T with
 | none => rw [hu] at h; cases h
 | some d=>
  cases hi:P.info? T with
  | none => rw [hu, hi] at h; cases h
  | some i=>
   rw [hu,hi] at h;simp only [zA,decide_eq_true_eq] at h;obtain ⟨⟨⟨⟨h1,h2⟩,h3⟩,h4⟩,h5⟩:=h;cases hz:i.zero with
   | none => rw [hz] at h5; cases h5
   | some z =>
    rw [hz] at h5;simp only [zA] at h5;exact ⟨d,i,z,hu,h1,hi,h2,h3,hz,h4,h5.1,h5.2⟩
structure Ctx where
 P:Program
 N:Nat
 ty:Nat→TS
 ok:∀ T,(match (ty T).k with|.other=>true|_=>Xc P T (ty T))=true
 mixed:P.follows .mixedOrders=true
theorem Ctx.get (c:Ctx) {T:Nat} {k:TK} (h:(c.ty T).k=k) (hk:k≠.other):∃ d i z,vD c.P T (c.ty T) d i z:=by
 refine C6 ?_;have:=c.ok T;cases k <;> first|exact absurd rfl hk|(rw [h] at this;exact this)
theorem Rd.zero {f:FV} (h:xv v f=true):Rd w I v f:=by
 cases f with
 | undef => exact .undef v
 | int k n =>
  cases v <;> simp [xv] at h
  obtain ⟨rfl,rfl⟩:=h;exact .int _ _
 | bool b =>
  cases v <;> simp [xv] at h
  subst h;exact .bool _
 | str s =>
  cases v <;> simp [xv] at h
  rename_i t;have e:t=s:=by rw [h.1,h.2]
  subst e;exact .str _
 | nil=>
  cases v with
  | slice a n c =>
   cases a with
   | none => cases n <;> cases c <;> first|exact .nil|(simp [xv] at h)
   | some a => simp [xv] at h
  | _ => simp [xv] at h
 | bW=>
  cases v with
  | map a =>
   cases a with
   | none => exact .bW
   | some a => simp [xv] at h
  | _ => simp [xv] at h
 | ao =>
  cases v with
  | nilFunc => exact .ao
  | _ => simp [xv] at h
 | _ => cases v <;> first|(simp [xv] at h; done)|(rename_i a n c; cases a <;> cases n <;> cases c <;> simp [xv] at h)
theorem ay.zeros {w:World} {I:Nat→Prop}:∀ {vs:List Value} {fs:List FV},Zm vs fs=true→ay w I vs fs
 | [], [], _ => ay.nil
 | [], _ :: _, h => by simp [Zm] at h
 | _ :: _, [], h => by simp [Zm] at h
 | v :: vs, f :: fs, h => by
  simp only [Zm,zA] at h;exact ay.cons (Rd.zero h.1) (ay.zeros h.2)
def dr:Value→FV
 | .int k n => .int k n
 | .bool b => .bool b
 | .string s => .str s
 | .slice none 0 0 => .nil
 | .map none => .bW
 | _ => .undef
def fc:Value→FV
 | .agg cs => .agg (cs.toList.map dr)
 | v => dr v
theorem Rd.dr (v:Value):Rd w I v (dr v):=by
 unfold YtedkppfghdipdaaGreatDoor.dr;split <;> first|exact .int _ _|exact .bool _|exact .str _|exact .nil|exact .bW|exact .undef _
theorem Rd.fc (v:Value):Rd w I v (fc v):=by
 unfold YtedkppfghdipdaaGreatDoor.fc;split
 ·rename_i cs;have:=Rd.agg (w:=w) (I:=I) cs.toList (cs.toList.map YtedkppfghdipdaaGreatDoor.dr) zd (fun j u f hu hf=>by
   rw [xy,hu] at hf;simp only [xG,zK] at hf;subst hf;exact Rd.dr u)
  simpa using this
 ·exact Rd.dr v
theorem ua (v:Value):(fc v).hand=none:=by
 unfold fc;split
 ·rfl
 ·unfold dr;split <;> rfl
def ab.ev (s:ab):Operand→FV
 | .tmp t => s.get t
 | .const v => fc v
 | .func f => .fn f []
 | _ => .undef
section
variable {N:Nat} {w0 w:World} {J:JJ} {s:ab} {a:Act} {β:Nat→Option Nat}
theorem FR.ev (h:FR N w0 J s a w β) (x:Operand):VR w (aR J w β s) β s (a.eval x) (s.ev x):=by
 cases x with
 | tmp t => exact h.slot t
 | const v =>
  exact VR.bu (Rd.fc v) (ua v)
 | global g => exact Rd.undef _
 | func f => exact VR.bu (Rd.fn f [] [] rfl zd) rfl
theorem FR.cE (h:FR N w0 J s a w β) (x:Operand) {id aa:Nat} (hf:(id,aa)∈(s.ev x).hands):aa≤(s.ob id).aa:=by
 cases x with
 | tmp t => exact h.di t id aa hf
 | const v =>
  rw [ab.ev] at hf;exact (FV.bf (ua _) hf).elim
 | global g => simp [ab.ev, FV.hands] at hf
 | func f => simp [ab.ev, FV.hands] at hf
theorem FR.aX (h:FR N w0 J s a w β) {k:IntKind} {n:Int} (e:s.ev x=.int k n):a.eval x=.int k n:=by
 have:=h.ev x;rw [e] at this;have:=VR.rd this rfl;generalize a.eval x=v at this;cases this;rfl
theorem FR.cL (h:FR N w0 J s a w β) (e:s.ev x=.bool b):a.eval x=.bool b:=by
 have:=h.ev x;rw [e] at this;have:=VR.rd this rfl;generalize a.eval x=v at this;cases this;rfl
theorem FR.cD (h:FR N w0 J s a w β) (e:s.ev x=.nil):a.eval x=.slice none 0 0:=by
 have:=h.ev x;rw [e] at this;have:=VR.rd this rfl;generalize a.eval x=v at this;cases this;rfl
theorem FR.a9 (h:FR N w0 J s a w β) {f:FV} (e:s.ev x=f) (hf:f.hand=none):Rd w (aR J w β s) (a.eval x) f:=by
 have:=h.ev x;rw [e] at this;exact VR.rd this hf
theorem FR.bx (h:FR N w0 J s a w β) {id aa o:Nat} (e:s.ev x=.own id aa o n) (hl:(s.ob id).ag≠.dead) (hv:(s.ob id).aa=aa):VP w (β id) (s.ob id) (a.eval x) o n:=by
 have:=h.ev x;rw [e] at this;exact this hl hv
theorem FR.cb (h:FR N w0 J s a w β) {id aa i:Nat} (e:s.ev x=.ptr id aa i off) (hl:(s.ob id).ag≠.dead) (hv:(s.ob id).aa=aa):(s.ob id).ag.bL=true∧∃ b,β id=some b∧a.eval x=.pointer (some ⟨b,i * (s.ob id).sz+off,none⟩):=by
 have:=h.ev x;rw [e] at this;exact this hl hv
theorem FR.fe (h:FR N w0 J s a w β) {id aa:Nat} (e:s.ev x=.omap id aa) (hl:(s.ob id).ag≠.dead) (hv:(s.ob id).aa=aa):(s.ob id).ag.bL=false∧∃ b,β id=some b∧a.eval x=.map (some b):=by
 have:=h.ev x;rw [e] at this;exact this hl hv
end
def cr:BinOp→IntKind→Int→Int→Option FV
 | .add, k, a, b => some (.int k (k.wrap (a+b)))
 | .sub, k, a, b => some (.int k (k.wrap (a - b)))
 | .mul, k, a, b => some (.int k (k.wrap (a * b)))
 | .eql, _, a, b => some (.bool (a == b))
 | .neq, _, a, b => some (.bool (a != b))
 | .lss, _, a, b => some (.bool (decide (a<b)))
 | .leq, _, a, b => some (.bool (decide (a ≤ b)))
 | .gtr, _, a, b => some (.bool (decide (a > b)))
 | .geq, _, a, b => some (.bool (decide (a ≥ b)))
 | .and, k, a, b => some (.int k (k.wrap (BitVec.ofInt k.bits a &&& BitVec.ofInt k.bits b).toNat))
 | .or, k, a, b => some (.int k (k.wrap (BitVec.ofInt k.bits a ||| BitVec.ofInt k.bits b).toNat))
 | _, _, _, _ => none
section
variable {N:Nat} {w0 w:World} {J:JJ} {s:ab} {a:Act} {β:Nat→Option Nat} {P:Program}
theorem D8 (op:BinOp) (T T2:TypeId) (x y:Operand) {k:IntKind} {n:Int} {f:FV} (ex:a.eval x=.int k m) (ey:a.eval y=.int k n) (hf:cr op k m n=some f) (dst:Option Nat) (ty:TypeId) (pos:String) (after:Array Edge) (g:Option (Nat×Bool)) (I:Nat→Prop) :
  ∃ v,(execOp a.eval ⟨dst,.binOp op T x y T2,ty,pos,after,g⟩).run P w=.ok (.value v) w∧Rd w I v f∧f.hand=none:=by
 cases op <;> simp only [cr,zK,reduceCtorEq] at hf <;> subst hf <;>
  simp [execOp,eqGuard,binOp,ex,ey,Op.intArith,Op.intCmp,Op.intBits,FV.hand] <;> first|exact .int _ _|exact .bool _
theorem DM (op:BinOp) (T T2:TypeId) (x y:Operand) {k yk:IntKind} {n:Int} (ex:a.eval x=.int k m) (ey:a.eval y=.int yk n) (hn:0≤n) (bM:op=.shl∨op=.shr) (dst:Option Nat) (ty:TypeId) (pos:String) (after:Array Edge) (g:Option (Nat×Bool)) :
  (execOp a.eval ⟨dst,.binOp op T x y T2,ty,pos,after,g⟩).run P w=.ok (.value (.int k (if op=.shl then k.wrap (m * 2 ^ (min n.toNat k.bits)) else m.fdiv (2 ^ (min n.toNat k.bits))))) w:=by
 have m0 : ¬ n<0:=by omega
 rcases bM with rfl|rfl <;> simp [execOp,eqGuard,binOp,ex,ey,Op.shift,m0]
theorem D9 (op:BinOp) (T T2:TypeId) (x y:Operand) {k:IntKind} {n:Int} (ex:a.eval x=.int k m) (ey:a.eval y=.int k n) (hn:n≠0) (bM:op=.quo∨op=.rem) (dst:Option Nat) (ty:TypeId) (pos:String) (after:Array Edge) (g:Option (Nat×Bool)) :
  (execOp a.eval ⟨dst,.binOp op T x y T2,ty,pos,after,g⟩).run P w=.ok (.value (.int k (if op=.quo then k.wrap (m.tdiv n) else m.tmod n))) w:=by
 rcases bM with rfl|rfl <;> simp [execOp,eqGuard,binOp,ex,ey,Op.intDiv,hn]
theorem De (op:BinOp) {T:TypeId} (x y:Operand) {m n:Bool} (hT:P.underlying T=some .bool) (ex:a.eval x=.bool m) (ey:a.eval y=.bool n) (bM:op=.eql∨op=.neq) (dst:Option Nat) (ty:TypeId) (pos:String) (after:Array Edge) (g:Option (Nat×Bool)) :
  (execOp a.eval ⟨dst,.binOp op T x y T2,ty,pos,after,g⟩).run P w=.ok (.value (.bool (if op=.eql then m == n else m != n))) w:=by
 have h1:∀ op:BinOp,(eqGuard op T x y (.bool m) (.bool n)).run P w=.ok () w:=fun op=>by cases op <;> simp [eqGuard]
 have h2:=run_equal_bool (P:=P) w T m n hT;rcases bM with rfl|rfl
 ·have e:binOp .eql T (.bool m) (.bool n)=(do pure (.bool (← Op.equal T (.bool m) (.bool n)))):=rfl;simp only [execOp,ex,ey,e,yV,Result.andThen,h1,h2,yW,if_true]
 ·have e:binOp .neq T (.bool m) (.bool n)=(do pure (.bool (!(← Op.equal T (.bool m) (.bool n))))):=rfl;simp only [execOp,ex,ey,e,yV,Result.andThen,h1,h2,yW,bne];rfl
end
theorem yL (b o n:Nat):(⟨b,o,none⟩:Addr).add n=⟨b,o+n,none⟩:=by
 unfold Addr.add;split
 ·rename_i h;subst h;rfl
 ·rfl
def Zn (ts:TS) (cs:List FV):FV:=
 match ts.k.aW with
 | some true => .agg (cs.take ts.size)
 | _ => cs.headD .undef
theorem yc {P:Program} {e:Nat} (h:xI P d (.slice e)=true):d=.slice e:=by
 cases d <;> simp [xI] at h
 subst h;rfl
theorem rM {P:Program} {e:Nat} (h:xI P d (.arr n e)=true):d=.array n e:=by
 cases d <;> simp [xI] at h
 obtain ⟨rfl,rfl⟩:=h;rfl
theorem rN {P:Program} {e:Nat} (h:xI P d (.map n e)=true):d=.map n e:=by
 cases d <;> simp [xI] at h
 obtain ⟨rfl,rfl⟩:=h;rfl
theorem uT {P:Program} {k:IntKind} (h:xI P d (.int k)=true):d=.int k:=by
 cases d <;> simp [xI] at h
 subst h;rfl
theorem tY {P:Program} (h:xI P d .bool=true):d=.bool:=by
 cases d <;> first|rfl|(simp [xI] at h)
theorem C9 {P:Program} (h:xI P d .str=true):d=.string:=by
 cases d <;> first|rfl|(simp [xI] at h)
theorem YE {P:Program} (h:xI P d (.aw fs)=true):∃ gs,d=.struct gs∧fs=gs.toList.map (fun f=>(f.offset,f.type))∧∀ f∈gs.toList,f.name≠"_":=by
 cases d <;> simp [xI] at h
 rename_i gs;refine ⟨gs,rfl,h.1,fun f hf=>?_⟩;obtain ⟨i,hi,rfl⟩:=yr hf;have:=h.2 i (by simpa using hi);simpa using this
theorem XM {c:Ctx} {T:Nat} (hk:(c.ty T).k.aW = some b) (w:World):(isAgg T).run c.P w=.ok b w:=by
 cases gC:(c.ty T).k with
 | other => rw [gC] at hk; cases hk
 | any =>
  obtain ⟨d,i,z,h⟩:=c.get gC zd;have hd:=h.k;rw [gC] at hd hk;simp only [TK.aW,zK] at hk;subst hk;cases d <;> first|(simp [xI] at hd;done)|simp [isAgg,run_underlying h.u]
 | _=>
  obtain ⟨d,i,z,h⟩:=c.get gC zd;have hd:=h.k;rw [gC] at hd hk
  first
   | (obtain ⟨gs, rfl, _⟩ := YE hd; simp only [TK.aW, zK] at hk; subst hk; simp [isAgg, run_underlying h.u])
   | (obtain rfl := rM hd; simp only [TK.aW, zK] at hk; subst hk; simp [isAgg, run_underlying h.u])
   | (obtain rfl := uT hd; simp only [TK.aW, zK] at hk; subst hk; simp [isAgg, run_underlying h.u])
   | (obtain rfl := tY hd; simp only [TK.aW, zK] at hk; subst hk; simp [isAgg, run_underlying h.u])
   | (obtain rfl := C9 hd; simp only [TK.aW, zK] at hk; subst hk; simp [isAgg, run_underlying h.u])
   | (obtain rfl := yc hd; simp only [TK.aW, zK] at hk; subst hk; simp [isAgg, run_underlying h.u])
   | (obtain rfl := rN hd; simp only [TK.aW, zK] at hk; subst hk; simp [isAgg, run_underlying h.u])
theorem vg {k:TK} (h:k.aW = some b):k≠.other:=by rintro rfl;cases h
theorem yF {c:Ctx} {T:Nat} (hk:(c.ty T).k≠.other) (w:World):(sizeOf T).run c.P w=.ok (c.ty T).size w:=by
 obtain ⟨d,i,z,h⟩:=c.get rfl hk;simp [sizeOf,typeInfo,h.info,h.size]
theorem ZV {c:Ctx} {T:Nat} (hk:(c.ty T).k≠.other) (w:World):∃ z,(zeroValue T).run c.P w=.ok z w∧Zm z.cells.toList (c.ty T).zero=true∧z.cells.size=(c.ty T).size:=by
 obtain ⟨d,i,z,h⟩:=c.get rfl hk;refine ⟨z,by simp [zeroValue,typeInfo,h.info,h.zo],h.zr,?_⟩;have:=(ay.zeros (w:=w) (I:=fun _=>True) h.zr).1;rw [h.zl] at this;simpa using this
theorem Xa {c:Ctx} {T:Nat} (hk:(c.ty T).k.aW = some bb) (w:World) (b o:Nat) (us:List Value) (hl:(c.ty T).size≤us.length) (h1:bb=false→0<us.length)
  (hc:∀ (j:Nat) u,us[j]? = some u→w.cell? ⟨b,o+j,none⟩=some u) {fs:List FV} (hr:ay w I us fs) :
  ∃ v,(loadVar T ⟨b,o,none⟩).run c.P w=.ok v w∧Rd w I v (Zn (c.ty T) fs):=by
 cases bb with
 | true=>
  refine ⟨.agg (us.take (c.ty T).size).toArray,?_,?_⟩
  ·have hs:=yF (vg hk) w;have qE:=run_loadCells_list (P:=c.P) (w:=w) ⟨b,o,none⟩ (us.take (c.ty T).size) (fun j v hv=>by
    rw [yL];rw [yD] at hv;split at hv
    ·exact hc j v hv
    ·cases hv)
   rw [yf,yU hl] at qE;simp [loadVar,XM hk,hs,qE]
  ·unfold Zn;rw [hk];have:=hr.take (c.ty T).size;exact .agg _ _ this.1 this.2
 | false=>
  have h0:=h1 rfl;obtain ⟨u,rest,rfl⟩:∃ u rest,us=u::rest:=by cases us with|nil=>simp at h0|cons u r=>exact ⟨u,r,rfl⟩
  obtain ⟨f,gs,rfl⟩:∃ f gs,fs=f::gs:=by cases fs with|nil=>have:=hr.1;simp at this|cons f r=>exact ⟨f,r,rfl⟩
  refine ⟨u,?_,?_⟩
  ·have:=hc 0 u rfl;rw [xQ] at this;simp [loadVar,XM hk,load,Sem.run,this]
  ·unfold Zn;rw [hk];exact hr.2 0 u f rfl rfl
def FV.cells:FV→List FV
 | .agg cs => cs
 | f => [f]
theorem Rd.eh {f:FV} (h:Rd w I v f) (hf:f.one=true):v.oneCell'=true:=by
 cases h <;> first|rfl|(simp [FV.one] at hf)
theorem Rd.cells {f:FV} (h:Rd w I v f) (hf:f.cells.all FV.one=true):ay w I v.cells.toList f.cells∧(∀ u∈v.cells.toList,u.oneCell'=true):=by
 have key:ay w I v.cells.toList f.cells:=by
  cases h with
  | agg us fs hl hr => exact ⟨by simpa [Value.cells, FV.cells] using hl, by simpa [Value.cells, FV.cells] using hr⟩
  | undef v => simp [FV.cells, FV.one] at hf
  | bN us fs hl hr => simp [FV.cells, FV.one] at hf
  | aK b off sz es i o us hI he ho hA hl hr => exact ay.cons (.aK b off sz es i o us hI he ho hA hl hr) ay.nil
  | kZ f us fs hl hr => exact ay.cons (.kZ f us fs hl hr) ay.nil
  | perm v sz es aY hp hr => simp [FV.cells, FV.one] at hf
  | dW v es aY hp hr => simp [FV.cells, FV.one] at hf
  | int k n => exact ay.cons (.int k n) .nil
  | bool b => exact ay.cons (.bool b) .nil
  | str s => exact ay.cons (.str s) .nil
  | nil => exact ay.cons .nil ay.nil
  | bW => exact ay.cons .bW ay.nil
  | ao => exact ay.cons .ao ay.nil
  | list A n c sz es us hn hc he ho hA hl hr => exact ay.cons (.list A n c sz es us hn hc he ho hA hl hr) ay.nil
  | smap b clock au es hI hb br hl hk hr => exact ay.cons (.smap b clock au es hI hb br hl hk hr) ay.nil
  | fn f us fs hl hr => exact ay.cons (.fn f us fs hl hr) ay.nil
  | iface t v f hr => exact ay.cons (.iface t v f hr) ay.nil
 refine ⟨key,fun u hu=>?_⟩;obtain ⟨j,hj,rfl⟩:=yr hu;have fV:j<f.cells.length:=by rw [← key.1];exact hj
 refine (key.2 j _ f.cells[j] zd (by simp [fV])).eh ?_;rw [zI] at hf;exact hf _ (yw fV)
theorem Rd.gU {f:FV} (hf:f.cells.all FV.one=true):f.hand=none:=by
 cases f <;> first|rfl|(simp [FV.cells,FV.one] at hf)
def ab.wr (s:ab) (l:List (Nat×yo)):ab:=l.foldl (fun s p=>s.set p.1 p.2) s
theorem ab.ct (l:List (Nat×yo)):∀ (s:ab) (k:Nat),(s.wr l).get k=s.get k:=by
 induction l with
 | nil => exact fun _ _ => rfl
 | cons p l ih => exact fun s k => ih (s.set p.1 p.2) k
def ab.live (s:ab) (id aa:Nat):Prop:=(s.ob id).ag≠.dead∧(s.ob id).aa=aa
def yK (c:Ctx) (w0:World) (J:JJ) (s:ab) (a:Act) (o:Oper) (w:World) (f:FV) (wr:List (Nat×yo)):Prop:=
 ∃ v w' aS,(execOp a.eval o).run c.P w=.ok (.value v) w'∧FR c.N w0 J (s.wr wr) a w' aS∧VR w' (aR J w' aS (s.wr wr)) aS (s.wr wr) v f∧∀ id aa,(id,aa)∈f.hands→aa≤((s.wr wr).ob id).aa
section
variable {c:Ctx} {w0 w:World} {J:JJ} {s:ab} {a:Act} {β:Nat→Option Nat} {dst:Option Nat} {ty:TypeId} {pos:String} {after:Array Edge} {g:Option (Nat×Bool)}
theorem yK.pure {o:Oper} {f:FV} (h:FR c.N w0 J s a w β) (hr:(execOp a.eval o).run c.P w=.ok (.value v) w) (hf:VR w (aR J w β s) β s v f) (hv:∀ id aa,(id,aa)∈f.hands→aa≤(s.ob id).aa):yK c w0 J s a o w f []:=
 ⟨v,w,β,hr,h,hf,hv⟩
theorem yK.rd {o:Oper} {f:FV} (h:FR c.N w0 J s a w β) (hr:(execOp a.eval o).run c.P w=.ok (.value v) w) (hf:Rd w (aR J w β s) v f) (hn:f.hand=none):yK c w0 J s a o w f []:=
 .pure h hr (VR.bu hf hn) (fun id aa e=>(FV.bf hn e).elim)
theorem Cq (h:FR c.N w0 J s a w β) (x:Operand):yK c w0 J s a ⟨dst,.move x,ty,pos,after,g⟩ w (s.ev x) []:=
 .pure h (v:=a.eval x) (by simp [execOp]) (h.ev x) (fun id aa e=>h.cE x e)
theorem Bu (h:FR c.N w0 J s a w β) (x:Operand):yK c w0 J s a ⟨dst,.assign x,ty,pos,after,g⟩ w (s.ev x) []:=
 .pure h (v:=a.eval x) (by simp [execOp]) (h.ev x) (fun id aa e=>h.cE x e)
theorem Cr (h:FR c.N w0 J s a w β) (fQ x y:Operand) (hb:s.ev fQ=.bool b):yK c w0 J s a ⟨dst,.pick fQ x y,ty,pos,after,g⟩ w (if b then s.ev x else s.ev y) []:=by
 have e:=h.cL hb;cases b
 ·exact .pure h (v:=a.eval y) (by simp [execOp,e,asBool]) (h.ev y) (fun id aa e=>h.cE y e)
 ·exact .pure h (v:=a.eval x) (by simp [execOp,e,asBool]) (h.ev x) (fun id aa e=>h.cE x e)
theorem Cm (h:FR c.N w0 J s a w β) (op:BinOp) (T T2:TypeId) (x y:Operand) {k:IntKind} {n:Int} {f:FV} (ex:s.ev x=.int k m) (ey:s.ev y=.int k n) (hf:cr op k m n=some f) :
  yK c w0 J s a ⟨dst,.binOp op T x y T2,ty,pos,after,g⟩ w f []:=by
 obtain ⟨v,h1,h2,h3⟩:=D8 (P:=c.P) (w:=w) op T T2 x y (h.aX ex) (h.aX ey) hf dst ty pos after g (aR J w β s);exact .rd h h1 h2 h3
theorem Cn (h:FR c.N w0 J s a w β) (op:BinOp) (T T2:TypeId) (x y:Operand) {k:IntKind} {n:Int} (ex:s.ev x=.int k m) (ey:s.ev y=.int k n) (hn:n≠0) (bM:op=.quo∨op=.rem) :
  yK c w0 J s a ⟨dst,.binOp op T x y T2,ty,pos,after,g⟩ w (.int k (if op=.quo then k.wrap (m.tdiv n) else m.tmod n)) []:=
 .rd h (D9 (P:=c.P) (w:=w) op T T2 x y (h.aX ex) (h.aX ey) hn bM dst ty pos after g) (.int _ _) rfl
theorem BH (h:FR c.N w0 J s a w β) (op:BinOp) (T T2:TypeId) (x y:Operand) {k yk:IntKind} {n:Int} (ex:s.ev x=.int k m) (ey:s.ev y=.int yk n) (hn:0≤n) (bM:op=.shl∨op=.shr) :
  yK c w0 J s a ⟨dst,.binOp op T x y T2,ty,pos,after,g⟩ w (.int k (if op=.shl then k.wrap (m * 2 ^ (min n.toNat k.bits)) else m.fdiv (2 ^ (min n.toNat k.bits)))) []:=
 .rd h (DM (P:=c.P) (w:=w) op T T2 x y (h.aX ex) (h.aX ey) hn bM dst ty pos after g) (.int _ _) rfl
theorem Ck (h:FR c.N w0 J s a w β) {T:TypeId} (hT:(c.ty T).k≠.other) (lT:(c.ty T2).k=.int k2) (x:Operand) {k:IntKind} {n:Int} (ex:s.ev x=.int k n) :
  yK c w0 J s a ⟨dst,.convert T T2 x,ty,pos,after,g⟩ w (.int k2 (k2.wrap n)) []:=by
 obtain ⟨d1,i1,z1,h1⟩:=c.get (T:=T) rfl hT;obtain ⟨d2,i2,z2,h2⟩:=c.get lT zd;have jw:=h2.k;rw [lT] at jw;obtain rfl:=uT jw;refine .rd h (v:=.int k2 (k2.wrap n)) ?_ (.int _ _) rfl;have hc:(convert T T2 (.int k n)).run c.P w=.ok (.int k2 (k2.wrap n)) w:=by
  unfold convert;simp [run_underlying h1.u,run_underlying h2.u,Conv.intToInt]
 simp [execOp,h.aX ex,hc]
theorem CG (h:FR c.N w0 J s a w β) (op:BinOp) {T:TypeId} (x y:Operand) {m n:Bool} (hT:(c.ty T).k=.bool) (ex:s.ev x=.bool m) (ey:s.ev y=.bool n) (bM:op=.eql∨op=.neq) :
  yK c w0 J s a ⟨dst,.binOp op T x y T2,ty,pos,after,g⟩ w (.bool (if op=.eql then m == n else m != n)) []:=by
 obtain ⟨d,i,z,ht⟩:=c.get hT zd;have hd:=ht.k;rw [hT] at hd;obtain rfl:=tY hd;exact .rd h (De (P:=c.P) (w:=w) op x y ht.u (h.cL ex) (h.cL ey) bM dst ty pos after g) (.bool _) rfl
theorem Dx (h:FR c.N w0 J s a w β) (T:TypeId) (x:Operand) (ex:s.ev x=.bool b):yK c w0 J s a ⟨dst,.unOp .not T x,ty,pos,after,g⟩ w (.bool (!b)) []:=
 .rd h (v:=.bool (!b)) (by simp [execOp,h.cL ex,Op.unary]) (.bool _) rfl
theorem Dw (h:FR c.N w0 J s a w β) (T:TypeId) (x:Operand) {k:IntKind} {n:Int} (ex:s.ev x=.int k n):yK c w0 J s a ⟨dst,.unOp .neg T x,ty,pos,after,g⟩ w (.int k (k.wrap (-n))) []:=
 .rd h (v:=.int k (k.wrap (-n))) (by simp [execOp,h.aX ex,Op.unary,Op.intArith]) (.int _ _) rfl
theorem Cp (h:FR c.N w0 J s a w β) (bi:Builtin) (T T2:TypeId) (x y:Operand) {k:IntKind} {n:Int} (ex:s.ev x=.int k m) (ey:s.ev y=.int k n) (eQ:bi=.min∨bi=.max) :
  yK c w0 J s a ⟨dst,.call { callee:=.builtin bi,args:=#[x,y],argTypes:=#[T,T2] },ty,pos,after,g⟩ w (.int k (if bi=.min then (if n<m then n else m) else (if m<n then n else m))) []:=by
 rcases eQ with rfl|rfl
 ·refine .rd h (v:=.int k (if n<m then n else m)) ?_ (.int _ _) rfl;simp [execOp,resolve,invoke,builtin,Builtin.min_,Builtin.min2,h.aX ex,h.aX ey]
 ·refine .rd h (v:=.int k (if m<n then n else m)) ?_ (.int _ _) rfl;simp [execOp,resolve,invoke,builtin,Builtin.max_,Builtin.max2,h.aX ex,h.aX ey]
theorem rY {T e:TypeId} (hT:(c.ty T).k=.slice e) (x:Operand) (ex:a.eval x=.slice A n cc) :
  (execOp a.eval ⟨dst,.call { callee:=.builtin .len,args:=#[x],argTypes:=#[T] },ty,pos,after,g⟩).run c.P w=.ok (.value (.int .i64 n)) w:=by
 obtain ⟨d,i,z,ht⟩:=c.get hT zd;have hd:=ht.k;rw [hT] at hd;obtain rfl:=yc hd;simp [execOp,resolve,invoke,builtin,Builtin.len_,ex,run_underlying ht.u,goInt]
theorem AH (h:FR c.N w0 J s a w β) {T e:TypeId} (hT:(c.ty T).k=.slice e) (x:Operand) {id aa o:Nat} (ex:s.ev x=.own id aa o n) (hl:s.live id aa) :
  yK c w0 J s a ⟨dst,.call { callee:=.builtin .len,args:=#[x],argTypes:=#[T] },ty,pos,after,g⟩ w (.int .i64 n) []:=by
 obtain ⟨A,cc,h1,_⟩:=(h.bx ex hl.1 hl.2).ex;exact .rd h (rY hT x h1) (.int _ _) rfl
theorem AW (h:FR c.N w0 J s a w β) {T e:TypeId} (hT:(c.ty T).k=.slice e) (x:Operand) {sz:Nat} {es:List (List FV)} (ex:s.ev x=.list sz es) :
  yK c w0 J s a ⟨dst,.call { callee:=.builtin .len,args:=#[x],argTypes:=#[T] },ty,pos,after,g⟩ w (.int .i64 es.length) []:=by
 have hr:=h.a9 ex rfl;generalize hx:a.eval x=v at hr;cases hr with
 | list A n cc sz es us hn => subst hn; exact .rd h (rY hT x hx) (.int _ _) rfl
theorem AU (h:FR c.N w0 J s a w β) {T e:TypeId} (hT:(c.ty T).k=.slice e) (x:Operand) (ex:s.ev x=.nil) :
  yK c w0 J s a ⟨dst,.call { callee:=.builtin .len,args:=#[x],argTypes:=#[T] },ty,pos,after,g⟩ w (.int .i64 0) []:=
 .rd h (by have:=rY (c:=c) (w:=w) (dst:=dst) (ty:=ty) (pos:=pos) (after:=after) (g:=g) hT x (h.cD ex);simpa using this) (.int _ _) rfl
theorem FR.dZ (h:FR c.N w0 J s a w β) {sz i o:Nat} {es:List (List FV)} (e:s.ev x=.aK sz es i o) :
  ∃ b off us,a.eval x=.pointer (some ⟨b,off+(i * sz+o),none⟩)∧aR J w β s b∧(∀ e∈es,e.length=sz)∧(∀ f∈es.flatten,f.one=true)∧(∀ (j:Nat) u,us[j]? = some u→w.cell? ⟨b,off+j,none⟩=some u)∧ay w (aR J w β s) us es.flatten:=by
 have hr:=h.a9 e rfl;generalize a.eval x=v at hr;cases hr with
 | aK b off sz es i o us hI he ho hA hl hr => exact ⟨b, off, us, rfl, hI, he, ho, hA, hl, hr⟩
theorem uH {T i:Nat} (hT:(c.ty T).k=.aw fs) (hf:fs[i]? = some (off,ft)) (eu:(c.ty ft).k≠.other) (az:(c.ty ft).size≠0) (x:Operand) {b o:Nat} (ex:a.eval x=.pointer (some ⟨b,o,none⟩)) :
  (execOp a.eval ⟨dst,.fieldAddr T x i,ty,pos,after,g⟩).run c.P w=.ok (.value (.pointer (some ⟨b,o+off,none⟩))) w:=by
 obtain ⟨d,ii,z,ht⟩:=c.get hT zd;have hd:=ht.k;rw [hT] at hd;obtain ⟨gs,rfl,iW,_⟩:=YE hd;rw [iW,xy] at hf;cases hg:gs.toList[i]? with
 | none => rw [hg] at hf; cases hf
 | some fl =>
  rw [hg] at hf;simp only [xG,zK,yu] at hf;obtain ⟨rfl,rfl⟩:=hf;have qv : gs[i]? = some fl:=by simpa using hg
  have hs:=yF (c:=c) eu w;simp [execOp,Instr.fieldAt,run_underlying ht.u,qv,ex,Instr.sureAddr,fieldPlace,hs,az,yL]
theorem VU (h:FR c.N w0 J s a w β) {T i:Nat} (hT:(c.ty T).k=.aw fs) (hf:fs[i]? = some (off,ft)) (eu:(c.ty ft).k≠.other) (az:(c.ty ft).size≠0) (x:Operand)
  {id aa o:Nat} (ex:s.ev x=.ptr id aa j o) (hl:s.live id aa):yK c w0 J s a ⟨dst,.fieldAddr T x i,ty,pos,after,g⟩ w (.ptr id aa j (o+off)) []:=by
 obtain ⟨aJ,b,hb,hv⟩:=h.cb ex hl.1 hl.2;refine .pure h (uH hT hf eu az x hv) (fun _ _=>⟨aJ,b,hb,by rw [WE]⟩) (fun ba cg e=>h.cE x (by rw [ex];exact e))
theorem Vg (h:FR c.N w0 J s a w β) {T i:Nat} (hT:(c.ty T).k=.aw fs) (hf:fs[i]? = some (off,ft)) (eu:(c.ty ft).k≠.other) (az:(c.ty ft).size≠0) (x:Operand)
  {sz o:Nat} {es:List (List FV)} (ex:s.ev x=.aK sz es j o):yK c w0 J s a ⟨dst,.fieldAddr T x i,ty,pos,after,g⟩ w (.aK sz es j (o+off)) []:=by
 obtain ⟨b,dX,us,hv,hI,he,ho,hA,hr⟩:=h.dZ ex;refine .rd h (uH hT hf eu az x hv) ?_ rfl;have:=Rd.aK (w:=w) (I:=aR J w β s) b dX sz es j (o+off) us hI he ho hA hr.1 hr.2;rwa [show dX+(j * sz+(o+off))=dX+(j * sz+o)+off by omega] at this
theorem uI {T e:Nat} (hT:(c.ty T).k=.slice e) (he:(c.ty e).k≠.other) (x y:Operand) {b o m:Nat} {k:IntKind} {n:Int} (ex:a.eval x=.slice (some ⟨b,o,none⟩) m cc) (ey:a.eval y=.int k n) (h0:0≤n) (h1:n<m) :
  (execOp a.eval ⟨dst,.indexAddr T x y,ty,pos,after,g⟩).run c.P w=.ok (.value (.pointer (some ⟨b,o+n.toNat * (c.ty e).size,none⟩))) w:=by
 obtain ⟨d,ii,z,ht⟩:=c.get hT zd;have hd:=ht.k;rw [hT] at hd;obtain rfl:=yc hd;have hs:=yF (c:=c) he w;simp [execOp,Instr.indexAt,run_underlying ht.u,ex,ey,asIntOf,hs,h0,h1,yL]
theorem Vi (h:FR c.N w0 J s a w β) {T e:Nat} (hT:(c.ty T).k=.slice e) (he:(c.ty e).k≠.other) (x y:Operand) {sz:Nat} {es:List (List FV)} {k:IntKind} (ex:s.ev x=.list sz es) (az:(c.ty e).size=sz)
  (ey:s.ev y=.int k n) (h1:n<es.length):yK c w0 J s a ⟨dst,.indexAddr T x y,ty,pos,after,g⟩ w (.aK sz es n 0) []:=by
 have hr:=h.a9 ex rfl;generalize hx:a.eval x=v at hr;cases hr with
 | list A m cc sz es us hn hc hw ho hA hl hr =>
  subst hn;obtain ⟨b,off,rfl,hI,aU⟩:=hA za;refine .rd h (uI hT he x y hx (h.aX ey) za za) ?_ rfl;have:=Rd.aK (w:=w) (I:=aR J w β s) b off sz es n 0 us hI hw ho aU hl hr;rw [az];simpa using this
theorem VV (h:FR c.N w0 J s a w β) {T e:Nat} (hT:(c.ty T).k=.slice e) (he:(c.ty e).k≠.other) (x y:Operand) {id aa o m:Nat} {k:IntKind} (ex:s.ev x=.own id aa o m) (hl:s.live id aa) (az:(c.ty e).size=(s.ob id).sz)
  (ey:s.ev y=.int k n) (h1:n<m):yK c w0 J s a ⟨dst,.indexAddr T x y,ty,pos,after,g⟩ w (.ptr id aa (o+n) 0) []:=by
 have aJ:=(h.bx ex hl.1 hl.2).row;obtain ⟨A,cc,e1,e2,e3,e4,e5⟩:=(h.bx ex hl.1 hl.2).ex;cases hb:β id with
 | none => have := (e4 hb).2; omega
 | some b =>
  obtain ⟨o',rfl,k2,k3⟩:=e5 b hb;have bX:=k2 (.inl za);subst bX;refine .pure h (uI hT he x y e1 (h.aX ey) za za) (fun _ _=>⟨aJ,b,hb,?_⟩) (fun ba cg e=>h.cE x (by rw [ex];exact e));rw [az];simp [zJ]
theorem UB {T e:Nat} (hT:(c.ty T).k=.arr n e) (he:(c.ty e).k≠.other) (x y:Operand) {b o:Nat} {k:IntKind} {i:Int} (ex:a.eval x=.pointer (some ⟨b,o,none⟩)) (ey:a.eval y=.int k i) (h0:0≤i) (h1:i<n) :
  (execOp a.eval ⟨dst,.indexAddr T x y,ty,pos,after,g⟩).run c.P w=.ok (.value (.pointer (some ⟨b,o+i.toNat * (c.ty e).size,none⟩))) w:=by
 obtain ⟨d,ii,z,ht⟩:=c.get hT zd;have hd:=ht.k;rw [hT] at hd;obtain rfl:=rM hd;have hs:=yF (c:=c) he w;simp [execOp,Instr.indexAt,run_underlying ht.u,ex,ey,asIntOf,hs,h0,h1,yL,Instr.sureAddr]
theorem Vh (h:FR c.N w0 J s a w β) {T m e:Nat} (hT:(c.ty T).k=.arr m e) (he:(c.ty e).k≠.other) (x y:Operand) {id aa o:Nat} {k:IntKind} (ex:s.ev x=.ptr id aa j o) (hl:s.live id aa)
  (ey:s.ev y=.int k n) (h1:n<m):yK c w0 J s a ⟨dst,.indexAddr T x y,ty,pos,after,g⟩ w (.ptr id aa j (o+n * (c.ty e).size)) []:=by
 obtain ⟨aJ,b,hb,hv⟩:=h.cb ex hl.1 hl.2;refine .pure h (UB hT he x y hv (h.aX ey) za za) (fun _ _=>⟨aJ,b,hb,by simp [WE]⟩) (fun ba cg e=>h.cE x (by rw [ex];exact e))
theorem Wm (h:FR c.N w0 J s a w β) {T m e:Nat} (hT:(c.ty T).k=.arr m e) (he:(c.ty e).k≠.other) (x y:Operand) {sz o:Nat} {es:List (List FV)} {k:IntKind} (ex:s.ev x=.aK sz es j o)
  (ey:s.ev y=.int k n) (h1:n<m):yK c w0 J s a ⟨dst,.indexAddr T x y,ty,pos,after,g⟩ w (.aK sz es j (o+n * (c.ty e).size)) []:=by
 obtain ⟨b,dX,us,hv,hI,hw,ho,hA,hr⟩:=h.dZ ex;refine .rd h (UB hT he x y hv (h.aX ey) za za) ?_ rfl;have:=Rd.aK (w:=w) (I:=aR J w β s) b dX sz es j (o+n * (c.ty e).size) us hI hw ho hA hr.1 hr.2;simp only [Ys];rwa [show dX+(j * sz+(o+n * (c.ty e).size))=dX+(j * sz+o)+n * (c.ty e).size by omega] at this
theorem Ye {α:Type} {sz:Nat}:∀ (es:List (List α)),(∀ e∈es,e.length=sz)→∀ (i o:Nat),i<es.length→o≤sz→es.flatten.drop (i * sz+o)=(es.getD i []).drop o++(es.drop (i+1)).flatten
 | [], _, i, _, hi, _ => by simp at hi
 | e :: es, he, 0, o, _, ho => by
  have h1:=he e zd;simp only [Zs,zM,yM,Xk,List.drop_one,List.tail_cons];rw [List.drop_append,h1,Nat.sub_eq_zero_of_le ho,Wu]
 | e :: es, he, i+1, o, hi, ho => by
  have h1:=he e zd;have ih:=Ye es (fun x hx=>he x (by simp [hx])) i o (by simpa using hi) ho;rw [show (i+1) * sz+o=sz+(i * sz+o) by rw [zJ];omega,yM,← List.drop_drop,← h1,List.drop_left,h1,ih];simp
theorem xp {sz:Nat} {es:List (List α)} (he:∀ e∈es,e.length=sz):es.flatten.length=es.length * sz:=by
 induction es with
 | nil => simp
 | cons e es ih => rw [yM, zH, ih (fun x hx => he x (by simp [hx])), he e zd, yZ, zJ]; omega
theorem WL {sz:Nat} {es:List (List α)} (he:∀ e∈es,e.length=sz) {i:Nat} (hi:i<es.length):(es.getD i []).length=sz:=by
 rw [yC,xP hi];exact he _ (yw hi)
theorem Yl {ts:TS} {cs ds:List FV} (h:ts.size≤cs.length) (h1:cs≠[]):Zn ts (cs++ds)=Zn ts cs:=by
 unfold Zn;split
 ·rw [WC h]
 ·cases cs with
  | nil => exact absurd rfl h1
  | cons x xs => rfl
theorem VW (h:FR c.N w0 J s a w β) {T:Nat} (hk:(c.ty T).k.aW = some bb) (x:Operand) {sz o:Nat} {es:List (List FV)} (ex:s.ev x=.aK sz es j o) (hj:j<es.length) (ho:o+(c.ty T).size≤sz) (bX : o<sz) :
  yK c w0 J s a ⟨dst,.load T x,ty,pos,after,g⟩ w (Zn (c.ty T) ((es.getD j []).drop o)) []:=by
 obtain ⟨b,dX,us,hv,hI,hw,bI,hA,hr⟩:=h.dZ ex;have hd:=hr.drop (j * sz+o);rw [Ye es hw j o hj za] at hd;have hlen:((es.getD j []).drop o).length=sz - o:=by rw [Yx,WL hw hj]
 have kN:=hd.1;rw [zH,hlen] at kN;obtain ⟨v,r1,r2⟩:=Xa hk w b (dX+(j * sz+o)) (us.drop (j * sz+o)) za (fun _=>by omega) (fun i u hu=>by
  rw [xx] at hu;have:=hA _ u hu;rwa [show dX+(j * sz+o)+i=dX+(j * sz+o+i) by omega]) hd
 rw [Yl za (fun e=>by rw [e] at hlen;simp at hlen;omega)] at r2;have m5:(Zn (c.ty T) ((es.getD j []).drop o)).hand=none:=by
  unfold Zn;split
  ·rfl
  ·have hm:((es.getD j []).drop o).headD .undef∈es.flatten:=by
    cases bj:(es.getD j []).drop o with
    | nil => rw [bj] at hlen; simp at hlen; omega
    | cons y ys =>
     have hy:y∈es.getD j []:=xa (i:=o) (by rw [bj];simp);rw [yC,xP hj] at hy;exact yE.2 ⟨es[j],yw hj,hy⟩
   have:=bI _ hm;generalize ((es.getD j []).drop o).headD .undef=f at this;cases f <;> first|rfl|(simp [FV.one] at this)
 exact .rd h (by simp [execOp,Instr.loadAt,hv,Instr.sureAddr,r1]) r2 m5
theorem FR.block (h:FR c.N w0 J s a w β) {id:Nat} (hl:(s.ob id).ag≠.dead) (bl:(s.ob id).ag.row=true) {b:Nat} (hb:β id=some b) :
  ∃ cur cap,w.heap[b]? = some (.cells cur (s.ob id).E (0,0))∧(s.ob id).es.length≤cap∧cap≤maxLen∧cur.size=cap * (s.ob id).sz∧
   ay w (aR J w β s) (cur.toList.take ((s.ob id).es.length * (s.ob id).sz)) (s.ob id).es.flatten∧w.ownsRow w0.heap.size (s.ob id).E (s.ob id).sz (.slice (some ⟨b,0,none⟩) (s.ob id).es.length cap) (s.ob id).es.length (cur.toList.take ((s.ob id).es.length * (s.ob id).sz)):=by
 obtain ⟨v,us,r1,r2,r3⟩:=((h.obj id hl).bA bl).row;have AF:=r1;rcases r1.2 with ⟨rfl,_⟩|⟨g',cap,cur,rfl,_,dx,hn,hm,bj,m7⟩
 ·rw [← r2] at hb;simp [Value.ownBlock] at hb
 ·have jD:g'=b:=by rw [← r2] at hb;simpa [Value.ownBlock] using hb
  subst jD;subst m7;exact ⟨cur,cap,dx,hn,hm,bj,r3,AF⟩
theorem XA (h:FR c.N w0 J s a w β) {T:Nat} (hk:(c.ty T).k.aW = some bb) (x:Operand) {id aa o:Nat} (ex:s.ev x=.ptr id aa j o) (hl:s.live id aa) (bl:(s.ob id).ag.row=true) (hj:j<(s.ob id).es.length) (ho:o+(c.ty T).size≤(s.ob id).sz) (bX : o<(s.ob id).sz) :
  yK c w0 J s a ⟨dst,.load T x,ty,pos,after,g⟩ w (Zn (c.ty T) (((s.ob id).es.getD j []).drop o)) []:=by
 obtain ⟨_,b,hb,hv⟩:=h.cb ex hl.1 hl.2;obtain ⟨cur,cap,bh,hn,hm,bj,hr,aJ⟩:=h.block hl.1 bl hb;have hw:=((h.obj id hl.1).bA bl).wide;have bI:=((h.obj id hl.1).bA bl).one;generalize (s.ob id).es=es at hj hn hr aJ hw bI ⊢;generalize (s.ob id).sz=sz at ho bX bj hr aJ hw hv ⊢;have hd:=hr.drop (j * sz+o);rw [Ye es hw j o hj za] at hd;have hlen:((es.getD j []).drop o).length=sz - o:=by rw [Yx,WL hw hj]
 have kN:=hd.1;rw [zH,hlen] at kN;obtain ⟨v,r1,r2⟩:=Xa hk w b (j * sz+o) ((cur.toList.take (es.length * sz)).drop (j * sz+o)) za (fun _=>by omega) (fun i u hu=>by
  rw [xx,yD] at hu;rw [cell_of_row w b _ cur (s.ob id).E (0,0) bh];split at hu
  ·simpa using hu
  ·cases hu) hd
 rw [Yl za (fun e=>by rw [e] at hlen;simp at hlen;omega)] at r2;have m5:(Zn (c.ty T) ((es.getD j []).drop o)).hand=none:=by
  unfold Zn;split
  ·rfl
  ·have hm:((es.getD j []).drop o).headD .undef∈es.flatten:=by
    cases bj:(es.getD j []).drop o with
    | nil => rw [bj] at hlen; simp at hlen; omega
    | cons y ys =>
     have hy:y∈es.getD j []:=xa (i:=o) (by rw [bj];simp);rw [yC,xP hj] at hy;exact yE.2 ⟨es[j],yw hj,hy⟩
   have:=bI _ hm;generalize ((es.getD j []).drop o).headD .undef=f at this;cases f <;> first|rfl|(simp [FV.one] at this)
 exact .rd h (by simp [execOp,Instr.loadAt,hv,Instr.sureAddr,r1]) r2 m5
end
def ai {α:Type} (cs:List α) (o:Nat) (ds:List α):List α:=cs.take o++ds++cs.drop (o+ds.length)
theorem yG {cs ds:List α} {o:Nat} (h:o+ds.length≤cs.length):(ai cs o ds).length=cs.length:=by
 unfold ai;simp;omega
theorem ay.ai {vs:List Value} {fs gs:List FV} (h:ay w I us fs) (k:ay w I vs gs) (o:Nat):ay w I (ai us o vs) (ai fs o gs):=by
 unfold YtedkppfghdipdaaGreatDoor.ai;rw [k.1];exact ((h.take o).append k).append (h.drop _)
theorem Vd {α:Type} {sz:Nat}:∀ (es:List (List α)),(∀ e∈es,e.length=sz)→∀ (i o:Nat) (ds:List α),i<es.length→o+ds.length≤sz→
  (es.set i (ai (es.getD i []) o ds)).flatten=ai es.flatten (i * sz+o) ds
 | [], _, i, _, _, hi, _ => by simp at hi
 | e :: es, he, 0, o, ds, _, ho => by
  have h1:=he e zd;simp only [List.set_cons_zero,Xk,yM,Zs,zM];unfold ai;rw [WC za,List.drop_append_of_le_length za];simp [zE]
 | e :: es, he, i+1, o, ds, hi, ho => by
  have h1:=he e zd;have ih:=Vd es (fun x hx=>he x (by simp [hx])) i o ds (by simpa using hi) ho;simp only [List.set_cons_succ,List.getD_cons_succ,yM];rw [ih];unfold ai;have e1:(i+1) * sz+o=e.length+(i * sz+o):=by rw [zJ,h1];omega
  rw [e1,uR,show e.length+(i * sz+o)+ds.length=e.length+(i * sz+o+ds.length) by omega,uO];simp [zE]
theorem Eb {sz:Nat} {es:List (List α)} (he:∀ e∈es,e.length=sz) {i o:Nat} {ds:List α} (hi:i<es.length) (ho:o+ds.length≤sz):∀ e∈es.set i (ai (es.getD i []) o ds),e.length=sz:=by
 intro e hm;rcases Xm hm with h|h
 ·exact he e h
 ·subst h;have:=WL he hi;rw [yG za,this]
theorem XW {cs ds:List α} {o:Nat} {x:α} (h:x∈ai cs o ds):x∈cs∨x∈ds:=by
 unfold ai at h;simp only [zO] at h;rcases h with (h|h)|h
 ·exact .inl (yN h)
 ·exact .inr h
 ·exact .inl (xa h)
section
variable {c:Ctx} {w0 w:World} {J:JJ} {s:ab} {a:Act} {β:Nat→Option Nat} {dst:Option Nat} {ty:TypeId} {pos:String} {after:Array Edge} {g:Option (Nat×Bool)}
theorem xB (w:World) (g k:Nat) (cs:Array Value) (h:k≠g):(w.setRow g cs).heap[k]? = w.heap[k]?:=by
 simp only [World.setRow,UL];rw [if_neg (fun e=>h e.symm)]
theorem yP (w:World) (g:Nat) (cs cur:Array Value) (E:TypeId) (h:w.heap[g]? = some (.cells cur E (0,0))):(w.setRow g cs).heap[g]? = some (.cells cs E (0,0)):=by
 simp [World.setRow,UL,h]
theorem BI (h:FR c.N w0 J s a w β) {T:Nat} (hk:(c.ty T).k≠.other) (x y:Operand) {id aa o:Nat} (ex:s.ev x=.ptr id aa j o) (hl:(s.ob id).ag=.own) (hv:(s.ob id).aa=aa) {f:FV} (ey:s.ev y=f)
  (hf:f.cells.all FV.one=true) (cz:f.cells.length=(c.ty T).size) (hj:j<(s.ob id).es.length) (ho:o+(c.ty T).size≤(s.ob id).sz) :
  ∃ w',(execOp a.eval ⟨dst,.store T x y,ty,pos,after,g⟩).run c.P w=.ok .skip w'∧
   FR c.N w0 J (s.wr [(id,{ s.ob id with es:=(s.ob id).es.set j (ai ((s.ob id).es.getD j []) o f.cells) })]) a w' β:=by
 have ak:(s.ob id).ag≠.dead:=by rw [hl];decide
 have bl:(s.ob id).ag.row=true:=by rw [hl];rfl
 obtain ⟨_,b,hb,oD⟩:=h.cb ex ak hv;obtain ⟨cur,cap,bh,hn,hm,bj,hr,aJ⟩:=h.block ak bl hb;have hw:=((h.obj id ak).bA bl).wide;have bI:=((h.obj id ak).bA bl).one;have iJ:=h.a9 ey (Rd.gU hf);obtain ⟨ic,km⟩:=iJ.cells hf;generalize hy:a.eval y=v at ic km;generalize mW:(s.ob id).es=es at hj hn hr aJ hw bI ⊢;generalize az:(s.ob id).sz=sz at ho bj hr aJ hw oD ⊢;have z9:v.cells.toList.length=(c.ty T).size:=by rw [ic.1,cz]
 have hle:j * sz+sz≤es.length * sz:=by
  have:(j+1) * sz≤es.length * sz:=Nat.mul_le_mul_right sz za;rw [zJ] at this;omega
 have wF:es.length * sz≤cap * sz:=Nat.mul_le_mul_right sz hn;have br:=run_storeCells_at c.P b (j * sz+o) (s.ob id).E v.cells.toList 0 cur w bh za km;simp only [xQ] at br;have cO:cur.toList.length=cap * sz:=by simpa using bj
 have Aa:v.cells.toList.length=f.cells.length:=ic.1;have oB:(cur.toList.take (es.length * sz)).length=es.length * sz:=by rw [yf,cO];omega
 obtain ⟨W,hW⟩:∃ W,W=w.setRow b (ai cur.toList (j * sz+o) v.cells.toList).toArray:=⟨_,rfl⟩
 have jq:W.heap[b]? = some (.cells (ai cur.toList (j * sz+o) v.cells.toList).toArray (s.ob id).E (0,0)):=by rw [hW];exact yP w b _ cur _ bh
 have gP:w.grownBy W (β id):=by
  subst hW;refine ⟨rfl,rfl,rfl,by simp [World.setRow],fun k hk aZ=>xB w b k _ (fun e=>aZ (by rw [e,hb]))⟩
 have cm : W.ownsRow w0.heap.size (s.ob id).E sz (.slice (some ⟨b,0,none⟩) es.length cap) es.length (ai (cur.toList.take (es.length * sz)) (j * sz+o) v.cells.toList):=by
  refine ⟨?_,.inr ⟨b,cap,_,rfl,((h.obj id ak).lt hb).1,jq,hn,hm,?_,?_⟩⟩
  ·rw [yG za,oB]
  ·simp only [Xn];rw [yG za,cO]
  ·have key:∀ (L p:Nat) (cs ds:List Value),p+ds.length≤L→L≤cs.length→(ai cs p ds).take L=ai (cs.take L) p ds:=by
    intro L p cs ds h1 h2;unfold ai;rw [zE,zE,Xo,yf,yU za,Xo,Xp,Xp,WW za,yU za,yO (by omega:ds.length≤L - p),List.drop_take];congr 3;omega
   exact key _ _ _ _ za za
 have jQ : ∀ f'∈(es.set j (ai (es.getD j []) o f.cells)).flatten,f'.one=true:=by
  intro f' cY;obtain ⟨e,he,kn⟩:=yE.1 cY;rcases Xm he with h'|h'
  ·exact bI f' (yE.2 ⟨e,h',kn⟩)
  ·subst h';rcases XW kn with h'|h'
   ·rw [yC,xP hj] at h';exact bI f' (yE.2 ⟨_,yw hj,h'⟩)
   ·exact zI.1 hf f' h'
 refine ⟨W,?_,?_⟩
 ·have hs:=yF (c:=c) hk w;have ra : v.cells.size=(c.ty T).size:=by simpa using z9
  have mr : (storeCells ⟨b,j * sz+o,none⟩ v.cells.toList).run c.P w=.ok () W:=by rw [hW];exact br
  simp [execOp,Instr.storeAt,storeVar,oD,hy,Instr.sureAddr,hs,ra,mr]
 ·refine h.write id (es:=es.set j (ai (es.getD j []) o f.cells)) (v:=.slice (some ⟨b,0,none⟩) es.length cap) (xs:=ai (cur.toList.take (es.length * sz)) (j * sz+o) v.cells.toList) hl gP ?_ jQ ?_ hb.symm ?_ ?_ ?_ (fun k=>?_) (fun k=>rfl)
  ·rw [az];exact Eb hw hj za
  ·rw [az,Zj];exact cm
  ·rw [Vd es hw j o f.cells hj za];exact hr.ai ic _
  ·rw [mW,Zj]
  ·intro b' pU pV bP h1 h2;rw [hb] at bP;injection bP with bP
   subst bP;rw [bh] at h1;injection h1 with h1
   injection h1 with h1 _ _
   subst h1;rw [jq] at h2;injection h2 with h2
   injection h2 with h2 _ _
   rw [← h2];simp only [Xn];rw [yG za,cO,bj]
  ·exact ab.av s id _ k
end
theorem VP.fy {E sz:Nat} {ob:yo} (h:w.ownsRow base E sz v n xs) (hn:ob.es.length=n) (hE:ob.E=E) (hs:ob.sz=sz) (bl:ob.ag.bL=true):VP w v.ownBlock ob v 0 n:=by
 rcases h.2 with ⟨rfl,rfl⟩|⟨g,cap,cur,rfl,_,dx,h1,h2,h3,_⟩
 ·exact ⟨bl,none,0,rfl,zf _,by omega,fun _=>⟨rfl,rfl⟩,fun b hb=>by simp [Value.ownBlock] at hb⟩
 ·refine ⟨bl,some ⟨g,0,none⟩,cap,rfl,h1,by omega,fun hb=>by simp [Value.ownBlock] at hb,fun b hb=>?_⟩;obtain rfl:g=b:=by simpa [Value.ownBlock] using hb
  refine ⟨0,rfl,fun _=>by simp,fun eK hc=>?_⟩;rw [hE,dx] at hc;injection hc with hc
  injection hc with hc _ _
  rw [← hc,hs];simpa using h3
section
variable {c:Ctx} {w0 w:World} {J:JJ} {s:ab} {a:Act} {β:Nat→Option Nat} {ty:TypeId} {pos:String} {after:Array Edge} {g:Option (Nat×Bool)}
theorem Bp (w:World) (o:Obj):Below w.heap.size w (w.alloc o):=(zQ _ _).alloc (zf _) o
theorem FR.newRow (h:FR c.N w0 J s a w β) (d E sz:Nat) (es:List (List FV)) (cur:Array Value) (hw:∀ e∈es,e.length=sz) (ho:∀ f∈es.flatten,f.one=true) (hr:ay w (aR J w β s) cur.toList es.flatten) (hm:es.length≤maxLen) :
  FR c.N w0 J (s.set d ⟨(s.ob d).aa+1,.own,E,sz,es⟩) a (w.alloc (.cells cur E)) (XZ β d (some w.heap.size))∧
   (w.alloc (.cells cur E)).ownsRow w0.heap.size E sz (.slice (some ⟨w.heap.size,0,none⟩) es.length es.length) es.length cur.toList:=by
 have hlen:cur.size=es.length * sz:=by have:=hr.1;rw [xp hw] at this;simpa using this
 have aJ:(w.alloc (.cells cur E)).ownsRow w0.heap.size E sz (.slice (some ⟨w.heap.size,0,none⟩) es.length es.length) es.length cur.toList:=
  ⟨by simpa using hlen,.inr ⟨w.heap.size,es.length,cur,rfl,h.bn.size,heap_alloc_new w _,zf _,hm,hlen,by rw [yO (by simp [hlen])]⟩⟩
 refine ⟨h.make none d (v:=.slice (some ⟨w.heap.size,0,none⟩) es.length es.length) (fun k e=>by cases e) (World.grownBy_alloc w _ _) hw ho aJ hr (.inr (.inr ⟨_,rfl,zf _⟩)) (fun k=>?_) (fun k=>rfl),aJ⟩;rw [ab.av];split
 ·rfl
 ·simp
theorem xk (β:Nat→Option Nat) (j:Nat) (x:Option Nat):XZ β j x j=x:=by simp [XZ]
theorem Vj (h:FR c.N w0 J s a w β) {o:Oper} (d E:Nat) (f:FV) (cur:Array Value) (hf:f.cells.all FV.one=true) (hr:ay w (aR J w β s) cur.toList f.cells)
  (bz:(execOp a.eval o).run c.P w=.ok (.value (.pointer (some ⟨w.heap.size,0,none⟩))) (w.alloc (.cells cur E))) :
  yK c w0 J s a o w (.ptr d ((s.ob d).aa+1) 0 0) [(d,⟨(s.ob d).aa+1,.own,E,f.cells.length,[f.cells]⟩)]:=by
 obtain ⟨h1,_⟩:=h.newRow d E f.cells.length [f.cells] cur zd (by simpa using hf) (by simpa using hr) (by simp [maxLen]);refine ⟨_,_,_,bz,h1,fun _ _=>⟨by rw [show (s.wr [(d,(⟨(s.ob d).aa+1,.own,E,f.cells.length,[f.cells]⟩:yo))]).ob d=⟨(s.ob d).aa+1,.own,E,f.cells.length,[f.cells]⟩ from (ab.av s d _ d).trans (if_pos rfl)];rfl,w.heap.size,xk _ _ _,by simp⟩,fun id aa e=>?_⟩;simp only [FV.hands,zP,yu] at e;obtain ⟨e1,e2⟩:=e;replace e1:=e1.symm;replace e2:=e2.symm;subst e1;subst e2;show _≤(ab.ob (ab.set s d _) d).aa;rw [ab.av,if_pos rfl];exact zf _
theorem B9 (h:FR c.N w0 J s a w β) (d:Nat) {T:Nat} (hk:(c.ty T).k≠.other) (hz:(c.ty T).zero.all FV.one=true) :
  yK c w0 J s a ⟨some d,.alloc T,ty,pos,after,g⟩ w (.ptr d ((s.ob d).aa+1) 0 0) [(d,⟨(s.ob d).aa+1,.own,T,(c.ty T).zero.length,[(c.ty T).zero]⟩)]:=by
 obtain ⟨z,h1,h2,h3⟩:=ZV hk w;refine Vj h d T (.agg (c.ty T).zero) z.cells hz (ay.zeros h2) ?_;simp [execOp,Instr.alloc,h1,newVar,newRow]
theorem Dv (h:FR c.N w0 J s a w β) (d:Nat) {T:Nat} (x:Operand) {f:FV} (ex:s.ev x=f) (hf:f.cells.all FV.one=true) :
  yK c w0 J s a ⟨some d,.box T x,ty,pos,after,g⟩ w (.ptr d ((s.ob d).aa+1) 0 0) [(d,⟨(s.ob d).aa+1,.own,T,f.cells.length,[f.cells]⟩)]:=by
 obtain ⟨h1,h2⟩:=(h.a9 ex (Rd.gU hf)).cells hf;refine Vj h d T f (a.eval x).cells hf h1 ?_;simp [execOp,Instr.box,newVar,newRow]
def Zg (place:Nat→Option (Nat×Nat)):List FV→List (Nat×FV)→Option (List FV)
 | cs, [] => some cs
 | cs, (i, f) :: rest =>
  match place i with
  | none => none
  | some (off, size) => if f.cells.all FV.one=true ∧ f.cells.length=size ∧ off+size ≤ cs.length then Zg place (ai cs off f.cells) rest else none
theorem uj:∀ (vs:List Value) (k off:Nat) (A:Array Value),off+k+vs.length≤A.size→(List.foldl (fun (cs:Array Value) (p:Value×Nat)=>cs.setIfInBounds (off+p.2) p.1) A (vs.zipIdx k)).toList=ai A.toList (off+k) vs
 | [], k, off, A, _ => by simp [ai]
 | v :: vs, k, off, A, h => by
  have h' : off+k<A.size:=by simp at h;omega
  rw [List.zipIdx_cons,List.foldl_cons,uj vs (k+1) off _ (by simp at h ⊢;omega)];unfold ai;simp only [Array.toList_setIfInBounds,yZ];rw [show off+(k+1)=off+k+1 by omega,ZL (by simpa using h'),List.take_set,List.getElem_set_self,List.set_eq_of_length_le zy,List.drop_set_of_lt za];simp [YA,Nat.add_left_comm]
theorem uS {w:World} {I:Nat→Prop} (place:Nat→Option (Nat×Nat)):∀ (ps:List (Nat×FV)) (vs:List (Nat×Value)) (A:Array Value) (cs dG : List FV),ay w I A.toList cs→vs.length=ps.length→
  (∀ (j:Nat) v p,vs[j]? = some v→ps[j]? = some p→v.1=p.1∧Rd w I v.2 p.2)→Zg place cs ps=some dG→∃ A',Instr.fill place A vs=some A'∧ay w I A'.toList dG
 | [], [], A, cs, dG, hA, _, _, h => by
  simp only [Zg,zK] at h;subst h;exact ⟨A,rfl,hA⟩
 | [], _ :: _, _, _, _, _, hl, _, _ => by simp at hl
 | _ :: _, [], _, _, _, _, hl, _, _ => by simp at hl
 | (i,f)::ps,(i',v)::vs,A,cs,dG,hA,hl,hp,h=>by
  obtain ⟨e1,e2⟩:=hp 0 _ _ rfl rfl;dsimp only at e1 e2;subst e1;unfold Zg at h;cases jT:place i' with
  | none => rw [jT] at h; cases h
  | some q=>
   obtain ⟨off,size⟩:=q;rw [jT] at h;dsimp only at h;split at h
   ·rename_i hc;obtain ⟨c1,c2,c3⟩:=hc;obtain ⟨k1,k2⟩:=e2.cells c1;have Ac:v.cells.size=size:=by have:=k1.1;rw [c2] at this;simpa using this
    have gL:A.size=cs.length:=by have:=hA.1;simpa using this
    have hz:A.size=A.toList.length:=by simp
    have nQ:(v.cells.zipIdx.foldl (fun cs (c,j)=>cs.setIfInBounds (off+j) c) A).toList=ai A.toList off v.cells.toList:=by
     have:=uj v.cells.toList 0 off A zy;rw [← Array.foldl_toList];simpa using this
    obtain ⟨A',r1,r2⟩:=uS place ps vs _ _ _ (by rw [nQ];exact hA.ai k1 off) (by simpa using hl) (fun j v p hv hq=>hp (j+1) v p hv hq) h;refine ⟨A',?_,r2⟩;unfold Instr.fill;simp only [jT];rw [if_neg (by simp [Ac];omega)];exact r1
   ·cases h
def ab.parts (s:ab) (ps:Array (Nat×Operand)):List (Nat×FV):=ps.toList.map fun p=>(p.1,s.ev p.2)
theorem FR.parts (h:FR c.N w0 J s a w β) (ps:Array (Nat×Operand)) {place:Nat→Option (Nat×Nat)} {cs dG : List FV} {A:Array Value} (hA:ay w (aR J w β s) A.toList cs) (hf:Zg place cs (s.parts ps)=some dG) :
  ∃ A',Instr.fill place A (ps.map fun (i,x)=>(i,a.eval x)).toList=some A'∧ay w (aR J w β s) A'.toList dG:=by
 have bI:∀ (l:List (Nat×FV)) (cs dG : List FV),Zg place cs l=some dG→∀ p∈l,p.2.hand=none:=by
  intro l
  induction l with
  | nil => intro _ _ _ p hp; simp at hp
  | cons q l ih=>
   intro cs dG hq p hp;obtain ⟨i,f⟩:=q;unfold Zg at hq;cases jT:place i with
   | none => rw [jT] at hq; cases hq
   | some z=>
    rw [jT] at hq;dsimp only at hq;split at hq
    ·rename_i hc;rcases zZ.1 hp with e|e
     ·subst e;exact Rd.gU hc.1
     ·exact ih _ _ hq p e
    ·cases hq
 refine uS place (s.parts ps) _ A cs dG hA (by simp [ab.parts]) (fun j v p hv hp=>?_) hf;have wT:=ya hp;simp only [ab.parts,xy,Option.map_eq_some_iff] at hp;obtain ⟨q,hq,rfl⟩:=hp;have iq : (ps.toList.map fun p=>(p.1,a.eval p.2))[j]? = some v:=by simpa using hv
 simp only [xy,hq,xG,zK] at iq;subst iq;exact ⟨rfl,h.a9 rfl (bI _ _ _ hf _ wT)⟩
theorem Cb (h:FR c.N w0 J s a w β) {T:Nat} (hT:(c.ty T).k=.aw fs) (iW:∀ p∈fs,(c.ty p.2).k≠.other) (ps:Array (Nat×Operand)) {cs:List FV}
  (hf:Zg (fun i=>(fs[i]?).map fun p=>(p.1,(c.ty p.2).size)) (c.ty T).zero (s.parts ps)=some cs):yK c w0 J s a ⟨dst,.build T ps,ty,pos,after,g⟩ w (.agg cs) []:=by
 obtain ⟨d,i,z,ht⟩:=c.get hT zd;have hd:=ht.k;rw [hT] at hd;obtain ⟨gs,rfl,td,_⟩:=YE hd;obtain ⟨A',h1,h2⟩:=h.parts ps (A:=z.cells) (ay.zeros ht.zr) hf;have hp:gs.toList.mapM (fun f=>(c.P.info? f.type).map fun i=>(f.offset,i.size))=some (gs.toList.map fun f=>(f.offset,(c.ty f.type).size)):=by
  have key:∀ (l:List Field),(∀ f∈l,(c.ty f.type).k≠.other)→l.mapM (fun f=>(c.P.info? f.type).map fun i=>(f.offset,i.size))=some (l.map fun f=>(f.offset,(c.ty f.type).size)):=by
   intro l
   induction l with
   | nil => intro _; rfl
   | cons f l ih =>
    intro hl;obtain ⟨d',i',z',bY⟩:=c.get rfl (hl f zd);simp only [List.mapM_cons,bY.info,xG,Option.bind_eq_bind,Yb,ih (fun f hf=>hl f (by simp [hf])),Option.pure_def,bY.size,yn]
  refine key _ (fun f hf=>iW (f.offset,f.type) ?_);rw [td];exact zL.2 ⟨f,hf,rfl⟩
 have hb:c.P.built T (ps.map fun (i,x)=>(i,a.eval x)).toList=some A':=by
  unfold Program.built;simp only [ht.info,ht.u,ht.zo,hp];rw [← h1];congr 1;funext i;rw [td];simp [Function.comp_def]
 refine .rd h (v:=.agg A') (by simp only [execOp,yV,run_build w T _ A' hb,xZ,yW]) ?_ rfl;have:=Rd.agg (w:=w) (I:=aR J w β s) A'.toList cs h2.1 h2.2;simpa using this
theorem Bv (h:FR c.N w0 J s a w β) {T e:Nat} (hT:(c.ty T).k=.arr n e) (he:(c.ty e).k≠.other) (ps:Array (Nat×Operand)) {cs:List FV}
  (hf:Zg (fun i=>some (i * (c.ty e).size,(c.ty e).size)) (c.ty T).zero (s.parts ps)=some cs):yK c w0 J s a ⟨dst,.build T ps,ty,pos,after,g⟩ w (.agg cs) []:=by
 obtain ⟨d,i,z,ht⟩:=c.get hT zd;have hd:=ht.k;rw [hT] at hd;obtain rfl:=rM hd;obtain ⟨A',h1,h2⟩:=h.parts ps (A:=z.cells) (ay.zeros ht.zr) hf;obtain ⟨d',i',z',bY⟩:=c.get rfl he;have hb:c.P.built T (ps.map fun (i,x)=>(i,a.eval x)).toList=some A':=by
  unfold Program.built;simp only [ht.info,ht.u,ht.zo,bY.info,bY.size];exact h1
 refine .rd h (v:=.agg A') (by simp only [execOp,yV,run_build w T _ A' hb,xZ,yW]) ?_ rfl;have:=Rd.agg (w:=w) (I:=aR J w β s) A'.toList cs h2.1 h2.2;simpa using this
theorem ay.kh {w:World} (us:List Value):ay w I us (List.replicate us.length .undef):=by
 refine ⟨by simp,fun j u f hu hf=>?_⟩;rw [List.getElem?_replicate] at hf;split at hf
 ·injection hf with hf;subst hf;exact .undef u
 ·cases hf
theorem XB (h:FR c.N w0 J s a w β) {o:Oper} (d E sz:Nat) (es:List (List FV)) (cur:Array Value) (hw:∀ e∈es,e.length=sz) (ho:∀ f∈es.flatten,f.one=true) (hr:ay w (aR J w β s) cur.toList es.flatten) (hm:es.length≤maxLen)
  (bz:(execOp a.eval o).run c.P w=.ok (.value (.slice (some ⟨w.heap.size,0,none⟩) es.length es.length)) (w.alloc (.cells cur E))) :
  yK c w0 J s a o w (.own d ((s.ob d).aa+1) 0 es.length) [(d,⟨(s.ob d).aa+1,.own,E,sz,es⟩)]:=by
 obtain ⟨h1,h2⟩:=h.newRow d E sz es cur hw ho hr hm;refine ⟨_,_,_,bz,h1,fun _ _=>?_,fun id aa e=>?_⟩
 ·show VP _ (XZ β d (some w.heap.size) d) (ab.ob (ab.set s d _) d) _ _ _;rw [xk,ab.av,if_pos rfl];exact VP.fy h2 rfl rfl rfl rfl
 ·simp only [FV.hands,zP,yu] at e;obtain ⟨e1,e2⟩:=e;replace e1:=e1.symm;replace e2:=e2.symm;subst e1;subst e2;show _≤(ab.ob (ab.set s d _) d).aa;rw [ab.av,if_pos rfl];exact zf _
theorem Vf (h:FR c.N w0 J s a w β) (d:Nat) {T e:Nat} (hT:(c.ty T).k=.slice e) (he:(c.ty e).k≠.other) (ps:Array (Nat×Operand)) (es:List (List FV)) (hn:es.length=n) (hw:∀ x∈es,x.length=(c.ty e).size) (ho:∀ f∈es.flatten,f.one=true)
  (c8:n * (c.ty e).size≤16777216) (jO:n≤16777216)
  (hf:Zg (fun i=>some (i * (c.ty e).size,(c.ty e).size)) (List.replicate (n * (c.ty e).size) .undef) (s.parts ps)=some es.flatten) :
  yK c w0 J s a ⟨some d,.buildSlice T n ps,ty,pos,after,g⟩ w (.own d ((s.ob d).aa+1) 0 n) [(d,⟨(s.ob d).aa+1,.own,e,(c.ty e).size,es⟩)]:=by
 obtain ⟨dd,i,z,ht⟩:=c.get hT zd;have hd:=ht.k;rw [hT] at hd;obtain rfl:=yc hd;have hs:=yF (c:=c) he w;obtain ⟨zz,hz,_,_⟩:=ZV he w;obtain ⟨A0,ee⟩:∃ A0:Array Value,(if n * (c.ty e).size=0 then (Array.range (n * (c.ty e).size)).map (fun x=>(#[]:Array Value)[x % (#[]:Array Value).size]!) else (Array.range (n * (c.ty e).size)).map (fun x=>zz.cells[x % zz.cells.size]!))=A0:=⟨_,rfl⟩
 have az:A0.size=n * (c.ty e).size:=by rw [← ee];split <;> simp
 have hu:=ay.kh (w:=w) (I:=aR J w β s) A0.toList;rw [UR,az] at hu;obtain ⟨A',h1,h2⟩:=h.parts ps hu hf;subst hn;refine XB h d e (c.ty e).size es A' hw ho h2 (by unfold maxLen;omega) ?_;have jv : ¬ (16777216<es.length * (c.ty e).size):=by omega
 by_cases h0:es.length * (c.ty e).size=0
 ·rw [if_pos h0] at ee;simp [execOp,Instr.buildSlice,run_underlying ht.u,hs,h0,newRow] at ee h1 ⊢;rw [ee,h1];simp
 ·rw [if_neg h0] at ee;simp [execOp,Instr.buildSlice,run_underlying ht.u,hs,jv,h0,hz,newRow,ee] at h1 ⊢;rw [h1];simp
theorem VY (h:FR c.N w0 J s a w β) {o:Oper} (E sz:Nat) (es:List (List FV)) (cur:Array Value) (hw:∀ e∈es,e.length=sz) (ho:∀ f∈es.flatten,f.one=true) (hr:ay w (aR J w β s) cur.toList es.flatten)
  (bz:(execOp a.eval o).run c.P w=.ok (.value (.slice (some ⟨w.heap.size,0,none⟩) es.length es.length)) (w.alloc (.cells cur E))):yK c w0 J s a o w (.list sz es) []:=by
 have hb:Below w.heap.size w (w.alloc (.cells cur E)):=(zQ _ _).alloc (zf _) _;have hG:=h.grow hb;refine ⟨_,_,β,bz,hG,?_,fun _ _ e=>(FV.bf rfl e).elim⟩;refine VR.bu (Rd.list (some ⟨w.heap.size,0,none⟩) es.length es.length sz es cur.toList rfl (zf _) hw ho (fun _=>⟨w.heap.size,0,rfl,⟨?_,h.fresh _ h.bn.size (.inl (zf _)),fun id hl e=>?_⟩,fun j u hu=>?_⟩) hr.1 (fun j u f hu hf=>(hr.2 j u f hu hf).mono fun b aP=>aP.grow hb)) rfl
 ·show w.heap.size<(w.heap.push _).size;simp
 ·have:=((h.obj id (xL.bo hl)).lt e).2;omega
 ·have bh:(w.alloc (.cells cur E)).heap[w.heap.size]? = some (.cells cur E (0,0)):=by show (w.heap.push _)[w.heap.size]? = _;simp
  rw [cell_of_row _ w.heap.size _ cur E (0,0) bh];simpa using hu
theorem Wl (h:FR c.N w0 J s a w β) (d:Nat) {T e:Nat} (hT:(c.ty T).k=.slice e) (he:(c.ty e).k≠.other) (ps:Array (Nat×Operand)) (es:List (List FV)) (hn:es.length=n) (hw:∀ x∈es,x.length=(c.ty e).size) (ho:∀ f∈es.flatten,f.one=true)
  (c8:n * (c.ty e).size≤16777216) (jO:n≤16777216)
  (hf:Zg (fun i=>some (i * (c.ty e).size,(c.ty e).size)) (List.replicate (n * (c.ty e).size) .undef) (s.parts ps)=some es.flatten) :
  yK c w0 J s a ⟨some d,.buildSlice T n ps,ty,pos,after,g⟩ w (.list (c.ty e).size es) []:=by
 obtain ⟨dd,i,z,ht⟩:=c.get hT zd;have hd:=ht.k;rw [hT] at hd;obtain rfl:=yc hd;have hs:=yF (c:=c) he w;obtain ⟨zz,hz,_,_⟩:=ZV he w;obtain ⟨A0,ee⟩:∃ A0:Array Value,(if n * (c.ty e).size=0 then (Array.range (n * (c.ty e).size)).map (fun x=>(#[]:Array Value)[x % (#[]:Array Value).size]!) else (Array.range (n * (c.ty e).size)).map (fun x=>zz.cells[x % zz.cells.size]!))=A0:=⟨_,rfl⟩
 have az:A0.size=n * (c.ty e).size:=by rw [← ee];split <;> simp
 have hu:=ay.kh (w:=w) (I:=aR J w β s) A0.toList;rw [UR,az] at hu;obtain ⟨A',h1,h2⟩:=h.parts ps hu hf;subst hn;refine VY h e (c.ty e).size es A' hw ho h2 ?_;have jv : ¬ (16777216<es.length * (c.ty e).size):=by omega
 by_cases h0:es.length * (c.ty e).size=0
 ·rw [if_pos h0] at ee;simp [execOp,Instr.buildSlice,run_underlying ht.u,hs,h0,newRow] at ee h1 ⊢;rw [ee,h1];simp
 ·rw [if_neg h0] at ee;simp [execOp,Instr.buildSlice,run_underlying ht.u,hs,jv,h0,hz,newRow,ee] at h1 ⊢;rw [h1];simp
theorem Zy {α:Type} {sz:Nat}:∀ (es:List (List α)),(∀ e∈es,e.length=sz)→∀ k,(es.take k).flatten=es.flatten.take (k * sz)
 | [], _, k => by simp
 | e :: es, he, 0 => by simp
 | e :: es, he, k+1 => by
  have h1:=he e zd;rw [List.take_succ_cons,yM,yM,Zy es (fun x hx=>he x (by simp [hx])) k,zJ,Xg,YA,← h1,uR]
theorem xV {α:Type} {sz:Nat}:∀ (es:List (List α)),(∀ e∈es,e.length=sz)→∀ k,(es.drop k).flatten=es.flatten.drop (k * sz)
 | [], _, k => by simp
 | e :: es, he, 0 => by simp
 | e :: es, he, k+1 => by
  have h1:=he e zd;rw [List.drop_succ_cons,yM,xV es (fun x hx=>he x (by simp [hx])) k,zJ,Xg,YA,← h1,uO]
theorem VX (h:FR c.N w0 J s a w β) (d:Nat) {T e:Nat} (hT:(c.ty T).k=.slice e) (he:(c.ty e).k≠.other) (x y:Operand) {k1:IntKind} (ex:s.ev x=.int k1 n) (ey:s.ev y=.int k2 n) (ho:(c.ty e).zero.all FV.one=true)
  (hb:(c.ty e).bytes * n≤281474976710656) (hn:n≤281474976710656) :
  yK c w0 J s a ⟨some d,.makeSlice T x y,ty,pos,after,g⟩ w (.own d ((s.ob d).aa+1) 0 n) [(d,⟨(s.ob d).aa+1,.own,e,(c.ty e).size,List.replicate n (c.ty e).zero⟩)]:=by
 obtain ⟨dd,i,z,ht⟩:=c.get hT zd;have hd:=ht.k;rw [hT] at hd;obtain rfl:=yc hd;obtain ⟨d',i',z',bY⟩:=c.get rfl he;have eQ:(i'.bytes:Int) * (n:Int)≤281474976710656:=by
  have:((i'.bytes * n:Nat):Int)≤281474976710656:=by rw [bY.bytes];omega
  rwa [Int.natCast_mul] at this
 have hr:=run_make (P:=c.P) w T e i' z' ht.u bY.info bY.zo k1 k2 n n za (Int.le_refl _) eQ za;simp only [Ys] at hr;have tQ:=(ay.zeros (w:=w) (I:=aR J w β s) bY.zr)
 have An:z'.cells.size=(c.ty e).size:=by have:=tQ.1;rw [bY.zl] at this;simpa using this
 have hlen:(List.replicate n (c.ty e).zero).length=n:=by simp
 have hg:=XB h (o:=⟨some d,.makeSlice T x y,ty,pos,after,g⟩) d e (c.ty e).size (List.replicate n (c.ty e).zero) (madeCells z'.cells (n * i'.size)) (fun x hx=>by rw [Wv hx,bY.zl]) (fun f hf=>by
   obtain ⟨q,hq,nR⟩:=yE.1 hf;rw [Wv hq] at nR;exact zI.1 ho f nR) ⟨?_,?_⟩ (by rw [hlen];unfold maxLen;omega) (by
    rw [hlen];simp only [execOp,h.aX ex,h.aX ey,yV,hr,xZ,yW])
 ·rwa [hlen] at hg
 ·rw [xp (sz:=(c.ty e).size) (fun x hx=>by rw [Wv hx,bY.zl]),hlen];simp [madeCells,bY.size]
 ·intro j u f hu hf;rw [bY.size] at hu;have hj:j<n * (c.ty e).size:=by
   have:=(ye.1 hu).1;simpa [madeCells] using this
  have tK:0<(c.ty e).size:=by
   rcases ZM (c.ty e).size with h0|h0
   ·rw [h0] at hj;simp at hj
   ·exact h0
  have qO:=Nat.mod_lt j tK;have x9 : z'.cells.toList[j % (c.ty e).size]? = some u:=by
   have e1:(madeCells z'.cells (n * (c.ty e).size)).toList[j]? = some (z'.cells[j % z'.cells.size]!):=by
    simp [madeCells,hj]
   rw [e1] at hu;injection hu with hu
   rw [An] at hu;rw [← hu];have aD:j % (c.ty e).size<z'.cells.size:=by omega
   simp [aD]
  have cY : (c.ty e).zero[j % (c.ty e).size]? = some f:=by
   have key:∀ (m q r:Nat),r<(c.ty e).size→q<m→(List.replicate m (c.ty e).zero).flatten[q * (c.ty e).size+r]? = (c.ty e).zero[r]?:=by
    intro m q r hr hq;have hw:∀ x∈List.replicate m (c.ty e).zero,x.length=(c.ty e).size:=fun x hx=>by rw [Wv hx,bY.zl]
    have:=Ye _ hw q r (by simpa using hq) za;have h2:((List.replicate m (c.ty e).zero).flatten.drop (q * (c.ty e).size+r))[0]? = (c.ty e).zero[r]?:=by
     rw [this,yC,List.getElem?_replicate,if_pos hq,xF,Yw (by rw [Yx,bY.zl];omega),xx,xQ]
    rwa [xx,xQ] at h2
   have jx:=Nat.div_add_mod j (c.ty e).size;rw [Nat.mul_comm] at jx;rw [← key n (j / (c.ty e).size) (j % (c.ty e).size) qO (by rw [Nat.div_lt_iff_lt_mul tK];exact hj),jx];exact hf
  exact tQ.2 _ u f x9 cY
def vB (a:Act):Option Operand→Nat→Prop
 | none, l => l=0
 | some y, l => ∃ k, a.eval y=.int k (l:Nat)
def vA (a:Act):Option Operand→Nat→Nat→Prop
 | none, m, u => u=m
 | some y, _, u => ∃ k, a.eval y=.int k (u:Nat)
theorem VD {T e:Nat} (hT:(c.ty T).k=.slice e) (he:(c.ty e).k≠.other) (x:Operand) (lo hi:Option Operand) {m u:Nat} (ex:a.eval x=.slice A m cc)
  (dp:vB a lo l) (cI:vA a hi m u) (h1:l≤u) (h2:u≤cc) :
  (execOp a.eval ⟨dst,.slice T x lo hi none,ty,pos,after,g⟩).run c.P w=.ok (.value (.slice (if cc=l then A else A.map (·.add (l * (c.ty e).size))) (u - l) (cc - l))) w:=by
 obtain ⟨dd,i,z,ht⟩:=c.get hT zd;have hd:=ht.k;rw [hT] at hd;obtain rfl:=yc hd;have hs:=yF (c:=c) he w;cases lo with
 | none=>
  change l=0 at dp;subst dp;cases hi with
  | none =>
   change u=m at cI;subst cI;simp [execOp,Instr.sliceAt,Instr.slice,Instr.sliceBounds,run_underlying ht.u,ex,hs]
  | some y =>
   obtain ⟨k,hk⟩:=cI;simp [execOp,Instr.sliceAt,Instr.slice,Instr.sliceBounds,Instr.sliceBound,asIntOf,run_underlying ht.u,ex,hs,hk,h2]
 | some z=>
  obtain ⟨k',kp⟩:=dp;cases hi with
  | none =>
   change u=m at cI;subst cI;simp [execOp,Instr.sliceAt,Instr.slice,Instr.sliceBounds,Instr.sliceBound,asIntOf,run_underlying ht.u,ex,hs,kp,h1]
  | some y =>
   obtain ⟨k,hk⟩:=cI;simp [execOp,Instr.sliceAt,Instr.slice,Instr.sliceBounds,Instr.sliceBound,asIntOf,run_underlying ht.u,ex,hs,hk,kp,h1,h2]
end
section
variable {c:Ctx} {w0 w:World} {J:JJ} {s:ab} {a:Act} {β:Nat→Option Nat} {dst:Option Nat} {ty:TypeId} {pos:String} {after:Array Edge} {g:Option (Nat×Bool)}
def ab.lo (s:ab):Option Operand→Nat→Prop
 | none, l => l=0
 | some y, l => ∃ k, s.ev y=.int k (l:Nat)
def ab.hi (s:ab):Option Operand→Nat→Nat→Prop
 | none, m, u => u=m
 | some y, _, u => ∃ k, s.ev y=.int k (u:Nat)
theorem FR.lo (h:FR c.N w0 J s a w β) {lo:Option Operand} (hl:s.lo lo l):vB a lo l:=by
 cases lo with
 | none => exact hl
 | some y => obtain ⟨k, hk⟩ := hl; exact ⟨k, h.aX hk⟩
theorem FR.hi (h:FR c.N w0 J s a w β) {hi:Option Operand} {m u:Nat} (hl:s.hi hi m u):vA a hi m u:=by
 cases hi with
 | none => exact hl
 | some y => obtain ⟨k, hk⟩ := hl; exact ⟨k, h.aX hk⟩
theorem Ua (h:FR c.N w0 J s a w β) {T e:Nat} (hT:(c.ty T).k=.slice e) (he:(c.ty e).k≠.other) (x:Operand) (lo hi:Option Operand) {id aa o m u:Nat} (ex:s.ev x=.own id aa o m) (hl:s.live id aa) (az:(c.ty e).size=(s.ob id).sz)
  (dp:s.lo lo l) (cI:s.hi hi m u) (h1:l≤u) (h2:u≤m):yK c w0 J s a ⟨dst,.slice T x lo hi none,ty,pos,after,g⟩ w (.own id aa (o+l) (u - l)) []:=by
 have bl:=(h.bx ex hl.1 hl.2).row;obtain ⟨A,cc,e1,e2,e3,e4,e5⟩:=(h.bx ex hl.1 hl.2).ex;have hr:=VD (c:=c) (w:=w) (dst:=dst) (ty:=ty) (pos:=pos) (after:=after) (g:=g) hT he x lo hi e1 (h.lo dp) (h.hi cI) h1 za;refine .pure h hr (fun _ _=>⟨bl,_,_,rfl,by omega,by omega,fun hb=>?_,fun b hb=>?_⟩) (fun ba cg e=>h.cE x (by rw [ex];exact e))
 ·obtain ⟨rfl,rfl⟩:=e4 hb;obtain rfl:l=0:=by omega
  simp
 ·obtain ⟨o',rfl,k2,k3⟩:=e5 b hb;by_cases cO:cc=l
  ·rw [if_pos cO];refine ⟨o',rfl,fun qU=>?_,fun cur hc=>?_⟩
   ·rcases qU with qU|qU
    ·omega
    ·have:o=0:=by omega
     have mX:l=0:=by omega
     rw [k2 (.inr this),this,mX]
   ·rw [k3 cur hc];congr 1;omega
  ·rw [if_neg cO];have:=k2 (.inl za);subst this;refine ⟨(o+l) * (s.ob id).sz,by rw [az];simp [yL,zJ],fun _=>rfl,fun cur hc=>?_⟩;rw [k3 cur hc];congr 1;omega
theorem Vk (h:FR c.N w0 J s a w β) {T e:Nat} (hT:(c.ty T).k=.slice e) (he:(c.ty e).k≠.other) (x:Operand) (lo hi:Option Operand) {sz u:Nat} {es:List (List FV)} (ex:s.ev x=.list sz es) (az:(c.ty e).size=sz)
  (dp:s.lo lo l) (cI:s.hi hi es.length u) (h1:l≤u) (h2:u≤es.length):yK c w0 J s a ⟨dst,.slice T x lo hi none,ty,pos,after,g⟩ w (.list sz ((es.drop l).take (u - l))) []:=by
 have hr:=h.a9 ex rfl;generalize hx:a.eval x=v at hr;cases hr with
 | list A m cc sz es us hn hc hw ho hA hl lv=>
  subst hn;have bz:=VD (c:=c) (w:=w) (dst:=dst) (ty:=ty) (pos:=pos) (after:=after) (g:=g) hT he x lo hi hx (h.lo dp) (h.hi cI) h1 za;have kr:∀ e∈es.drop l,e.length=sz:=fun e he=>hw e (xa he);have cz:((es.drop l).take (u - l)).flatten=(es.flatten.drop (l * sz)).take ((u - l) * sz):=by rw [Zy _ kr,xV _ hw]
  have hR:ay w (aR J w β s) ((us.drop (l * sz)).take ((u - l) * sz)) ((es.drop l).take (u - l)).flatten:=by
   rw [cz];exact (ay.drop ⟨hl,lv⟩ _).take _
  refine .rd h bz (.list _ _ _ sz _ ((us.drop (l * sz)).take ((u - l) * sz)) zy za (fun e he=>kr e (yN he)) (fun f hf=>?_) (fun h0=>?_) hR.1 hR.2) rfl
  ·rw [cz] at hf;exact ho f (xa (yN hf))
  ·obtain ⟨b,off,rfl,hI,aU⟩:=hA za;rw [if_neg za];refine ⟨b,off+l * sz,by rw [az];simp [yL],hI,fun j u' hu=>?_⟩;rw [yD] at hu;split at hu
   ·rw [xx] at hu;have:=aU _ u' hu;rwa [show off+(l * sz+j)=off+l * sz+j by omega] at this
   ·cases hu
theorem VZ (h:FR c.N w0 J s a w β) {T e:Nat} (hT:(c.ty T).k=.slice e) (he:(c.ty e).k≠.other) (x:Operand) (lo hi:Option Operand) (ex:s.ev x=.nil)
  (dp:s.lo lo 0) (cI:s.hi hi 0 0):yK c w0 J s a ⟨dst,.slice T x lo hi none,ty,pos,after,g⟩ w .nil []:=by
 have bz:=VD (c:=c) (w:=w) (dst:=dst) (ty:=ty) (pos:=pos) (after:=after) (g:=g) hT he x lo hi (h.cD ex) (h.lo dp) (h.hi cI) (zf _) (zf _);exact .rd h bz (by simpa using Rd.nil) rfl
theorem AT (h:FR c.N w0 J s a w β) (x:Operand) {i:Nat} {fs:List FV} {f:FV} (ex:s.ev x=.bN fs) (hf:fs[i]? = some f) (hn:f.hand=none):yK c w0 J s a ⟨dst,.extract x i,ty,pos,after,g⟩ w f []:=by
 have hr:=h.a9 ex rfl;generalize hx:a.eval x=v at hr;cases hr with
 | bN us fs hl hr =>
  have hi:i<us.length:=by rw [hl];exact (ye.1 hf).1
  have hu:us[i]? = some us[i]:=by simp [hi]
  exact .rd h (v:=us[i]) (by simp [execOp,Instr.extract,hx,hu]) (hr i _ f hu hf) hn
theorem XV (h:FR c.N w0 J s a w β) (x:Operand) {id aa i o:Nat} (ex:s.ev x=.ptr id aa i o) (hl:s.live id aa):yK c w0 J s a ⟨dst,.nilCheck x,ty,pos,after,g⟩ w (.ptr id aa i o) []:=by
 obtain ⟨_,b,hb,hv⟩:=h.cb ex hl.1 hl.2;refine .pure h (v:=a.eval x) (by simp [execOp,hv]) ?_ (fun ba cg e=>h.cE x (by rw [ex];exact e));have:=h.ev x;rwa [ex] at this
theorem XC (h:FR c.N w0 J s a w β) (x:Operand) {sz i o:Nat} {es:List (List FV)} (ex:s.ev x=.aK sz es i o):yK c w0 J s a ⟨dst,.nilCheck x,ty,pos,after,g⟩ w (.aK sz es i o) []:=by
 obtain ⟨b,off,us,hv,_⟩:=h.dZ ex;refine .rd h (v:=a.eval x) (by simp [execOp,hv]) (h.a9 ex rfl) rfl
inductive Src (s:ab):FV→Nat→List (List FV)→Prop where
 | nil (sz:Nat):Src s .nil sz []
 | list (sz:Nat) (es:List (List FV)):Src s (.list sz es) sz es
 | own (id aa o n:Nat) (hl:s.live id aa) (bl:(s.ob id).ag.row=true):Src s (.own id aa o n) (s.ob id).sz (((s.ob id).es.drop o).take n)
theorem FR.src (h:FR c.N w0 J s a w β) {f:FV} {sz:Nat} {es:List (List FV)} (ex:s.ev x=f) (hs:Src s f sz es):(∀ e∈es,e.length=sz)∧(∀ f∈es.flatten,f.one=true)∧
  ∃ A cc us,a.eval x=.slice A es.length cc∧es.length≤cc∧ay w (aR J w β s) us es.flatten∧(A=none→us=[]∧es=[])∧(∀ ad,A=some ad→∀ (j:Nat) u,us[j]? = some u→w.cell? (ad.add j)=some u):=by
 cases hs with
 | nil sz => exact ⟨by simp, by simp, none, 0, [], h.cD ex, zf _, ay.nil, fun _ => ⟨rfl, rfl⟩, fun _ e => by cases e⟩
 | list sz es=>
  have hr:=h.a9 ex rfl;generalize hx:a.eval x=v at hr;cases hr with
  | list A m cc sz es us hn hc hw ho hA hl lv=>
   subst hn;refine ⟨hw,ho,A,cc,us,rfl,hc,⟨hl,lv⟩,fun ee=>?_,fun ad nG j u hu=>?_⟩
   ·have:es.length=0:=by
     rcases ZM es.length with h0|h0
     ·exact h0
     ·obtain ⟨b,off,e,_⟩:=hA za;rw [ee] at e;cases e
    have:es=[]:=ZH this;subst this;exact ⟨by simpa using hl,rfl⟩
   ·have h0:es.length≠0:=fun h0=>by
     have:es=[]:=ZH h0;subst this;have:us=[]:=by simpa using hl
     subst this;simp at hu
    obtain ⟨b,off,e,_,aU⟩:=hA h0;rw [nG] at e;injection e with e
    subst e;rw [yL];exact aU j u hu
 | own id aa o n hl bl=>
  obtain ⟨A,cc,e1,e2,e3,e4,e5⟩:=(h.bx ex hl.1 hl.2).ex;have hw:=((h.obj id hl.1).bA bl).wide;have bI:=((h.obj id hl.1).bA bl).one;have kr:∀ e∈(s.ob id).es.drop o,e.length=(s.ob id).sz:=fun e he=>hw e (xa he);have hlen:(((s.ob id).es.drop o).take n).length=n:=by simp;omega
  have cz:(((s.ob id).es.drop o).take n).flatten=((s.ob id).es.flatten.drop (o * (s.ob id).sz)).take (n * (s.ob id).sz):=by rw [Zy _ kr,xV _ hw]
  refine ⟨fun e he=>kr e (yN he),fun f hf=>by rw [cz] at hf;exact bI f (xa (yN hf)),?_⟩;cases hb:β id with
  | none =>
   obtain ⟨rfl,rfl⟩:=e4 hb;obtain rfl:n=0:=by omega
   exact ⟨none,0,[],by simpa using e1,by simp,by simpa using ay.nil,fun _=>⟨rfl,by simp⟩,fun _ e=>by cases e⟩
  | some b=>
   obtain ⟨o',rfl,k2,k3⟩:=e5 b hb;obtain ⟨cur,cap,bh,hn,hm,bj,hr,aJ⟩:=h.block hl.1 bl hb;refine ⟨_,cc,((cur.toList.take ((s.ob id).es.length * (s.ob id).sz)).drop (o * (s.ob id).sz)).take (n * (s.ob id).sz),by rw [hlen];exact e1,by omega,by rw [cz];exact (hr.drop _).take _,(fun e=>by cases e),fun ad nG j u hu=>?_⟩;injection nG with nG
   subst nG;rw [yL,cell_of_row w b _ cur _ (0,0) bh];rw [yD] at hu;split at hu
   ·rename_i hj;have jL:n≠0:=by rintro rfl;simp at hj
    have:=k2 (.inl za);subst this;rw [xx,yD] at hu;split at hu
    ·simpa using hu
    ·cases hu
   ·cases hu
inductive jc (s:ab):FV→Nat→List (List FV)→Option Nat→Prop where
 | nil (sz:Nat):jc s .nil sz [] none
 | own (id aa:Nat) (hl:(s.ob id).ag=.own) (hv:(s.ob id).aa=aa) (n:Nat) (hn:n=(s.ob id).es.length):jc s (.own id aa 0 n) (s.ob id).sz (s.ob id).es (some id)
def ZE (s:ab) (d:Nat) (E sz:Nat) (es:List (List FV)):Option Nat→List (Nat×yo)
 | none => [(d, ⟨(s.ob d).aa+1, .own, E, sz, es⟩)]
 | some i => [(i, { s.ob i with ag := .dead }), (d, ⟨(s.ob d).aa+1, .own, E, sz, es⟩)]
theorem WV (P:Program) (t ty:TypeId) (v:Value) (cc:Nat) (w:World):(Builtin.append_ #[t,t] ty #[v,.slice none 0 cc]).run P w=(Builtin.append_ #[t,t] ty #[v,.slice none 0 0]).run P w:=rfl
theorem Ve (h:FR c.N w0 J s a w β) (d:Nat) {T e:Nat} (hT:(c.ty T).k=.slice e) (he:(c.ty e).k≠.other) (bm:0<(c.ty e).size) (x y:Operand) {f1 f2:FV} {bJ aA:List (List FV)} {i:Option Nat} (ex:s.ev x=f1) (ey:s.ev y=f2)
  (h1:jc s f1 (c.ty e).size bJ i) (hE:∀ k,i=some k→(s.ob k).E=e) (h2:Src s f2 (c.ty e).size aA) (hb:(bJ.length+aA.length) * (c.ty e).bytes≤140737488355328) (hm:bJ.length+aA.length≤140737488355328) :
  yK c w0 J s a ⟨some d,.call { callee:=.builtin .append,args:=#[x,y],argTypes:=#[T,T] },ty,pos,after,g⟩ w (.own d ((s.ob d).aa+1) 0 (bJ++aA).length) (ZE s d e (c.ty e).size (bJ++aA) i):=by
 obtain ⟨dd,ii,z,ht⟩:=c.get hT zd;have hd:=ht.k;rw [hT] at hd;obtain rfl:=yc hd;obtain ⟨d',i',z',bY⟩:=c.get rfl he;have kP:z'.cells.size=(c.ty e).size:=by
  have:=(ay.zeros (w:=w) (I:=aR J w β s) bY.zr).1;rw [bY.zl] at this;simpa using this
 obtain ⟨dR,bV,A2,c2,cU,hy,km,jU,qa,cF⟩:=h.src ey h2;obtain ⟨v1,fG,z8,jW,wY,cP,fZ,k9⟩:∃ v1 fG,a.eval x=v1∧w.ownsRow w0.heap.size e (c.ty e).size v1 bJ.length fG∧ay w (aR J w β s) fG bJ.flatten∧(∀ q∈bJ,q.length=(c.ty e).size)∧(∀ f∈bJ.flatten,f.one=true)∧v1.ownBlock=i.bind β:=by
  generalize az:(c.ty e).size=sz at h1 ⊢;cases h1 with
  | nil sz => exact ⟨_, [], h.cD ex, yv _ _ _ _, ay.nil, by simp, by simp, rfl⟩
  | own id aa hl hv n hn=>
   have ak:(s.ob id).ag≠.dead:=by rw [hl];decide
   have sV:=hE id rfl;obtain ⟨A,cc,e1,e2,e3,e4,e5⟩:=(h.bx ex ak hv).ex;have bl:(s.ob id).ag.row=true:=by rw [hl];rfl
   obtain ⟨v,us,r1,r2,r3⟩:=((h.obj id ak).bA bl).row;have hw:=((h.obj id ak).bA bl).wide;have bI:=((h.obj id ak).bA bl).one;rw [sV] at r1;refine ⟨v,us,?_,r1,r3,hw,bI,r2⟩;rw [e1];rcases r1.2 with ⟨rfl,h0⟩|⟨b,cap,cur,rfl,_,dx,_,_,bj,_⟩
   ·have ia:β id=none:=by rw [← r2];rfl
    obtain ⟨rfl,rfl⟩:=e4 ia;rw [hn,h0]
   ·have ia:β id=some b:=by rw [← r2];rfl
    obtain ⟨o',rfl,k2,k3⟩:=e5 b ia;have:=k3 cur (by rw [sV];exact dx);rw [bj,zM] at this;have ql:cap=cc:=WF (by rw [az] at bm;exact bm) this;rw [k2 (.inr rfl),ql,hn];simp
 have o9:∀ k,i=some k→(s.ob k).ag=.own:=by
  intro k hk;generalize (c.ty e).size=sz at h1;cases h1 with
  | nil => cases hk
  | own id aa hl hv n hn => injection hk with hk; subst hk; exact hl
 have jJ:cU.length=aA.length * (c.ty e).size:=by rw [jU.1,xp dR]
 have p9:∀ u∈cU,u.oneCell'=true:=by
  intro u hu;obtain ⟨j,hj,rfl⟩:=yr hu;have fV:j<aA.flatten.length:=by rw [← jU.1];exact hj
  exact (jU.2 j _ aA.flatten[j] (by simp [hj]) zd).eh (bV _ (yw fV))
 obtain ⟨v',w',bz,cm,nS,mb⟩:∃ v' w',(Builtin.append_ #[T,T] ty #[v1,.slice A2 aA.length c2]).run c.P w=.ok v' w'∧w'.ownsRow w0.heap.size e (c.ty e).size v' (bJ.length+aA.length) (fG++cU)∧w.grownBy w' v1.ownBlock∧
   (v'.ownBlock=v1.ownBlock∨v'.ownBlock=some w.heap.size):=by
  cases hA:A2 with
  | none =>
   obtain ⟨rfl,rfl⟩:=qa hA;rw [Ww,WV];refine ⟨v1,w,run_append_owned_none (P:=c.P) (w:=w) w0.heap.size T ty e i' (c.ty e).size ht.u bY.info v1 bJ.length fG jW,by simpa using jW,⟨rfl,rfl,rfl,zf _,fun _ _ _=>rfl⟩,.inl rfl⟩
  | some ad =>
   obtain ⟨v',w',q1,q2,q3,_,q5⟩:=run_append_own_at (P:=c.P) w w0.heap.size T ty e i' z' (c.ty e).size (c.ty e).bytes ht.u bY.info bY.zo bY.size bY.bytes kP bm v1 bJ.length fG jW ad aA.length c2 cU jJ (cF ad hA) p9 (by unfold maxLen;omega) hb h.bn.size;exact ⟨v',w',q1,q2,q3,q5⟩
 have fU:(execOp a.eval ⟨some d,.call { callee:=.builtin .append,args:=#[x,y],argTypes:=#[T,T] },ty,pos,after,g⟩).run c.P w=.ok (.value v') w':=by
  simp [execOp,resolve,invoke,builtin,z8,hy,bz]
 rw [← zH] at cm;have nF:FR c.N w0 J (s.wr (ZE s d e (c.ty e).size (bJ++aA) i)) a w' (XZ β d v'.ownBlock):=by
  refine h.make i d (es:=bJ++aA) (fun k hk=>by rw [o9 k hk];rfl) (by rw [← k9];exact nS) ?_ ?_ cm ?_ ?_ (fun k=>?_) (fun k=>ab.ct _ _ _)
  ·intro q hq;rcases zO.1 hq with h'|h'
   ·exact cP q h'
   ·exact dR q h'
  ·intro f hf;rw [Zi] at hf;rcases zO.1 hf with h'|h'
   ·exact fZ f h'
   ·exact bV f h'
  ·rw [Zi];exact wY.append jU
  ·rw [← k9];rcases mb with e|e
   ·exact .inl e
   ·exact .inr (.inr ⟨_,e,zf _⟩)
  ·cases i with
   | none =>
    show (ab.set s d _).ob k=_;rw [ab.av];split
    ·rfl
    ·simp
   | some i=>
    show (ab.set (ab.set s i _) d _).ob k=_;rw [ab.av,ab.av];by_cases gB:d=k
    ·rw [if_pos gB,if_pos gB]
    ·rw [if_neg gB,if_neg gB];by_cases jF:i=k
     ·subst jF;simp
     ·rw [if_neg jF,if_neg (by simpa using jF)]
 have cV:(s.wr (ZE s d e (c.ty e).size (bJ++aA) i)).ob d=⟨(s.ob d).aa+1,.own,e,(c.ty e).size,bJ++aA⟩:=by
  cases i with
  | none => show (ab.set s d _).ob d=_; rw [ab.av, if_pos rfl]
  | some i => show (ab.set (ab.set s i _) d _).ob d=_; rw [ab.av, if_pos rfl]
 refine ⟨v',w',_,fU,nF,fun _ _=>?_,fun id aa e=>?_⟩
 ·rw [cV,xk];exact VP.fy cm rfl rfl rfl rfl
 ·simp only [FV.hands,zP,yu] at e;obtain ⟨e1,e2⟩:=e;replace e1:=e1.symm;replace e2:=e2.symm;subst e1;subst e2;rw [cV];exact zf _
theorem AS (h:FR c.N w0 J s a w β) (d:Nat) {T e:Nat} (hT:(c.ty T).k=.slice e) (he:(c.ty e).k≠.other) (bm:0<(c.ty e).size) (x y:Operand) {f1 f2:FV} {bJ aA:List (List FV)} {i:Option Nat} (ex:s.ev x=f1) (ey:s.ev y=f2)
  (h1:jc s f1 (c.ty e).size bJ i) (hE:∀ k,i=some k→(s.ob k).E=e) (h2:Src s f2 (c.ty e).size aA) (hb:(bJ.length+aA.length) * (c.ty e).bytes≤140737488355328) (hm:bJ.length+aA.length≤140737488355328) :
  yK c w0 J s a ⟨some d,.call { callee:=.builtin .append,args:=#[x,y],argTypes:=#[T,T] },ty,pos,after,g⟩ w (.list (c.ty e).size (bJ++aA)) (ZE s d e (c.ty e).size (bJ++aA) i++[(d,⟨(s.ob d).aa+1,.dead,e,(c.ty e).size,bJ++aA⟩)]):=by
 obtain ⟨v,w',aS,bz,hF,hV,_⟩:=Ve (ty:=ty) (pos:=pos) (after:=after) (g:=g) h d hT he bm x y ex ey h1 hE h2 hb hm;have cV:(s.wr (ZE s d e (c.ty e).size (bJ++aA) i)).ob d=⟨(s.ob d).aa+1,.own,e,(c.ty e).size,bJ++aA⟩:=by
  cases i with
  | none => show (ab.set s d _).ob d=_; rw [ab.av, if_pos rfl]
  | some i => show (ab.set (ab.set s i _) d _).ob d=_; rw [ab.av, if_pos rfl]
 have Ag:s.wr (ZE s d e (c.ty e).size (bJ++aA) i++[(d,⟨(s.ob d).aa+1,.dead,e,(c.ty e).size,bJ++aA⟩)])=(s.wr (ZE s d e (c.ty e).size (bJ++aA) i)).set d ⟨(s.ob d).aa+1,.dead,e,(c.ty e).size,bJ++aA⟩:=by
  unfold ab.wr;rw [List.foldl_append];rfl
 unfold yK;rw [Ag];generalize s.wr (ZE s d e (c.ty e).size (bJ++aA) i)=s1 at hF hV cV ⊢;have hl:(s1.ob d).ag≠.dead:=by rw [cV];exact fun q=>by cases q
 have bl:(s1.ob d).ag.row=true:=by rw [cV];rfl
 obtain ⟨A,cc,e1,e2,e3,e4,e5⟩:=(hV hl (by rw [cV])).ex;have wk:FR c.N w0 J (s1.set d ⟨(s.ob d).aa+1,.dead,e,(c.ty e).size,bJ++aA⟩) a w' aS:=
  hF.j5 d .dead (fun q=>by cases q) (fun _=>rfl) (fun q=>absurd rfl q) (fun k=>by rw [ab.av,cV]) (fun _=>rfl) (fun q=>absurd rfl q)
 have hI:∀ b,aR J w' aS s1 b→aR J w' aS (s1.set d ⟨(s.ob d).aa+1,.dead,e,(c.ty e).size,bJ++aA⟩) b∧w'.heap[b]? = w'.heap[b]?:=fun b aP=>by
  refine ⟨⟨aP.1,aP.2.1,fun id hq=>?_⟩,rfl⟩;rw [ab.av] at hq;split at hq
  ·cases hq
  ·exact aP.2.2 id hq
 have hw:=((hF.obj d hl).bA bl).wide;have bI:=((hF.obj d hl).bA bl).one;rw [cV] at hw bI;refine ⟨v,w',aS,bz,wk,?_,fun _ _ q=>(FV.bf rfl q).elim⟩;refine VR.bu ?_ rfl;rw [e1];cases lY:aS d with
 | none =>
  obtain ⟨rfl,rfl⟩:=e4 lY;have jL:(bJ++aA).length=0:=by omega
  have jN:bJ++aA=[]:=ZH jL;exact Rd.list none _ 0 _ _ [] rfl za hw bI (fun q=>absurd jL q) (by rw [jN];rfl) (fun j u f hu=>by simp at hu)
 | some b=>
  obtain ⟨cur,cap,bh,hn,mZ,bj,hr,aJ⟩:=hF.block hl bl lY;obtain ⟨o',rfl,k2,k3⟩:=e5 b lY;have bX : o'=0:=by have:=k2 (.inr rfl);rw [Zs] at this;exact this
  subst bX;rw [cV] at bh bj hr aJ hn;have hlen:(bJ++aA).flatten.length=(bJ++aA).length * (c.ty e).size:=xp hw;refine Rd.list (some ⟨b,0,none⟩) _ cc _ _ (cur.toList.take ((bJ++aA).length * (c.ty e).size)) rfl e2 hw bI (fun _=>⟨b,0,rfl,⟨?_,?_,fun id hq m6=>?_⟩,fun j u hu=>?_⟩) hr.1 (fun j u f hu hf=>(hr.2 j u f hu hf).mono hI)
  ·exact ((hF.obj d hl).lt lY).2
  ·exact hF.fresh b ((hF.obj d hl).lt lY).1 (.inr ⟨d,hl,lY⟩)
  ·rw [ab.av] at hq;split at hq
   ·cases hq
   ·rename_i aZ;exact aZ (hF.inj d id b hl (xL.bo hq) lY m6)
  ·rw [cell_of_row w' b _ cur _ (0,0) bh];rw [yD] at hu;split at hu
   ·simpa using hu
   ·cases hu
end
end Go.Proofs.YtedkppfghdipdaaGreatDoor
