/-
  Lemmas, in parts.
-/
import Derived.WalkKit
import Derived.WalkLawsBesides
import Derived.WalkSpells
import Derived.BigQuiet
import Derived.Deep.QuietTactic
import Derived.Handy
import Derived.Lib.Hide
import Derived.Maps.AppendAt
import Derived.StillTailTactics
import Derived.Deep.Draws
import Derived.Laws.OwnMore
import Derived.Maps.OwnSet
import Derived.Laws.MakeOwn
namespace Go.Proofs.YtedkppfghdipdaaGreatDoor
set_option linter.unusedVariables false
set_option maxHeartbeats 16000000
open Go.RowKit
abbrev ZP:=@Array.ext'
abbrev YG:=@Array.getD_eq_getD_getElem?
abbrev wj:=@Array.getElem?_append_left
abbrev Zh:=@Array.getElem?_eq_some_iff
abbrev sB:=@Array.getElem?_modify
abbrev sC:=@Array.getElem?_push
abbrev sD:=@Array.getElem?_replicate
abbrev wk:=@Array.getElem?_setIfInBounds_ne
abbrev pQ:=@Array.length_toList
abbrev sy:=@Array.toList_push
abbrev Xv:=@Below.refl
abbrev zU:=@Bool.and_eq_true
abbrev VE:=@Bool.eq_false_iff
abbrev YH:=@Bool.false_and
abbrev Xw:=@Bool.false_eq_true
abbrev yX:=@Bool.false_or
abbrev rZ:=@Bool.not_eq_true'
abbrev VF:=@Bool.or_eq_true
abbrev VG:=@Bool.or_true
abbrev Zn:=@Bool.true_and
abbrev VH:=@Bool.true_or
abbrev VI:=@DataW.trod_lt
abbrev VJ:=@Decidable.byContradiction
abbrev Xx:=@Int.natCast_nonneg
abbrev YI:=@Int.tmod_eq_emod_of_nonneg
abbrev r8:=@Int.toNat_natCast
abbrev xV:=@Int.toNat_of_nonneg
abbrev yx:=@Lib.hid
abbrev ZG:=@List.all_cons
abbrev zV:=@List.all_eq_true
abbrev YJ:=@List.all_nil
abbrev Yb:=@List.any_eq_true
abbrev ye:=@List.append_assoc
abbrev xW:=@List.append_nil
abbrev r9:=@List.cons_ne_nil
abbrev sa:=@List.contains_eq_mem
abbrev vV:=@List.drop_eq_getElem_cons
abbrev vW:=@List.drop_length_add_append
abbrev Zo:=@List.drop_zero
abbrev Yc:=@List.eq_nil_of_length_eq_zero
abbrev VK:=@List.eq_of_mem_replicate
abbrev Xy:=@List.filterMap_cons
abbrev sb:=@List.find?_eq_none
abbrev se:=@List.find?_some
abbrev Yd:=@List.flatMap_cons
abbrev Ye:=@List.flatten_append
abbrev yz:=@List.flatten_cons
abbrev rQ:=@List.foldl_append
abbrev rR:=@List.foldl_cons
abbrev WI:=@List.getD_cons_zero
abbrev xX:=@List.getD_eq_getElem?_getD
abbrev ZH:=@List.getElem?_append_left
abbrev Yf:=@List.getElem?_append_right
abbrev xY:=@List.getElem?_drop
abbrev xZ:=@List.getElem?_eq_getElem
abbrev yq:=@List.getElem?_eq_some_iff
abbrev yK:=@List.getElem?_map
abbrev rS:=@List.getElem?_of_mem
abbrev VL:=@List.getElem?_set
abbrev xg:=@List.getElem?_take
abbrev yR:=@List.getElem_mem
abbrev yS:=@List.getElem_of_mem
abbrev rT:=@List.getElem_set
abbrev yL:=@List.length_append
abbrev xo:=@List.length_cons
abbrev Xz:=@List.length_drop
abbrev XA:=@List.length_eq_one_iff
abbrev zy:=@List.length_map
abbrev VM:=@List.length_nil
abbrev xp:=@List.length_replicate
abbrev xh:=@List.length_set
abbrev yE:=@List.length_take
abbrev yY:=@List.map_append
abbrev XB:=@List.map_congr_left
abbrev zH:=@List.map_cons
abbrev yt:=@List.map_nil
abbrev VN:=@List.map_take
abbrev yT:=@List.mem_append
abbrev zT:=@List.mem_cons
abbrev Yg:=@List.mem_cons_of_mem
abbrev XC:=@List.mem_cons_self
abbrev yZ:=@List.mem_filterMap
abbrev rU:=@List.mem_flatMap
abbrev xi:=@List.mem_flatten
abbrev rV:=@List.mem_iff_getElem
abbrev zM:=@List.mem_map
abbrev rW:=@List.mem_of_find?_eq_some
abbrev zZ:=@List.mem_of_getElem?
abbrev xq:=@List.mem_of_mem_drop
abbrev xj:=@List.mem_of_mem_take
abbrev XD:=@List.mem_or_eq_of_mem_set
abbrev yf:=@List.mem_singleton
abbrev rX:=@List.mem_singleton_self
abbrev VO:=@List.nil_append
abbrev XE:=@List.nodup_cons
abbrev Za:=@List.not_mem_nil
abbrev VP:=@List.pairwise_iff_getElem
abbrev vX:=@List.replicate_append_replicate
abbrev vC:=@List.set_eq_take_append_cons_drop
abbrev WJ:=@List.size_toArray
abbrev Xc:=@List.take_append
abbrev Ww:=@List.take_append_of_le_length
abbrev yI:=@List.take_length
abbrev uN:=@List.take_length_add_append
abbrev ym:=@List.take_of_length_le
abbrev Yp:=@List.take_succ_eq_append_getElem
abbrev Zu:=@List.take_take
abbrev xD:=@MapKept.run_getObj_map
abbrev Wx:=@MapKept.run_setObj_map
abbrev Wy:=@Nat.add_assoc
abbrev Yq:=@Nat.add_comm
abbrev zQ:=@Nat.add_mul
abbrev Zv:=@Nat.add_zero
abbrev Wz:=@Nat.eq_of_beq_eq_true
abbrev WA:=@Nat.eq_of_mul_eq_mul_right
abbrev WC:=@Nat.eq_or_lt_of_le
abbrev WD:=@Nat.eq_zero_or_pos
abbrev yd:=@Nat.le_of_ble_eq_true
abbrev zi:=@Nat.le_refl
abbrev zR:=@Nat.le_trans
abbrev Zw:=@Nat.lt_of_lt_of_le
abbrev yJ:=@Nat.lt_or_ge
abbrev xE:=@Nat.min_eq_left
abbrev Yr:=@Nat.min_eq_right
abbrev WE:=@Nat.mul_le_mul
abbrev Ui:=@Nat.mul_le_mul_left
abbrev Ys:=@Nat.mul_le_mul_right
abbrev xR:=@Nat.mul_one
abbrev ZQ:=@Nat.not_lt_zero
abbrev ZR:=@Nat.one_mul
abbrev Xd:=@Nat.succ_lt_succ
abbrev xT:=@Nat.succ_pos
abbrev yr:=@Nat.zero_add
abbrev zB:=@Nat.zero_le
abbrev ZS:=@Nat.zero_mul
abbrev WF:=@Oper.upon_enter
abbrev Yt:=@Oper.upon_skip
abbrev Xe:=@Option.bind_some
abbrev WG:=@Option.getD_some
abbrev xU:=@Option.map_some
abbrev yh:=@Option.some.injEq
abbrev xb:=@Prod.mk.injEq
abbrev Yu:=@Result.andThen_ok
abbrev Zx:=@Sem.run_bind
abbrev Zy:=@Sem.run_pure
abbrev WH:=@World.ownsRow_nil
variable {Q:Prop} {B base cc ft i j l n off:Nat} {v:Value} {us xs:List Value} {a:Act} {w w' w0:World} {α:Type} {I I' : Nat→Prop} {β aE : Nat→Option Nat} {dst aA:Option Nat} {b bb:Bool} {d:TypeDesc} {x:Operand} {m:Int} {T2:TypeId} {fs:List (Nat×Nat)} {k2:IntKind} {A:Option Addr}
structure Ud (P:Prop):Prop where
 out:P
theorem xf {P:Prop} (h:P) (f:Ud P→Q:=by intro h;(repeat (first|refine FW.seq ?_|refine FW.region ?_));exact h.out):Q:=f ⟨h⟩
theorem za {P:Prop} (h:P) (f:Ud P→Q:=by intro h;(repeat (first|refine FW.seq ?_|refine FW.region ?_|refine FW.block ?_|refine FW.skip ?_|refine FW.exit ?_|refine FW.ew rfl ?_|refine FW.dM rfl ?_|refine zn.nil ?_|(refine lH ?_;first|refine zn.ab (zS rfl) rfl rfl ?_|refine zn.ab (yi rfl) rfl rfl ?_|(refine WX ?_;first|refine zn.ab (yF rfl rfl rfl (by first|omega|(simp;omega)|(simp;done)) (by first|exact zO (by omega)|rfl) rfl rfl) rfl rfl ?_|refine zn.ab (xM rfl rfl rfl rfl rfl (by first|omega|(simp;omega)|(simp;done)) (by first|exact zO (by omega)|rfl) rfl rfl) rfl rfl ?_|refine zn.ab (zJ rfl rfl rfl (by decide) (by first|omega|(simp;omega)|(simp;done)) (by first|exact zO (by omega)|rfl) rfl) rfl rfl ?_|refine zn.ab (yu rfl rfl rfl (by decide) rfl rfl (by first|omega|(simp;omega)|(simp;done)) (by first|exact zO (by omega)|rfl) rfl) rfl rfl ?_|refine zn.ab (uR rfl rfl rfl rfl rfl rfl (by first|omega|(simp;omega)|(simp;done)) (by first|exact zO (by omega)|rfl) rfl) rfl rfl ?_)|(refine C6 ?_;first|refine zn.aY (WL rfl rfl rfl rfl rfl rfl rfl rfl) rfl ?_|refine zn.aY (zA rfl rfl rfl rfl rfl rfl rfl rfl) rfl ?_|refine zn.aY (Eb rfl rfl rfl rfl rfl rfl (by first|omega|(simp;omega)|(simp;done)) (by first|exact zO (by omega)|rfl) rfl rfl) rfl ?_)|(refine Vl ?_;first|refine zn.ab (yN rfl rfl rfl rfl rfl) rfl rfl ?_|refine zn.ab (yD rfl rfl rfl rfl rfl rfl (by decide)) rfl rfl ?_)|(refine C5 ?_;first|refine zn.ab (yj rfl rfl (by first|rfl|exact (xV (by omega)).symm) rfl rfl rfl (by first|omega|(simp;omega)|(simp;done))) rfl rfl ?_|refine zn.ab (uQ rfl rfl (by first|rfl|exact (xV (by omega)).symm) rfl rfl rfl (by decide) rfl (by first|omega|(simp;omega)|(simp;done))) rfl rfl ?_)|(refine uZ ?_;first|refine zn.ab (VV rfl rfl) rfl rfl ?_|refine zn.ab (VU rfl rfl) rfl rfl ?_)|(refine sj ?_;first|refine zn.ab (XU rfl rfl) rfl rfl ?_|refine zn.ab (D6 rfl rfl rfl) rfl rfl ?_|refine zn.ab (qc rfl rfl) rfl rfl ?_|refine zn.ab (Ea rfl rfl rfl) rfl rfl ?_|refine zn.ab (qb rfl rfl) rfl rfl ?_|refine zn.ab (FJ rfl rfl) rfl rfl ?_|refine zn.ab (qa rfl rfl) rfl rfl ?_|refine zn.ab (wK rfl rfl) rfl rfl ?_|refine zn.ab (Vr rfl rfl (by omega)) rfl rfl ?_|refine zn.ab (XV rfl rfl (by omega)) rfl rfl ?_)|refine zn.aR (Dm rfl) rfl rfl ?_|refine zn.aR (yV rfl rfl rfl rfl rfl) rfl rfl ?_|refine zn.aR (yA rfl rfl rfl rfl rfl) rfl rfl ?_|refine Xs rfl rfl rfl rfl ?_|refine zn.aR (Dj rfl rfl rfl rfl) rfl rfl ?_|refine zn.aR (xN rfl rfl rfl rfl rfl rfl rfl rfl) rfl rfl ?_|refine zn.ab (uK rfl rfl rfl) rfl rfl ?_|refine zn.ab (Dl rfl rfl) rfl rfl ?_|refine zn.ab (XF rfl rfl rfl rfl) rfl rfl ?_|refine wE rfl rfl (by first|exact zy _|exact (zy _).symm|exact xp|rfl|(simp;done)|omega|(simp;omega)) rfl rfl rfl (by decide) (by first|exact fK.own rfl rfl (by decide) (by first|exact zy _|exact (zy _).symm|exact xp|rfl|(simp;done)|omega|(simp;omega))|exact fK.list rfl|exact fK.nil rfl|exact fK.part rfl rfl (by decide)) (by first|omega|(simp;omega)|(simp;done)) (by first|omega|(simp;omega)|(simp;done)) rfl rfl rfl ?_|refine zn.ab (D8 rfl rfl rfl (by decide)) rfl rfl ?_|refine zn.ab (Zi rfl rfl (by first|exact zy _|exact (zy _).symm|exact xp|rfl|(simp;done)|omega|(simp;omega))) rfl rfl ?_|refine zn.ab (D7 rfl rfl) rfl rfl ?_|refine zn.ab (wL rfl rfl) rfl rfl ?_|refine zn.ab (qd rfl) rfl rfl ?_)|(refine wY ?_;first|refine zn.ab (zS rfl) rfl ⟨_,_,rfl,rfl,rfl⟩ ?_|(refine WX ?_;first|refine zn.ab (yF rfl rfl rfl (by first|omega|(simp;omega)|(simp;done)) (by first|exact zO (by omega)|rfl) rfl rfl) rfl ⟨_,_,rfl,rfl,rfl⟩ ?_|refine zn.ab (xM rfl rfl rfl rfl rfl (by first|omega|(simp;omega)|(simp;done)) (by first|exact zO (by omega)|rfl) rfl rfl) rfl ⟨_,_,rfl,rfl,rfl⟩ ?_|refine zn.ab (zJ rfl rfl rfl (by decide) (by first|omega|(simp;omega)|(simp;done)) (by first|exact zO (by omega)|rfl) rfl) rfl ⟨_,_,rfl,rfl,rfl⟩ ?_|refine zn.ab (yu rfl rfl rfl (by decide) rfl rfl (by first|omega|(simp;omega)|(simp;done)) (by first|exact zO (by omega)|rfl) rfl) rfl ⟨_,_,rfl,rfl,rfl⟩ ?_)|refine zn.ab (yD rfl rfl rfl rfl rfl rfl (by decide)) rfl ⟨_,_,rfl,rfl,rfl⟩ ?_|refine zn.ab (yj rfl rfl (by first|rfl|exact (xV (by omega)).symm) rfl rfl rfl (by first|omega|(simp;omega)|(simp;done))) rfl ⟨_,_,rfl,rfl,rfl⟩ ?_|(refine uZ ?_;first|refine zn.ab (VV rfl rfl) rfl ⟨_,_,rfl,rfl,rfl⟩ ?_|refine zn.ab (VU rfl rfl) rfl ⟨_,_,rfl,rfl,rfl⟩ ?_)|(refine sj ?_;first|refine zn.ab (XU rfl rfl) rfl ⟨_,_,rfl,rfl,rfl⟩ ?_|refine zn.ab (Fq rfl rfl rfl) rfl ⟨_,_,rfl,rfl,rfl⟩ ?_|refine zn.ab (qc rfl rfl) rfl ⟨_,_,rfl,rfl,rfl⟩ ?_|refine zn.ab (qb rfl rfl) rfl ⟨_,_,rfl,rfl,rfl⟩ ?_|refine zn.ab (qa rfl rfl) rfl ⟨_,_,rfl,rfl,rfl⟩ ?_|refine zn.ab (wK rfl rfl) rfl ⟨_,_,rfl,rfl,rfl⟩ ?_)|refine Xs rfl rfl rfl ⟨_,_,rfl,rfl,rfl⟩ ?_|refine zn.ab (XF rfl rfl rfl rfl) rfl ⟨_,_,rfl,rfl,rfl⟩ ?_|refine zn.ab (Zi rfl rfl (by first|exact zy _|exact (zy _).symm|exact xp|rfl|(simp;done)|omega|(simp;omega))) rfl ⟨_,_,rfl,rfl,rfl⟩ ?_|refine zn.ab (FK rfl rfl) rfl ⟨_,_,rfl,rfl,rfl⟩ ?_|refine zn.ab (qd rfl) rfl ⟨_,_,rfl,rfl,rfl⟩ ?_|refine wG rfl rfl ⟨_,_,rfl,rfl,rfl⟩ ?_)|refine ZF.nil ?_|refine ZF.one rfl rfl rfl rfl rfl ?_|refine ZF.agg rfl rfl rfl rfl (r9 _ _) rfl ?_));exact h.out):Q:=f ⟨h⟩
theorem yO {P:Prop} (h:P) (f:Ud P→Q:=by intro h;(repeat (first|refine FW.seq ?_|refine FW.region ?_|refine FW.block ?_|refine FW.skip ?_|refine FW.exit ?_|refine FW.ew rfl ?_|refine FW.dM rfl ?_|refine zn.nil ?_|(refine lH ?_;first|refine zn.ab (yi rfl) rfl rfl ?_|(refine WX ?_;first|refine zn.ab (yF rfl rfl rfl (by first|omega|(simp;omega)|(simp;done)) (by first|exact zO (by omega)|rfl) rfl rfl) rfl rfl ?_|refine zn.ab (xM rfl rfl rfl rfl rfl (by first|omega|(simp;omega)|(simp;done)) (by first|exact zO (by omega)|rfl) rfl rfl) rfl rfl ?_)|(refine Vl ?_;first|refine zn.ab (yN rfl rfl rfl rfl rfl) rfl rfl ?_|refine zn.ab (yD rfl rfl rfl rfl rfl rfl (by decide)) rfl rfl ?_)|(refine sj ?_;first|refine zn.ab (XU rfl rfl) rfl rfl ?_|refine zn.ab (qb rfl rfl) rfl rfl ?_)|refine zn.aR (yV rfl rfl rfl rfl rfl) rfl rfl ?_|refine zn.aR (yA rfl rfl rfl rfl rfl) rfl rfl ?_|refine zn.ab (XF rfl rfl rfl rfl) rfl rfl ?_|refine zn.ab (Zi rfl rfl (by first|exact zy _|exact (zy _).symm|exact xp|rfl|(simp;done)|omega|(simp;omega))) rfl rfl ?_)|refine FW.draw ?_|refine zI.nil ?_|(refine qh ?_;first|refine zI.ab (zS rfl) rfl rfl ?_|refine zI.ab (yi rfl) rfl rfl ?_|(refine WV ?_;first|refine zI.ab (yF rfl rfl rfl (by first|omega|(simp;omega)|(simp;done)) (by first|exact zO (by omega)|rfl) rfl rfl) rfl rfl ?_|refine zI.ab (xM rfl rfl rfl rfl rfl (by first|omega|(simp;omega)|(simp;done)) (by first|exact zO (by omega)|rfl) rfl rfl) rfl rfl ?_|refine zI.ab (zJ rfl rfl rfl (by decide) (by first|omega|(simp;omega)|(simp;done)) (by first|exact zO (by omega)|rfl) rfl) rfl rfl ?_|refine zI.ab (yu rfl rfl rfl (by decide) rfl rfl (by first|omega|(simp;omega)|(simp;done)) (by first|exact zO (by omega)|rfl) rfl) rfl rfl ?_)|refine zI.aY (WL rfl rfl rfl rfl rfl rfl rfl rfl) rfl ?_|(refine Vk ?_;first|refine zI.ab (yN rfl rfl rfl rfl rfl) rfl rfl ?_|refine zI.ab (yD rfl rfl rfl rfl rfl rfl (by decide)) rfl rfl ?_)|refine zI.ab (yj rfl rfl (by first|rfl|exact (xV (by omega)).symm) rfl rfl rfl (by first|omega|(simp;omega)|(simp;done))) rfl rfl ?_|(refine sg ?_;first|refine zI.ab (XU rfl rfl) rfl rfl ?_|refine zI.ab (XV rfl rfl (by omega)) rfl rfl ?_)|refine zI.aR (yV rfl rfl rfl rfl rfl) rfl rfl ?_|refine zI.ab (wz rfl rfl (by decide)) rfl rfl ?_|refine zI.ab (Zi rfl rfl (by first|exact zy _|exact (zy _).symm|exact xp|rfl|(simp;done)|omega|(simp;omega))) rfl rfl ?_)));exact h.out):Q:=f ⟨h⟩
theorem Wd {P:Prop} (h:P) (f:Ud P→Q:=by intro h;(repeat (first|refine FW.seq ?_|refine FW.region ?_|refine FW.block ?_|refine FW.skip ?_|refine FW.exit ?_|refine FW.ew rfl ?_|refine FW.dM rfl ?_|refine zn.nil ?_|(refine lH ?_;first|refine zn.ab (yi rfl) rfl rfl ?_|refine zn.ab (xM rfl rfl rfl rfl rfl (by first|omega|(simp;omega)|(simp;done)) (by first|exact zO (by omega)|rfl) rfl rfl) rfl rfl ?_|refine zn.ab (yD rfl rfl rfl rfl rfl rfl (by decide)) rfl rfl ?_|refine zn.ab (XU rfl rfl) rfl rfl ?_|refine zn.aR (yV rfl rfl rfl rfl rfl) rfl rfl ?_)|refine FW.draw ?_|(refine qh ?_;first|refine zI.ab (zS rfl) rfl rfl ?_|(refine WV ?_;first|refine zI.ab (yF rfl rfl rfl (by first|omega|(simp;omega)|(simp;done)) (by first|exact zO (by omega)|rfl) rfl rfl) rfl rfl ?_|refine zI.ab (xM rfl rfl rfl rfl rfl (by first|omega|(simp;omega)|(simp;done)) (by first|exact zO (by omega)|rfl) rfl rfl) rfl rfl ?_)|(refine Vk ?_;first|refine zI.ab (yN rfl rfl rfl rfl rfl) rfl rfl ?_|refine zI.ab (yD rfl rfl rfl rfl rfl rfl (by decide)) rfl rfl ?_)|refine zI.ab (yj rfl rfl (by first|rfl|exact (xV (by omega)).symm) rfl rfl rfl (by first|omega|(simp;omega)|(simp;done))) rfl rfl ?_)));exact h.out):Q:=f ⟨h⟩
theorem pR {P:Prop} (h:P) (f:Ud P→Q:=by intro h;(repeat (first|refine FW.seq ?_|refine FW.region ?_|refine FW.skip ?_|refine zn.nil ?_|(refine lH ?_;first|refine zn.ab (zS rfl) rfl rfl ?_|refine zn.aY (WL rfl rfl rfl rfl rfl rfl rfl rfl) rfl ?_|refine zn.ab (yD rfl rfl rfl rfl rfl rfl (by decide)) rfl rfl ?_|refine zn.ab (XV rfl rfl (by omega)) rfl rfl ?_)));exact h.out):Q:=f ⟨h⟩
theorem Uj {P:Prop} (h:P) (f:Ud P→Q:=by intro h;(repeat (first|refine FW.seq ?_|refine FW.region ?_|refine FW.block ?_|refine FW.skip ?_|refine FW.exit ?_|refine FW.ew rfl ?_|refine zn.nil ?_|(refine lH ?_;first|refine zn.ab (zS rfl) rfl rfl ?_|refine zn.ab (yN rfl rfl rfl rfl rfl) rfl rfl ?_|refine zn.ab (yj rfl rfl (by first|rfl|exact (xV (by omega)).symm) rfl rfl rfl (by first|omega|(simp;omega)|(simp;done))) rfl rfl ?_|refine zn.ab (qd rfl) rfl rfl ?_)));exact h.out):Q:=f ⟨h⟩
theorem YL {P:Prop} (h:P) (f:Ud P→Q:=by intro h;(repeat (first|refine FW.seq ?_|refine FW.region ?_|refine FW.block ?_|refine FW.skip ?_|refine FW.exit ?_|refine FW.ew rfl ?_|refine FW.dM rfl ?_|refine zn.nil ?_|(refine lH ?_;first|refine zn.ab (zS rfl) rfl rfl ?_|refine zn.ab (yi rfl) rfl rfl ?_|(refine WX ?_;first|refine zn.ab (yF rfl rfl rfl (by first|omega|(simp;omega)|(simp;done)) (by first|exact zO (by omega)|rfl) rfl rfl) rfl rfl ?_|refine zn.ab (xM rfl rfl rfl rfl rfl (by first|omega|(simp;omega)|(simp;done)) (by first|exact zO (by omega)|rfl) rfl rfl) rfl rfl ?_)|refine zn.aY (zA rfl rfl rfl rfl rfl rfl rfl rfl) rfl ?_|(refine Vl ?_;first|refine zn.ab (yN rfl rfl rfl rfl rfl) rfl rfl ?_|refine zn.ab (yD rfl rfl rfl rfl rfl rfl (by decide)) rfl rfl ?_)|refine zn.ab (yj rfl rfl (by first|rfl|exact (xV (by omega)).symm) rfl rfl rfl (by first|omega|(simp;omega)|(simp;done))) rfl rfl ?_|refine zn.ab (VV rfl rfl) rfl rfl ?_|refine zn.ab (XU rfl rfl) rfl rfl ?_|refine Xs rfl rfl rfl rfl ?_|refine zn.ab (XF rfl rfl rfl rfl) rfl rfl ?_)|(refine wY ?_;first|refine zn.ab (xM rfl rfl rfl rfl rfl (by first|omega|(simp;omega)|(simp;done)) (by first|exact zO (by omega)|rfl) rfl rfl) rfl ⟨_,_,rfl,rfl,rfl⟩ ?_|refine zn.ab (yD rfl rfl rfl rfl rfl rfl (by decide)) rfl ⟨_,_,rfl,rfl,rfl⟩ ?_|refine zn.ab (qa rfl rfl) rfl ⟨_,_,rfl,rfl,rfl⟩ ?_|refine zn.ab (Zi rfl rfl (by first|exact zy _|exact (zy _).symm|exact xp|rfl|(simp;done)|omega|(simp;omega))) rfl ⟨_,_,rfl,rfl,rfl⟩ ?_)|refine ZF.nil ?_|refine ZF.one rfl rfl rfl rfl rfl ?_));exact h.out):Q:=f ⟨h⟩
theorem Xf {P:Prop} (h:P) (f:Ud P→Q:=by intro h;(repeat (first|refine FW.seq ?_|refine FW.region ?_|refine FW.exit ?_|refine zn.nil ?_|(refine lH ?_;first|refine zn.ab (zS rfl) rfl rfl ?_|refine zn.ab (yi rfl) rfl rfl ?_|refine wF rfl rfl rfl rfl rfl ?_)));exact h.out):Q:=f ⟨h⟩
theorem zt {P:Prop} (h:P) (f:Ud P→Q:=by intro h;(repeat (first|refine ZF.nil ?_|refine ZF.one rfl rfl rfl rfl rfl ?_|refine ZF.agg rfl rfl rfl rfl (r9 _ _) rfl ?_|refine zI.nil ?_|(refine qh ?_;first|refine zI.ab (zS rfl) rfl rfl ?_|refine zI.ab (yi rfl) rfl rfl ?_|(refine WV ?_;first|refine zI.ab (yF rfl rfl rfl (by first|omega|(simp;omega)|(simp;done)) (by first|exact zO (by omega)|rfl) rfl rfl) rfl rfl ?_|refine zI.ab (xM rfl rfl rfl rfl rfl (by first|omega|(simp;omega)|(simp;done)) (by first|exact zO (by omega)|rfl) rfl rfl) rfl rfl ?_|refine zI.ab (zJ rfl rfl rfl (by decide) (by first|omega|(simp;omega)|(simp;done)) (by first|exact zO (by omega)|rfl) rfl) rfl rfl ?_|refine zI.ab (yu rfl rfl rfl (by decide) rfl rfl (by first|omega|(simp;omega)|(simp;done)) (by first|exact zO (by omega)|rfl) rfl) rfl rfl ?_)|refine zI.aY (zA rfl rfl rfl rfl rfl rfl rfl rfl) rfl ?_|(refine Vk ?_;first|refine zI.ab (yN rfl rfl rfl rfl rfl) rfl rfl ?_|refine zI.ab (yD rfl rfl rfl rfl rfl rfl (by decide)) rfl rfl ?_)|refine zI.ab (yj rfl rfl (by first|rfl|exact (xV (by omega)).symm) rfl rfl rfl (by first|omega|(simp;omega)|(simp;done))) rfl rfl ?_|(refine EH ?_;first|refine zI.ab (VV rfl rfl) rfl rfl ?_|refine zI.ab (VU rfl rfl) rfl rfl ?_)|(refine sg ?_;first|refine zI.ab (XU rfl rfl) rfl rfl ?_|refine zI.ab (qc rfl rfl) rfl rfl ?_|refine zI.ab (Vr rfl rfl (by omega)) rfl rfl ?_|refine zI.ab (XV rfl rfl (by omega)) rfl rfl ?_)|refine zI.aR (yV rfl rfl rfl rfl rfl) rfl rfl ?_|refine EF rfl rfl rfl rfl ?_|refine zI.ab (uK rfl rfl rfl) rfl rfl ?_|refine wD rfl rfl (by first|exact zy _|exact (zy _).symm|exact xp|rfl|(simp;done)|omega|(simp;omega)) rfl rfl rfl (by decide) (by first|exact fK.own rfl rfl (by decide) (by first|exact zy _|exact (zy _).symm|exact xp|rfl|(simp;done)|omega|(simp;omega))|exact fK.list rfl|exact fK.nil rfl|exact fK.part rfl rfl (by decide)) (by first|omega|(simp;omega)|(simp;done)) (by first|omega|(simp;omega)|(simp;done)) rfl rfl rfl ?_|refine zI.ab (Zi rfl rfl (by first|exact zy _|exact (zy _).symm|exact xp|rfl|(simp;done)|omega|(simp;omega))) rfl rfl ?_|refine zI.ab (qd rfl) rfl rfl ?_)|(refine wX ?_;first|refine zI.ab (zS rfl) rfl ⟨_,_,rfl,rfl,rfl⟩ ?_|(refine WV ?_;first|refine zI.ab (yF rfl rfl rfl (by first|omega|(simp;omega)|(simp;done)) (by first|exact zO (by omega)|rfl) rfl rfl) rfl ⟨_,_,rfl,rfl,rfl⟩ ?_|refine zI.ab (zJ rfl rfl rfl (by decide) (by first|omega|(simp;omega)|(simp;done)) (by first|exact zO (by omega)|rfl) rfl) rfl ⟨_,_,rfl,rfl,rfl⟩ ?_)|refine zI.ab (yN rfl rfl rfl rfl rfl) rfl ⟨_,_,rfl,rfl,rfl⟩ ?_|refine zI.ab (yj rfl rfl (by first|rfl|exact (xV (by omega)).symm) rfl rfl rfl (by first|omega|(simp;omega)|(simp;done))) rfl ⟨_,_,rfl,rfl,rfl⟩ ?_|(refine sg ?_;first|refine zI.ab (XU rfl rfl) rfl ⟨_,_,rfl,rfl,rfl⟩ ?_|refine zI.ab (qb rfl rfl) rfl ⟨_,_,rfl,rfl,rfl⟩ ?_)|refine zI.ab (Zi rfl rfl (by first|exact zy _|exact (zy _).symm|exact xp|rfl|(simp;done)|omega|(simp;omega))) rfl ⟨_,_,rfl,rfl,rfl⟩ ?_|refine Fa rfl rfl ⟨_,_,rfl,rfl,rfl⟩ ?_)));exact h.out):Q:=f ⟨h⟩
theorem YK {P:Prop} (h:P) (f:Ud P→Q:=by intro h;(repeat (first|(refine qh ?_;first|refine zI.ab (zS rfl) rfl rfl ?_|refine zI.ab (xM rfl rfl rfl rfl rfl (by first|omega|(simp;omega)|(simp;done)) (by first|exact zO (by omega)|rfl) rfl rfl) rfl rfl ?_|refine zI.ab (yD rfl rfl rfl rfl rfl rfl (by decide)) rfl rfl ?_|refine zI.ab (yj rfl rfl (by first|rfl|exact (xV (by omega)).symm) rfl rfl rfl (by first|omega|(simp;omega)|(simp;done))) rfl rfl ?_)|(refine wX ?_;first|refine zI.ab (zS rfl) rfl ⟨_,_,rfl,rfl,rfl⟩ ?_|refine zI.ab (yj rfl rfl (by first|rfl|exact (xV (by omega)).symm) rfl rfl rfl (by first|omega|(simp;omega)|(simp;done))) rfl ⟨_,_,rfl,rfl,rfl⟩ ?_)));exact h.out):Q:=f ⟨h⟩
theorem Zp {P:Prop} (h:P) (f:Ud P→Q:=by intro h;(repeat (first|refine zn.nil ?_|(refine lH ?_;first|refine zn.ab (yi rfl) rfl rfl ?_|refine zn.ab (yu rfl rfl rfl (by decide) rfl rfl (by first|omega|(simp;omega)|(simp;done)) (by first|exact zO (by omega)|rfl) rfl) rfl rfl ?_|refine zn.aY (zA rfl rfl rfl rfl rfl rfl rfl rfl) rfl ?_|refine zn.aR (yV rfl rfl rfl rfl rfl) rfl rfl ?_|refine zn.aR (yA rfl rfl rfl rfl rfl) rfl rfl ?_|refine wF rfl rfl rfl rfl rfl ?_|refine zn.aR (xN rfl rfl rfl rfl rfl rfl rfl rfl) rfl rfl ?_)));exact h.out):Q:=f ⟨h⟩
theorem Er {P:Prop} (h:P:=by repeat (first|exact Ve.nil|refine Ve.cons (.plain rfl rfl) ?_|refine Ve.cons (.nil (.head _) rfl) ?_|refine Ve.cons (.own (.tail _ (.tail _ (.tail _ (.head _)))) rfl (by first|rfl|(simp;done)|(congr 1;omega)|(simp;omega)|(simp [ym];done)|(refine congrArg (FV.int .i64) ?_;omega)) (by first|rfl|(simp;done)|(congr 1;omega)|(simp;omega)|(simp [ym];done)|(refine congrArg (FV.int .i64) ?_;omega))) ?_|refine Ve.cons (.nil (.tail _ (.tail _ (.tail _ (.head _)))) rfl) ?_)):P:=h
theorem zq {P:Prop} (h:P:=by repeat (first|exact .nil|refine .cons (.plain rfl rfl (by first|rfl|(simp;done)|(congr 1;omega)|(simp;omega)|(simp [ym];done)|(refine congrArg (FV.int .i64) ?_;omega))) ?_|refine .cons (.own rfl (.head _) rfl (by first|rfl|(simp;done)|(congr 1;omega)|(simp;omega)|(simp [ym];done)|(refine congrArg (FV.int .i64) ?_;omega))) ?_|refine .cons (.nil rfl (.head _) rfl) ?_|refine .cons (.ptr rfl (.head _) rfl) ?_|refine .cons (.omap rfl (.head _) rfl) ?_|refine .cons (.own rfl (.tail _ (.head _)) rfl (by first|rfl|(simp;done)|(congr 1;omega)|(simp;omega)|(simp [ym];done)|(refine congrArg (FV.int .i64) ?_;omega))) ?_|refine .cons (.nil rfl (.tail _ (.head _)) rfl) ?_|refine .cons (.ptr rfl (.tail _ (.head _)) rfl) ?_|refine .cons (.own rfl (.tail _ (.tail _ (.head _))) rfl (by first|rfl|(simp;done)|(congr 1;omega)|(simp;omega)|(simp [ym];done)|(refine congrArg (FV.int .i64) ?_;omega))) ?_|refine .cons (.nil rfl (.tail _ (.tail _ (.head _))) rfl) ?_|refine .cons (.ptr rfl (.tail _ (.tail _ (.head _))) rfl) ?_)):P:=h
theorem zm {P:Prop} (h:P:=by repeat (first|exact .nil|refine .oX rfl (by decide) (by first|rfl|(simp;done)|(congr 1;omega)|(simp;omega)|(simp [ym];done)|(refine congrArg (FV.int .i64) ?_;omega)) ?_|refine .oY rfl (kv.cons Er rfl kv.nil) ?_|refine .new ?_)):P:=h
theorem xr {P:Prop} (h:P:=by repeat (first|exact zf.nil|refine zf.cons (by first|exact gH.plain rfl rfl|exact gH.own rfl rfl (by decide) (by first|exact (fun _=>rfl)|(intro h;cases h)) (by first|rfl|(simp;done)|(congr 1;omega)|(simp;omega)|(simp [ym];done)|(refine congrArg (FV.int .i64) ?_;omega))|exact gH.nil rfl|exact gH.sub rfl rfl (by repeat (first|exact FV.le.refl _|exact FV.le.nil _|refine FV.le.agg ?_|refine FV.le.bS ?_|exact iC.nil|refine iC.cons ?_ ?_|exact FV.le.undef _))|exact gH.part rfl rfl (by decide) (by first|exact (fun _=>rfl)|(intro h;cases h))) ?_)):P:=h
theorem VQ {P:Prop} (h:P:=by first|(simp;omega)|(simp;done)):P:=h
theorem yg {P:Prop} (h:P:=by simp [Op.operands,Call.operands]):P:=h
theorem xK {P:Prop} (h:P:=by repeat (first|exact zf.nil)):P:=h
theorem Zb {P:Prop} (h:P:=by repeat (first|exact .nil)):P:=h
theorem zd {P:Prop} (h:P:=by exact gH.plain rfl rfl):P:=h
theorem zp {P:Prop} (h:P:=by simp [Op.operands]):P:=h
theorem zF {P:Prop} (h:P:=by simp;omega):P:=h
theorem zD {P:Prop} (h:P:=by kernel_rfl):P:=h
theorem xt {P:Prop} (h:P:=by simp;done):P:=h
theorem zb {P:Prop} (h:P:=by decide):P:=h
theorem zc {P:Prop} (h:P:=by omega):P:=h
theorem zg {P:Prop} (h:P:=by simp):P:=h
def flat {α:Type} (aS:α→List Value) (l:List α):List Value:=l.flatMap aS
def sU {α:Type} (sz:Nat) (aS:α→List Value):Prop:=∀ a,(aS a).length=sz
section
variable {α:Type} {sz:Nat} {aS:α→List Value}
theorem vJ (h:sU sz aS):∀ (l:List α) (i j:Nat) (hi:i<l.length),j<sz→(flat aS l)[i * sz+j]? = (aS l[i])[j]?
 | [], i, _, hi, _ => by simp at hi
 | a :: l, 0, j, _, hj => by
  simp only [flat,Yd,ZS,yr,List.getElem_cons_zero];rw [ZH (by rw [h a];exact hj)]
 | a :: l, i+1, j, hi, hj => by
  have ih:=vJ h l i j (by simpa using hi) hj;simp only [flat,Yd,List.getElem_cons_succ] at *;rw [Yf (by rw [h a,zQ];omega),h a,← ih];congr 1;rw [zQ];omega
def Sl (aS:α→List Value) (w:World) (B:Nat) (A:Option Addr) (l:List α):Prop:=
 l≠[]→∃ b off,A=some ⟨b,off,none⟩∧b<B∧∀ j u,(flat aS l)[j]? = some u→w.cell? ⟨b,off+j,none⟩=some u
variable {w w' : World} {B B' : Nat} {A:Option Addr} {l:List α}
theorem Sl.rI (aS:α→List Value) (w:World) (B:Nat) (A:Option Addr):Sl aS w B A []:=fun h=>absurd rfl h
theorem Sl.keep (h:Sl aS w B A l) (hk:∀ p:Addr,p.block<B→w'.cell? p=w.cell? p):Sl aS w' B A l:=fun hl=>by
 obtain ⟨b,off,ha,hb,hc⟩:=h hl;exact ⟨b,off,ha,hb,fun j u hu=>(hk _ hb).trans (hc j u hu)⟩
theorem Sl.below (h:Sl aS w B A l) (hb:Below B w w'):Sl aS w' B A l:=h.keep fun _ hp=>hb.cell hp
theorem Sl.get (h:Sl aS w B A l) (hs:sU sz aS) (hi:i<l.length):∃ b off,A=some ⟨b,off,none⟩∧b<B∧∀ j u,j<sz→(aS l[i])[j]? = some u→w.cell? ⟨b,off+i * sz+j,none⟩=some u:=by
 obtain ⟨b,off,ha,hb,hc⟩:=h (by rintro rfl;simp at hi);refine ⟨b,off,ha,hb,fun j u hj hu=>?_⟩;rw [Wy];exact hc _ u (by rw [vJ hs l i j hi hj];exact hu)
theorem vR {kS : Nat} {e:TypeId} (h:w.ownsRow base e sz v n xs) (hb:kS≤base):w.ownsRow kS e sz v n xs:=by
 refine ⟨h.1,?_⟩;rcases h.2 with hn|⟨g,cap,cur,rfl,bB,r⟩
 ·exact .inl hn
 ·exact .inr ⟨g,cap,cur,rfl,by omega,r⟩
end
theorem o6 {a:World} (h:Below B a w) (n:Nat):Below B a (w.drewN n):=⟨h.os,h.tape,h.output,h.size,h.block⟩
theorem x8 {w1 w2:World} (h:Below w.heap.size w w1) (k:Below w1.heap.size w1 w2):Below w.heap.size w w2:=h.trans (k.mono h.size)
def dF (w:World) (g:Nat) (t:TypeId) (cs:List Value):Prop:=w.heap[g]? = some (.cells cs.toArray t (0,0))
section
variable {w w' : World} {g:Nat} {t:TypeId} {cs:List Value}
theorem dF.lt (h:dF w g t cs):g<w.heap.size:=by
 rcases yJ g w.heap.size with az|gP
 ·exact az
 ·unfold dF at h;rw [Array.getElem?_eq_none gP] at h;cases h
theorem dF.cell (h:dF w g t cs) (i:Nat):w.cell? ⟨g,i,none⟩=cs[i]?:=by rw [cell_of_row w g i cs.toArray t (0,0) h];simp
theorem dF.new (w:World) (t:TypeId) (cs:List Value):dF (w.alloc (.cells cs.toArray t)) w.heap.size t cs:=heap_alloc_new w _
theorem dF.drewN (h:dF w g t cs) (n:Nat):dF (w.drewN n) g t cs:=h
theorem dF.alloc (h:dF w g t cs) (o:Obj):dF (w.alloc o) g t cs:=(Below.heap_alloc w o g h.lt).trans h
theorem dF.below (h:dF w g t cs) (hb:Below B w w') (hg:g<B):dF w' g t cs:=(hb.block g hg).trans h
theorem dF.grown {row:Option Nat} (h:dF w g t cs) (hb:w.grownBy w' row) (hg:some g≠row):dF w' g t cs:=(hb.block g h.lt hg).trans h
end
def nth {α:Type} [Inhabited α] (l:List α) (i:Nat):α:=l.getD i default
theorem xI [Inhabited α] {l:List α} (h:i<l.length):nth l i=l[i]:=by simp [nth,h]
theorem yn [Inhabited α] {l:List α} (h:i<l.length):nth l i∈l:=by rw [xI h];exact yR h
def pd {σ:Type} (f:Nat→σ→σ) (s:σ):Nat→σ
 | 0 => s
 | k+1 => f k (pd f s k)
def bD (x:Int):Prop:=-9223372036854775808≤x∧x≤9223372036854775807
theorem sK (x:Int) (h:bD x):IntKind.i64.wrap x=x:=by
 unfold bD at h;rw [IntKind.wrap_i64];omega
inductive Wk where
 | fn (f:Nat)|bound (f:Nat)|agg|bS|pJ (t:Nat)|z4 (n:Nat)
 deriving Inhabited,DecidableEq
inductive FV where
 | undef
 | int (k:IntKind) (n:Int)
 | bool (b:Bool)
 | str (s:ByteArray)
 | nil
 | cm
 | ak
 | list (sz:Nat) (es:List (List FV))
 | ay (sz:Nat) (es:List (List FV)) (i off:Nat)
 | agg (cs:List FV)
 | bS (vs:List FV)
 | own (id aa o n:Nat)
 | ptr (id aa i off:Nat)
 | omap (id aa:Nat)
 | smap (es:List (List FV))
 | fn (f:Nat) (aF:List FV)
 | iface (t:Nat) (f:FV)
 | wrap (k:Wk) (fs:List FV)
 | perm (sz:Nat) (es:List (List FV))
 | iD (f:Nat) (aF:List FV)
 deriving Inhabited
def Wk.mk:Wk→List Value→Value
 | .fn f, us => .func (.func f) #[] us.toArray
 | .bound f, us => .func (.func f) us.toArray #[]
 | .agg, us => .agg us.toArray
 | .bS, us => .tuple us.toArray
 | .pJ t, us => .iface t (us.headD .nilFunc)
 | .z4 n, us => .tuple (.agg (us.take n).toArray :: us.drop n).toArray
def FV.one:FV→Bool
 | .int _ _|.bool _|.str _|.nil|.cm|.ak|.list _ _|.smap _|.fn _ _|.iface _ _|.iD _ _|.ay _ _ _ _ => true
 | _ => false
def FV.cq:FV→Value
 | .int k n => .int k n
 | .bool b => .bool b
 | .str s => .string s
 | _ => .nilFunc
def FV.val:FV→Value
 | .agg cs => .agg (cs.map FV.cq).toArray
 | f => f.cq
def FV.aH:FV→Bool
 | .int _ _|.bool _|.str _ => true
 | _ => false
def FV.simple:FV→Bool
 | .agg cs => cs.all FV.aH
 | f => f.aH
inductive Rd (w:World) (I:Nat→Prop):Value→FV→Prop where
 | undef (v:Value):Rd w I v .undef
 | int (k:IntKind) (n:Int):Rd w I (.int k n) (.int k n)
 | bool (b:Bool):Rd w I (.bool b) (.bool b)
 | str (s:ByteArray):Rd w I (.string s) (.str s)
 | nil:Rd w I (.slice none 0 0) .nil
 | cm:Rd w I (.map none) .cm
 | ak:Rd w I .nilFunc .ak
 | list (A:Option Addr) (n c sz:Nat) (es:List (List FV)) (us:List Value) (hn:es.length=n) (hc:n≤c) (he:∀ e∈es,e.length=sz) (ho:∀ f∈es.flatten,f.one=true)
   (hA:n≠0→∃ b off,A=some ⟨b,off,none⟩∧I b∧∀ (j:Nat) u,us[j]? = some u→w.cell? ⟨b,off+j,none⟩=some u)
   (hl:us.length=es.flatten.length) (hr:∀ (j:Nat) u f,us[j]? = some u→es.flatten[j]? = some f→Rd w I u f):Rd w I (.slice A n c) (.list sz es)
 | ay (b off sz:Nat) (es:List (List FV)) (i o:Nat) (us:List Value) (hI:I b) (he:∀ e∈es,e.length=sz) (ho:∀ f∈es.flatten,f.one=true)
   (hA:∀ (j:Nat) u,us[j]? = some u→w.cell? ⟨b,off+j,none⟩=some u)
   (hl:us.length=es.flatten.length) (hr:∀ (j:Nat) u f,us[j]? = some u→es.flatten[j]? = some f→Rd w I u f):Rd w I (.pointer (some ⟨b,off+(i * sz+o),none⟩)) (.ay sz es i o)
 | smap (b clock:Nat) (ao:Array MapEntry) (es:List (List FV)) (hI:I b) (hb:w.heap[b]? = some (.map ao clock)) (bO:MapKept.Stamped ao clock) (hl:ao.size=es.length)
   (hk:∀ (j:Nat) e row,ao[j]? = some e→es[j]? = some row→∃ kf vf,row=[kf,vf]∧kf.simple=true∧e.key=kf.val)
   (hr:∀ (j:Nat) e row f,ao[j]? = some e→es[j]? = some row→row[1]? = some f→Rd w I e.val f):Rd w I (.map (some b)) (.smap es)
 | fn (f:Nat) (us:List Value) (fs:List FV) (hl:us.length=fs.length) (hr:∀ (j:Nat) u g, us[j]? = some u → fs[j]? = some g → Rd w I u g):Rd w I (.func (.func f) #[] us.toArray) (.fn f fs)
 | iface (t:Nat) (v:Value) (f:FV) (hr:Rd w I v f):Rd w I (.iface t v) (.iface t f)
 | agg (us:List Value) (fs:List FV) (hl:us.length=fs.length) (hr:∀ (j:Nat) u f, us[j]? = some u → fs[j]? = some f → Rd w I u f):Rd w I (.agg us.toArray) (.agg fs)
 | bS (us:List Value) (fs:List FV) (hl:us.length=fs.length) (hr:∀ (j:Nat) u f, us[j]? = some u → fs[j]? = some f → Rd w I u f):Rd w I (.tuple us.toArray) (.bS fs)
 | iD (f:Nat) (us:List Value) (fs:List FV) (hl:us.length=fs.length) (hr:∀ (j:Nat) u g, us[j]? = some u → fs[j]? = some g → Rd w I u g):Rd w I (.func (.func f) us.toArray #[]) (.iD f fs)
 | perm (v:Value) (sz:Nat) (es aZ : List (List FV)) (hp:aZ.Perm es) (hr:Rd w I v (.list sz aZ)):Rd w I v (.perm sz es)
 | dP (v:Value) (es aZ : List (List FV)) (hp:aZ.Perm es) (hr:Rd w I v (.smap aZ)):Rd w I v (.perm 0 es)
def aD (w:World) (I:Nat→Prop) (us:List Value) (fs:List FV):Prop:=us.length=fs.length∧∀ (j:Nat) u f,us[j]? = some u→fs[j]? = some f→Rd w I u f
theorem Rd.mono (hI:∀ b,I b→I' b∧w'.heap[b]? = w.heap[b]?) {f:FV} (h:Rd w I v f):Rd w' I' v f:=by
 induction h with
 | undef v => exact .undef v
 | int k n => exact .int k n
 | bool b => exact .bool b
 | str s => exact .str s
 | nil => exact .nil
 | cm => exact .cm
 | ak => exact .ak
 | list A n c sz es us hn hc he ho hA hl hr ih =>
  refine .list A n c sz es us hn hc he ho (fun h0=>?_) hl ih;obtain ⟨b,off,ha,hb,aW⟩:=hA h0;exact ⟨b,off,ha,(hI b hb).1,fun j u hu=>(World.cell?_of_block (w:=w) (w':=w') (a:=⟨b,off+j,none⟩) (hI b hb).2).trans (aW j u hu)⟩
 | ay b off sz es i o us hb he ho hA hl hr ih =>
  exact .ay b off sz es i o us (hI b hb).1 he ho (fun j u hu=>(World.cell?_of_block (w:=w) (w':=w') (a:=⟨b,off+j,none⟩) (hI b hb).2).trans (hA j u hu)) hl ih
 | smap b clock ao es hb l5 bO hl hk hr ih => exact .smap b clock ao es (hI b hb).1 ((hI b hb).2.trans l5) bO hl hk ih
 | agg us fs hl hr ih => exact .agg us fs hl ih
 | iface t v f hr ih => exact .iface t v f ih
 | fn f us fs hl hr ih => exact .fn f us fs hl ih
 | bS us fs hl hr ih => exact .bS us fs hl ih
 | iD f us fs hl hr ih => exact .iD f us fs hl ih
 | perm v sz es aZ hp hr ih => exact .perm v sz es aZ hp ih
 | dP v es aZ hp hr ih => exact .dP v es aZ hp ih
theorem aD.mono (hI:∀ b,I b→I' b∧w'.heap[b]? = w.heap[b]?) {fs:List FV} (h:aD w I us fs):aD w' I' us fs:=
 ⟨h.1,fun j u f hu hf=>(h.2 j u f hu hf).mono hI⟩
theorem aD.nil {w:World} {I:Nat→Prop}:aD w I [] []:=⟨rfl,fun j u f hu=>by simp at hu⟩
theorem aD.append {vs:List Value} {fs gs:List FV} (h:aD w I us fs) (k:aD w I vs gs):aD w I (us++vs) (fs++gs):=by
 refine ⟨by simp [h.1,k.1],fun j u f hu hf=>?_⟩;rcases yJ j us.length with hj|hj
 ·rw [ZH hj] at hu;rw [ZH (by rw [← h.1];exact hj)] at hf;exact h.2 j u f hu hf
 ·rw [Yf hj] at hu;rw [Yf (by rw [← h.1];exact hj),← h.1] at hf;exact k.2 _ u f hu hf
theorem aD.cons {w:World} {I:Nat→Prop} {u:Value} {us:List Value} {f:FV} {fs:List FV} (h:Rd w I u f) (k:aD w I us fs):aD w I (u::us) (f::fs):=by
 refine ⟨by simp [k.1],fun j u' f' hu hf=>?_⟩;cases j with
 | zero => simp at hu hf; subst hu; subst hf; exact h
 | succ j => simp at hu hf; exact k.2 j u' f' hu hf
theorem aD.take {fs:List FV} (h:aD w I us fs) (n:Nat):aD w I (us.take n) (fs.take n):=by
 refine ⟨by simp [h.1],fun j u f hu hf=>?_⟩;rw [xg] at hu hf;split at hu
 ·rename_i hj;rw [if_pos hj] at hf;exact h.2 j u f hu hf
 ·cases hu
theorem aD.drop {fs:List FV} (h:aD w I us fs) (n:Nat):aD w I (us.drop n) (fs.drop n):=by
 refine ⟨by simp [h.1],fun j u f hu hf=>?_⟩;rw [xY] at hu hf;exact h.2 _ u f hu hf
inductive xC where
 | dead|own|shut|bl|maps|aw|roomy|full|bu
 deriving DecidableEq,Inhabited
def xC.row:xC→Bool
 | .own|.shut|.roomy|.full => true
 | _ => false
def xC.bm:xC→Bool
 | .own|.shut|.roomy|.full|.aw => true
 | _ => false
def xC.cJ:xC→Bool
 | .own|.bl|.roomy|.full|.aw|.bu => true
 | _ => false
theorem xC.dk {l:xC} (h:l.row=true):l≠.dead:=by rintro rfl;cases h
theorem xC.gx {l:xC} (h:l.row=true):l.bm=true:=by cases l <;> first|rfl|cases h
theorem xC.aU {l:xC} (h:l.cJ=true):l≠.dead:=by rintro rfl;cases h
structure zL where
 aa:Nat:=0
 ag:xC:=.dead
 E:TypeId:=0
 sz:Nat:=0
 es:List (List FV):=[]
 deriving Inhabited
def look {α:Type} (d:α):List (Nat×α)→Nat→α
 | [], _ => d
 | (i, a) :: l, k => bif Nat.beq i k then a else look d l k
theorem zN (d:α) (i:Nat) (a:α) (l:List (Nat×α)) (k:Nat):look d ((i,a)::l) k=if i=k then a else look d l k:=by
 show (bif Nat.beq i k then a else look d l k)=_;by_cases h:i=k
 ·subst h;simp
 ·have hb:Nat.beq i k=false:=by
   cases hb:Nat.beq i k with
   | true => exact absurd (Wz hb) h
   | false => rfl
  rw [hb,if_neg h];rfl
structure ae where
 t:List (Nat×FV)
 o:List (Nat×zL)
def ae.get (s:ae) (d:Nat):FV:=look .undef s.t d
def ae.ob (s:ae) (id:Nat):zL:=look {} s.o id
def ae.put (s:ae) (d:Nat) (v:FV):ae:=⟨(d,v)::s.t,s.o⟩
def ae.set (s:ae) (id:Nat) (b:zL):ae:=⟨s.t,(id,b)::s.o⟩
theorem ae.dW (s:ae) (d:Nat) (v:FV) (k:Nat):(s.put d v).get k=if d=k then v else s.get k:=zN _ _ _ _ _
theorem ae.aq (s:ae) (d:Nat) (b:zL) (k:Nat):(s.set d b).ob k=if d=k then b else s.ob k:=zN _ _ _ _ _
structure Vc (w:World) (aA:Option Nat) (ob:zL) (v:Value) (o n:Nat):Prop where
 row:ob.ag.bm=true
 ex:∃ A c,v=.slice A n c∧n≤c∧o+n≤ob.es.length∧(aA=none→A=none∧c=0)∧
  ∀ b,aA=some b→∃ o',A=some ⟨b,o',none⟩∧(c≠0∨o=0→o'=o * ob.sz)∧∀ cur,w.heap[b]? = some (.cells cur ob.E (0,0))→cur.size=(o+c) * ob.sz
def je (w:World) (I:Nat→Prop) (β:Nat→Option Nat) (s:ae) (v:Value):FV→Prop
 | .own id aa o n => (s.ob id).ag ≠ .dead → (s.ob id).aa=aa → Vc w (β id) (s.ob id) v o n
 | .ptr id aa i off => (s.ob id).ag ≠ .dead → (s.ob id).aa=aa → (s.ob id).ag.bm=true ∧ ∃ b, β id=some b ∧ v=.pointer (some ⟨b, i * (s.ob id).sz+off, none⟩)
 | .omap id aa => (s.ob id).ag ≠ .dead → (s.ob id).aa=aa → (s.ob id).ag.bm=false ∧ ∃ b, β id=some b ∧ v=.map (some b)
 | f => Rd w I v f
def VR (w:World) (I:Nat→Prop) (β:Nat→Option Nat) (s:ae) (v:Value):FV→Prop
 | .own id aa o n => (s.ob id).ag ≠ .dead → (s.ob id).aa=aa → Vc w (β id) (s.ob id) v o n
 | .ptr id aa i off => (s.ob id).ag ≠ .dead → (s.ob id).aa=aa → (s.ob id).ag.bm=true ∧ ∃ b, β id=some b ∧ v=.pointer (some ⟨b, i * (s.ob id).sz+off, none⟩)
 | .omap id aa => (s.ob id).ag ≠ .dead → (s.ob id).aa=aa → (s.ob id).ag.bm=false ∧ ∃ b, β id=some b ∧ v=.map (some b)
 | .wrap k fs => ∃ us:List Value, v=k.mk us ∧ us.length=fs.length ∧ ∀ (j:Nat) u f, us[j]? = some u → fs[j]? = some f → je w I β s u f
 | f => Rd w I v f
def FV.hand:FV→Option (Nat×Nat)
 | .own id aa _ _ => some (id, aa)
 | .ptr id aa _ _ => some (id, aa)
 | .omap id aa => some (id, aa)
 | .wrap _ _ => some (0, 0)
 | _ => none
def FV.hands:FV→List (Nat×Nat)
 | .own id aa _ _ => [(id, aa)]
 | .ptr id aa _ _ => [(id, aa)]
 | .omap id aa => [(id, aa)]
 | .wrap _ fs => fs.filterMap FV.hand
 | _ => []
theorem FV.gN {f:FV} (h:f.hand=none):f.hands=[]:=by cases f <;> first|rfl|(simp [FV.hand] at h)
theorem FV.aT {f:FV} (h:f.hand=none) {p:Nat×Nat} (hp:p∈f.hands):False:=by rw [FV.gN h] at hp;cases hp
structure mX (w:World) (base:Nat) (I:Nat→Prop) (aA:Option Nat) (ob:zL):Prop where
 wide:∀ e∈ob.es,e.length=ob.sz
 one:∀ f∈ob.es.flatten,f.one=true
 row:∃ v us,w.ownsRow base ob.E ob.sz v ob.es.length us∧v.ownBlock=aA∧aD w I us ob.es.flatten
structure nF (w:World) (base:Nat) (I:Nat→Prop) (aA:Option Nat) (ob:zL):Prop where
 ex:∃ b clock ao,aA=some b∧base≤b∧w.heap[b]? = some (.map ao clock)∧MapKept.Stamped ao clock∧ao.size=ob.es.length∧
  (∀ (j:Nat) e row,ao[j]? = some e→ob.es[j]? = some row→∃ kf vf,row=[kf,vf]∧kf.simple=true∧e.key=kf.val)∧
  ∀ (j:Nat) e row f,ao[j]? = some e→ob.es[j]? = some row→row[1]? = some f→Rd w I e.val f
structure nJ (w:World) (base:Nat) (I:Nat→Prop) (β:Nat→Option Nat) (s:ae) (aA:Option Nat) (ob:zL):Prop where
 wide:∀ e∈ob.es,e.length=ob.sz
 bP:∀ f∈ob.es.flatten,∀ id aa,(id,aa)∈f.hands→aa≤(s.ob id).aa
 row:∃ v us,w.ownsRow base ob.E ob.sz v ob.es.length us∧v.ownBlock=aA∧us.length=ob.es.flatten.length∧∀ (j:Nat) u f,us[j]? = some u→ob.es.flatten[j]? = some f→VR w I β s u f
structure nE (w:World) (base:Nat) (I:Nat→Prop) (β:Nat→Option Nat) (s:ae) (aA:Option Nat) (ob:zL):Prop where
 bP:∀ f∈ob.es.flatten,∀ id aa,(id,aa)∈f.hands→aa≤(s.ob id).aa
 ex:∃ b clock ao,aA=some b∧base≤b∧w.heap[b]? = some (.map ao clock)∧MapKept.Stamped ao clock∧ao.size=ob.es.length∧
  (∀ (j:Nat) e row,ao[j]? = some e→ob.es[j]? = some row→∃ kf vf,row=[kf,vf]∧kf.simple=true∧e.key=kf.val)∧
  ∀ (j:Nat) e row f,ao[j]? = some e→ob.es[j]? = some row→row[1]? = some f→VR w I β s e.val f
def Wc (w:World) (aA:Option Nat) (ob:zL):Prop:=
 match ob.ag with
 | .roomy => ∃ b cur, aA=some b ∧ w.heap[b]? = some (.cells cur ob.E (0, 0)) ∧ (ob.es.length+1) * ob.sz ≤ cur.size
 | .full => ∀ b cur, aA=some b → w.heap[b]? = some (.cells cur ob.E (0, 0)) → cur.size=ob.es.length * ob.sz
 | _ => True
def cj (w:World) (base:Nat) (I:Nat→Prop) (β:Nat→Option Nat) (s:ae) (aA:Option Nat) (ob:zL):Prop:=
 if ob.ag.row=true then mX w base I aA ob∧Wc w aA ob else if ob.ag.bm=true then nJ w base I β s aA ob else if ob.ag=.bu then nE w base I β s aA ob else nF w base I aA ob
section
variable {w:World} {base:Nat} {I:Nat→Prop} {β:Nat→Option Nat} {s:ae} {aA:Option Nat} {ob:zL}
theorem cj.bA (h:cj w base I β s aA ob) (hr:ob.ag.row=true):mX w base I aA ob:=by unfold cj at h;rw [if_pos hr] at h;exact h.1
theorem cj.fc (h:cj w base I β s aA ob) (hr:ob.ag.row=true):Wc w aA ob:=by unfold cj at h;rw [if_pos hr] at h;exact h.2
theorem cj.dU (h:cj w base I β s aA ob) (hr:ob.ag.row=false) (hs:ob.ag.bm=true):nJ w base I β s aA ob:=by unfold cj at h;rwa [if_neg (by rw [hr];decide),if_pos hs] at h
theorem cj.gw (h:cj w base I β s aA ob) (hr:ob.ag.bm=false) (hm:ob.ag≠.bu):nF w base I aA ob:=by
 unfold cj at h;rwa [if_neg (fun e=>by rw [xC.gx e] at hr;cases hr),if_neg (by rw [hr];decide),if_neg hm] at h
theorem cj.mJ (h:cj w base I β s aA ob) (hm:ob.ag=.bu):nE w base I β s aA ob:=by
 unfold cj at h;rwa [if_neg (by rw [hm];decide),if_neg (by rw [hm];decide),if_pos hm] at h
theorem cj.mI (h:cj w base I β s aA ob) (hr:ob.ag.bm=false):∃ b clock ao,aA=some b∧base≤b∧w.heap[b]? = some (.map ao clock):=by
 by_cases hm:ob.ag=.bu
 ·obtain ⟨b,clock,ao,h1,h2,h3,_⟩:=(h.mJ hm).ex;exact ⟨b,clock,ao,h1,h2,h3⟩
 ·obtain ⟨b,clock,ao,h1,h2,h3,_⟩:=(h.gw hr hm).ex;exact ⟨b,clock,ao,h1,h2,h3⟩
theorem cj.ofRow (h:mX w base I aA ob) (hm:Wc w aA ob) (hr:ob.ag.row=true):cj w base I β s aA ob:=by unfold cj;rw [if_pos hr];exact ⟨h,hm⟩
theorem cj.mM (h:nJ w base I β s aA ob) (hr:ob.ag=.aw):cj w base I β s aA ob:=by unfold cj;rw [if_neg (by rw [hr];decide),if_pos (by rw [hr];rfl)];exact h
theorem cj.ofMap (h:nF w base I aA ob) (hr:ob.ag.bm=false) (hm:ob.ag≠.bu):cj w base I β s aA ob:=by
 unfold cj;rwa [if_neg (fun e=>by rw [xC.gx e] at hr;cases hr),if_neg (by rw [hr];decide),if_neg hm]
theorem cj.oW (h:nE w base I β s aA ob) (hm:ob.ag=.bu):cj w base I β s aA ob:=by
 unfold cj;rwa [if_neg (by rw [hm];decide),if_neg (by rw [hm];decide),if_pos hm]
theorem Wc.own (hl:ob.ag=.own):Wc w aA ob:=by unfold Wc;rw [hl];trivial
theorem Wc.shut (hl:ob.ag=.shut):Wc w aA ob:=by unfold Wc;rw [hl];trivial
end
structure JJ where
 ok:Nat→Prop
 K:Nat→Prop:=fun _=>False
 h0:Nat→Option Obj:=fun _=>none
 gh:Value→FV→Prop:=fun _ _=>False
 ds:List Deferred:=[]
instance:CoeFun JJ fun _=>Nat→Prop:=⟨JJ.ok⟩
def xl:Nat:=5000
def aG (J:JJ) (w:World) (β:Nat→Option Nat) (s:ae) (b:Nat):Prop:=b<w.heap.size∧J b∧∀ id,(s.ob id).ag.cJ=true→β id≠some b
structure FR (N:Nat) (w0:World) (J:JJ) (s:ae) (a:Act) (w:World) (β:Nat→Option Nat):Prop where
 size:a.tmps.size=N
 defers:a.defers=J.ds
 bL:Below w0.heap.size w0 w
 cB:∀ b,w0.heap.size≤b→J b∨J.K b
 slot:∀ d,VR w (aG J w β s) β s (a.tmps.getD d undef) (s.get d)
 bP:∀ d id aa,(id,aa)∈(s.get d).hands→aa≤(s.ob id).aa
 obj:∀ id,(s.ob id).ag≠.dead→cj w w0.heap.size (aG J w β s) β s (β id) (s.ob id)
 inj:∀ id aM b,(s.ob id).ag≠.dead→(s.ob aM).ag≠.dead→β id=some b→β aM=some b→id=aM
 kept:∀ b,J.K b→b<w.heap.size∧(∀ id,(s.ob id).ag≠.dead→β id≠some b)∧w.heap[b]? = J.h0 b
 gh:∀ v f,J.gh v f→VR w (aG J w β s) β s v f∧∀ id aa,(id,aa)∈f.hands→xl≤id∧aa≤(s.ob id).aa
theorem FR.fresh {N:Nat} {J:JJ} {s:ae} (h:FR N w0 J s a w β) (b:Nat) (hb:w0.heap.size≤b) (hx:w.heap.size≤b∨∃ id,(s.ob id).ag≠.dead∧β id=some b):J b:=by
 rcases h.cB b hb with h1|h1
 ·exact h1
 ·obtain ⟨k1,k2,_⟩:=h.kept b h1;rcases hx with hx|⟨id,hl,e⟩
  ·omega
  ·exact absurd e (k2 id hl)
theorem Vc.mono {ob:zL} {o:Nat} (h:Vc w aA ob v o n) (hb:∀ b,aA=some b→w'.heap[b]? = w.heap[b]?):Vc w' aA ob v o n:=by
 obtain ⟨A,c,h1,h2,h3,h4,h5⟩:=h.ex;refine ⟨h.row,A,c,h1,h2,h3,h4,fun b aJ=>?_⟩;obtain ⟨o',k1,k2,k3⟩:=h5 b aJ;exact ⟨o',k1,k2,fun cur hc=>k3 cur (by rw [← hb b aJ];exact hc)⟩
theorem vu {e:TypeId} {sz:Nat} (h:w.ownsRow base e sz v n xs) (hb:∀ b,v.ownBlock=some b→w'.heap[b]? = w.heap[b]?):w'.ownsRow base e sz v n xs:=by
 refine ⟨h.1,?_⟩;rcases h.2 with hn|⟨g,cap,cur,rfl,bB,eb,rest⟩
 ·exact .inl hn
 ·exact .inr ⟨g,cap,cur,rfl,bB,(hb g rfl).trans eb,rest⟩
theorem mX.mono {ob:zL} (h:mX w base I aA ob) (hI:∀ b,I b→I' b∧w'.heap[b]? = w.heap[b]?) (hb:∀ b,aA=some b→w'.heap[b]? = w.heap[b]?) :
  mX w' base I' aA ob:=by
 obtain ⟨v,us,h1,h2,h3⟩:=h.row;exact ⟨h.wide,h.one,v,us,vu h1 (fun b hv=>hb b (h2▸hv)),h2,h3.mono hI⟩
theorem nF.mono {ob:zL} (h:nF w base I aA ob) (hI:∀ b,I b→I' b∧w'.heap[b]? = w.heap[b]?) (hb:∀ b,aA=some b→w'.heap[b]? = w.heap[b]?) :
  nF w' base I' aA ob:=by
 obtain ⟨b,clock,ao,h1,h2,h3,h4,h5,h6,h7⟩:=h.ex;exact ⟨b,clock,ao,h1,h2,(hb b h1).trans h3,h4,h5,h6,fun j e row f a b c=>(h7 j e row f a b c).mono hI⟩
theorem Wc.mono {ob:zL} (h:Wc w aA ob) (hb:∀ b,aA=some b→w'.heap[b]? = w.heap[b]?):Wc w' aA ob:=by
 unfold Wc at h ⊢;cases hl:ob.ag with
 | roomy =>
  rw [hl] at h;obtain ⟨b,cur,h1,h2,h3⟩:=h;exact ⟨b,cur,h1,(hb b h1).trans h2,h3⟩
 | full =>
  rw [hl] at h;exact fun b cur h1 h2=>h b cur h1 ((hb b h1).symm.trans h2)
 | _ => trivial
theorem nJ.mono {s s' : ae} {ob:zL} (h:nJ w base I β s aA ob) (hb:∀ b,aA=some b→w'.heap[b]? = w.heap[b]?)
  (T:∀ v f,VR w I β s v f→(∀ id aa,(id,aa)∈f.hands→aa≤(s.ob id).aa)→VR w' I' aE s' v f) (hv:∀ id,(s.ob id).aa≤(s'.ob id).aa):nJ w' base I' aE s' aA ob:=by
 obtain ⟨v,us,h1,h2,h3,h4⟩:=h.row;exact ⟨h.wide,fun f hf id aa e=>zR (h.bP f hf id aa e) (hv id),v,us,vu h1 (fun b hv=>hb b (h2▸hv)),h2,h3,fun j u f hu hf=>T u f (h4 j u f hu hf) (h.bP f (zZ hf))⟩
theorem nE.mono {s s' : ae} {ob:zL} (h:nE w base I β s aA ob) (hb:∀ b,aA=some b→w'.heap[b]? = w.heap[b]?)
  (T:∀ v f,VR w I β s v f→(∀ id aa,(id,aa)∈f.hands→aa≤(s.ob id).aa)→VR w' I' aE s' v f) (hv:∀ id,(s.ob id).aa≤(s'.ob id).aa):nE w' base I' aE s' aA ob:=by
 obtain ⟨b,clock,ao,h1,h2,h3,h4,h5,h6,h7⟩:=h.ex;exact ⟨fun f hf id aa e=>zR (h.bP f hf id aa e) (hv id),b,clock,ao,h1,h2,by rw [hb b h1];exact h3,h4,h5,h6,fun j e row f he hr hf=>T _ f (h7 j e row f he hr hf) (h.bP f (xi.2 ⟨row,zZ hr,zZ hf⟩))⟩
theorem cj.mono {s s' : ae} {ob:zL} (h:cj w base I β s aA ob) (hI:∀ b,I b→I' b∧w'.heap[b]? = w.heap[b]?) (hb:∀ b,aA=some b→w'.heap[b]? = w.heap[b]?)
  (T:∀ v f,VR w I β s v f→(∀ id aa,(id,aa)∈f.hands→aa≤(s.ob id).aa)→VR w' I' aE s' v f) (hv:∀ id,(s.ob id).aa≤(s'.ob id).aa):cj w' base I' aE s' aA ob:=by
 cases hr:ob.ag.row with
 | true => exact .ofRow ((h.bA hr).mono hI hb) ((h.fc hr).mono hb) hr
 | false=>
  cases hs:ob.ag.bm with
  | true =>
   refine .mM ((h.dU hr hs).mono hb T hv) ?_;cases hl:ob.ag <;> rw [hl] at hr hs <;> first|rfl|(simp [xC.row,xC.bm] at hr hs;done)
  | false =>
   by_cases hm:ob.ag=.bu
   ·exact .oW ((h.mJ hm).mono hb T hv) hm
   ·exact .ofMap ((h.gw hs hm).mono hI hb) hs hm
theorem cj.lt {s:ae} {ob:zL} (h:cj w base I β s aA ob) {b:Nat} (hb:aA=some b):base≤b∧b<w.heap.size:=by
 cases hr:ob.ag.row with
 | true =>
  obtain ⟨v,us,h1,h2,h3⟩:=(h.bA hr).row;exact h1.lt b (h2.trans hb)
 | false=>
  cases hs:ob.ag.bm with
  | true =>
   obtain ⟨v,us,h1,h2,h3⟩:=(h.dU hr hs).row;exact h1.lt b (h2.trans hb)
  | false =>
   obtain ⟨b',clock,ao,h1,h2,h3⟩:=h.mI hs;rw [hb] at h1;injection h1 with h1
   subst h1;exact ⟨h2,(Zh.1 h3).1⟩
theorem je.mono {s s' : ae} {f:FV} (h:je w I β s v f) (hI:∀ b,I b→I' b∧w'.heap[b]? = w.heap[b]?)
  (hh:∀ id aa,f.hand=some (id,aa)→(s'.ob id).ag≠.dead→(s'.ob id).aa=aa→(s.ob id).ag≠.dead∧(s.ob id).aa=aa∧aE id=β id∧(s'.ob id).sz=(s.ob id).sz∧(s'.ob id).ag.bm=(s.ob id).ag.bm∧
   ∀ v o n,Vc w (β id) (s.ob id) v o n→Vc w' (aE id) (s'.ob id) v o n):je w' I' aE s' v f:=by
 cases f with
 | own id aa o n =>
  intro h1 h2;obtain ⟨k1,k2,_,_,_,k3⟩:=hh id aa rfl h1 h2;exact k3 v o n (h k1 k2)
 | ptr id aa i off =>
  intro h1 h2;obtain ⟨k1,k2,k3,k4,k5,_⟩:=hh id aa rfl h1 h2;obtain ⟨aw,b,hb,hv⟩:=h k1 k2;exact ⟨by rw [k5];exact aw,b,by rw [k3];exact hb,by rw [k4];exact hv⟩
 | omap id aa =>
  intro h1 h2;obtain ⟨k1,k2,k3,k4,k5,_⟩:=hh id aa rfl h1 h2;obtain ⟨aw,b,hb,hv⟩:=h k1 k2;exact ⟨by rw [k5];exact aw,b,by rw [k3];exact hb,hv⟩
 | _ => exact Rd.mono hI h
theorem VR.pL {s:ae} {f:FV} (h:je w I β s v f):VR w I β s v f:=by
 cases f with
 | wrap k fs => have h' : Rd w I v (.wrap k fs) := h; cases h'
 | _ => exact h
theorem VR.mS {s:ae} {f:FV} (h:VR w I β s v f) (hw:∀ k fs,f≠.wrap k fs):je w I β s v f:=by
 cases f with
 | wrap k fs => exact absurd rfl (hw k fs)
 | _ => exact h
theorem VR.mono {s s' : ae} {f:FV} (h:VR w I β s v f) (hI:∀ b,I b→I' b∧w'.heap[b]? = w.heap[b]?)
  (hh:∀ id aa,(id,aa)∈f.hands→(s'.ob id).ag≠.dead→(s'.ob id).aa=aa→(s.ob id).ag≠.dead∧(s.ob id).aa=aa∧aE id=β id∧(s'.ob id).sz=(s.ob id).sz∧(s'.ob id).ag.bm=(s.ob id).ag.bm∧
   ∀ v o n,Vc w (β id) (s.ob id) v o n→Vc w' (aE id) (s'.ob id) v o n):VR w' I' aE s' v f:=by
 have key:∀ g:FV,(∀ k fs,g≠.wrap k fs)→∀ id aa,g.hand=some (id,aa)→(id,aa)∈g.hands:=fun g hg id aa e=>by
  cases g with
  | wrap k fs => exact absurd rfl (hg k fs)
  | own|ptr|omap => simp only [FV.hand, yh] at e; rw [← e]; exact yf.2 rfl
  | _ => cases e
 by_cases hw:∃ k fs,f=.wrap k fs
 ·obtain ⟨k,fs,rfl⟩:=hw;obtain ⟨us,e,hl,hr⟩:=h;refine ⟨us,e,hl,fun j u g hu hg=>(hr j u g hu hg).mono hI fun id aa hf=>hh id aa ?_⟩;exact yZ.2 ⟨g,zZ hg,hf⟩
 ·have hw' : ∀ k fs,f≠.wrap k fs:=fun k fs e=>hw ⟨k,fs,e⟩;exact VR.pL ((h.mS hw').mono hI fun id aa hf=>hh id aa (key f hw' id aa hf))
theorem VR.bt {s:ae} {f:FV} (h:Rd w I v f) (hf:f.hand=none):VR w I β s v f:=by
 cases f <;> first|exact h|(simp [FV.hand] at hf)
theorem VR.rd {s:ae} {f:FV} (h:VR w I β s v f) (hf:f.hand=none):Rd w I v f:=by
 cases f <;> first|exact h|(simp [FV.hand] at hf)
theorem FR.step {N:Nat} {w0 w w' : World} {J:JJ} {s s' : ae} {a a' : Act} {β aE : Nat→Option Nat} (h:FR N w0 J s a w β) (C:Nat→Prop)
  (size:a'.tmps.size=N) (defers:a'.defers=J.ds) (bL:Below w0.heap.size w0 w')
  (hI:∀ b,aG J w β s b→aG J w' aE s' b∧w'.heap[b]? = w.heap[b]?)
  (cu:∀ k,(a'.tmps.getD k undef=a.tmps.getD k undef∧s'.get k=s.get k)∨
   (VR w' (aG J w' aE s') aE s' (a'.tmps.getD k undef) (s'.get k)∧∀ id aa,(id,aa)∈(s'.get k).hands→aa≤(s'.ob id).aa))
  (bw:∀ id,¬ C id→s'.ob id=s.ob id∧aE id=β id∧((s.ob id).ag≠.dead→∀ b,β id=some b→w'.heap[b]? = w.heap[b]?))
  (aC:∀ id,C id→(s.ob id).aa≤(s'.ob id).aa)
  (oJ:∀ id,C id→(s'.ob id).ag≠.dead→(s'.ob id).aa=(s.ob id).aa→(s.ob id).ag≠.dead∧aE id=β id∧(s'.ob id).sz=(s.ob id).sz∧(s'.ob id).ag.bm=(s.ob id).ag.bm∧∀ v o n,Vc w (β id) (s.ob id) v o n→Vc w' (aE id) (s'.ob id) v o n)
  (gV:∀ id,C id→(s'.ob id).ag≠.dead→(∀ v f,VR w (aG J w β s) β s v f→(∀ id aa,(id,aa)∈f.hands→aa≤(s.ob id).aa)→VR w' (aG J w' aE s') aE s' v f)→cj w' w0.heap.size (aG J w' aE s') aE s' (aE id) (s'.ob id))
  (inj:∀ id aM b,(s'.ob id).ag≠.dead→(s'.ob aM).ag≠.dead→aE id=some b→aE aM=some b→id=aM)
  (hH:∀ b,b<w.heap.size→(∀ id,(s.ob id).ag≠.dead→β id≠some b)→w'.heap[b]? = w.heap[b]?∧∀ id,(s'.ob id).ag≠.dead→aE id≠some b):FR N w0 J s' a' w' aE:=by
 have T:∀ v f,VR w (aG J w β s) β s v f→(∀ id aa,(id,aa)∈f.hands→aa≤(s.ob id).aa)→VR w' (aG J w' aE s') aE s' v f:=fun v f hv hle=>by
  refine hv.mono hI fun id aa hf h1 h2=>?_;have hle:=hle id aa hf;by_cases hC:C id
  ·have:=aC id hC;have hv:(s'.ob id).aa=(s.ob id).aa:=by omega
   obtain ⟨k1,k2,k3,k4,k5⟩:=oJ id hC h1 hv;exact ⟨k1,by omega,k2,k3,k4,k5⟩
  ·obtain ⟨e,e',hb⟩:=bw id hC;rw [e] at h1 h2;refine ⟨h1,h2,e',by rw [e],by rw [e],fun v o n hv=>?_⟩;rw [e,e'];exact hv.mono (hb h1)
 have hv:∀ id,(s.ob id).aa≤(s'.ob id).aa:=fun id=>by
  by_cases hC:C id
  ·exact aC id hC
  ·rw [(bw id hC).1];exact zi _
 refine { size:=size,defers:=defers,bL:=bL,cB:=h.cB,slot:=fun k=>?_,bP:=fun k id aa hf=>?_,obj:=fun id hl=>?_,inj:=inj,
          kept:=fun b hb=>by
           obtain ⟨k1,k2,k3⟩:=h.kept b hb;obtain ⟨q1,q2⟩:=hH b k1 k2;have:w'.heap[b]? = some w.heap[b]:=q1.trans (by simp [k1]);exact ⟨(Zh.1 this).1,q2,q1.trans k3⟩,
          gh:=fun v f hg=>⟨T v f (h.gh v f hg).1 fun id aa hf=>((h.gh v f hg).2 id aa hf).2,fun id aa hf=>⟨((h.gh v f hg).2 id aa hf).1,zR ((h.gh v f hg).2 id aa hf).2 (hv id)⟩⟩ }
 ·rcases cu k with ⟨e1,e2⟩|⟨hv,_⟩
  ·rw [e1,e2];exact T _ _ (h.slot k) (h.bP k)
  ·exact hv
 ·rcases cu k with ⟨e1,e2⟩|⟨_,iw⟩
  ·rw [e2] at hf;exact zR (h.bP k id aa hf) (hv id)
  ·exact iw id aa hf
 ·by_cases hC:C id
  ·exact gV id hC hl T
  ·obtain ⟨e,e',hb⟩:=bw id hC;rw [e] at hl ⊢;rw [e'];exact (h.obj id hl).mono hI (hb hl) T hv
theorem Ez (a:Act) (d:Nat) (v:Value) (k:Nat) (hd:d<a.tmps.size):(a.put (some d) v).tmps.getD k undef=if d=k then v else a.tmps.getD k undef:=by
 simp only [Act.put,YG,Array.getElem?_setIfInBounds];split
 ·rename_i h;subst h;simp
 ·rfl
theorem FR.put {N:Nat} {J:JJ} {s:ae} (h:FR N w0 J s a w β) {d:Nat} {f:FV} (hd:d<N) (hv:VR w (aG J w β s) β s v f)
  (aC:∀ id aa,(id,aa)∈f.hands→aa≤(s.ob id).aa):FR N w0 J (s.put d f) (a.put (some d) v) w β:=by
 refine h.step (C:=fun _=>False) (by simp [Act.put,h.size]) h.defers h.bL (fun b hb=>⟨hb,rfl⟩) (fun k=>?_) (fun id _=>⟨rfl,rfl,fun _ _ _=>rfl⟩) (fun _ h=>h.elim) (fun _ h=>h.elim) (fun _ h=>h.elim) h.inj (fun b _ hn=>⟨rfl,hn⟩);rw [Ez a d v k (h.size▸hd),ae.dW];split
 ·exact .inr ⟨hv.mono (fun b hb=>⟨hb,rfl⟩) (fun id aa _ h1 h2=>⟨h1,h2,rfl,rfl,rfl,fun _ _ _ h=>h⟩),fun id aa hf=>aC id aa hf⟩
 ·exact .inl ⟨rfl,rfl⟩
theorem aG.grow {J:JJ} {s:ae} {b:Nat} (h:aG J w β s b) (hb:Below w.heap.size w w'):aG J w' β s b∧w'.heap[b]? = w.heap[b]?:=
 ⟨⟨Zw h.1 hb.size,h.2⟩,hb.block b h.1⟩
theorem FR.grow {N:Nat} {J:JJ} {s:ae} (h:FR N w0 J s a w β) (hb:Below w.heap.size w w'):FR N w0 J s a w' β:=by
 refine h.step (C:=fun _=>False) h.size h.defers (h.bL.trans (hb.mono h.bL.size)) (fun b aJ=>aJ.grow hb) (fun k=>.inl ⟨rfl,rfl⟩) (fun id _=>⟨rfl,rfl,fun hl b e=>?_⟩) (fun _ h=>h.elim) (fun _ h=>h.elim) (fun _ h=>h.elim) h.inj (fun b az hn=>⟨hb.block b az,hn⟩);exact hb.block b ((h.obj id hl).lt e).2
def Vp (β:Nat→Option Nat) (j:Nat) (x:Option Nat):Nat→Option Nat:=fun k=>if k=j then x else β k
theorem FR.make {N:Nat} {J:JJ} {s:ae} (h:FR N w0 J s a w β) (i:Option Nat) (j:Nat) {E sz:Nat} {es:List (List FV)}
  (hi:∀ k,i=some k→(s.ob k).ag.cJ=true) (hg:w.grownBy w' (i.bind β)) (hw:∀ e∈es,e.length=sz) (ho:∀ f∈es.flatten,f.one=true) (hv:w'.ownsRow w0.heap.size E sz v es.length xs) (hr:aD w (aG J w β s) xs es.flatten)
  (hb:(v.ownBlock=i.bind β)∨v.ownBlock=none∨∃ b,v.ownBlock=some b∧w.heap.size≤b) {s' : ae}
  (hs:∀ k,s'.ob k=if j=k then ⟨(s.ob j).aa+1,.own,E,sz,es⟩ else if i=some k then { s.ob k with ag:=.dead } else s.ob k) (bO:∀ k,s'.get k=s.get k) :
  FR N w0 J s' a w' (Vp β j v.ownBlock):=by
 have iO:∀ k,i.bind β=some k→w0.heap.size≤k:=fun k hk=>by
  cases i with
  | none => simp at hk
  | some i => exact ((h.obj i (xC.aU (hi i rfl))).lt (by simpa using hk)).1
 have bQ:∀ b,aG J w β s b→some b≠i.bind β:=fun b aJ e=>by
  cases i with
  | none => simp at e
  | some i => exact aJ.2.2 i (hi i rfl) (by simpa using e.symm)
 have hI:∀ b,aG J w β s b→aG J w' (Vp β j v.ownBlock) s' b∧w'.heap[b]? = w.heap[b]?:=fun b aJ=>by
  refine ⟨⟨Zw aJ.1 hg.size,aJ.2.1,fun id hl=>?_⟩,hg.block b aJ.1 (bQ b aJ)⟩;rw [hs] at hl;unfold Vp;by_cases hj:j=id
  ·rw [if_pos hj.symm];rcases hb with e|e|⟨b',e,gP⟩
   ·rw [e];exact fun e2=>bQ b aJ e2.symm
   ·rw [e];simp
   ·rw [e];intro e2;injection e2 with e2;have:=aJ.1;omega
  ·rw [if_neg hj] at hl;rw [if_neg (fun e=>hj e.symm)];by_cases ec:i=some id
   ·rw [if_pos ec] at hl;cases hl
   ·rw [if_neg ec] at hl;exact aJ.2.2 id hl
 have a9:∀ id b,id≠j→i≠some id→(s.ob id).ag≠.dead→β id=some b→b<w.heap.size∧w'.heap[b]? = w.heap[b]?∧v.ownBlock≠some b:=fun id b hj ec hl aJ=>by
  have az:=((h.obj id hl).lt aJ).2;have oF:some b≠i.bind β:=fun e=>by
   cases i with
   | none => simp at e
   | some i =>
    have:=h.inj id i b hl (xC.aU (hi i rfl)) aJ (by simpa using e.symm);exact ec (by rw [this])
  refine ⟨az,hg.block b az oF,?_⟩;rcases hb with e|e|⟨b',e,gP⟩
  ·rw [e];exact fun e2=>oF e2.symm
  ·rw [e];simp
  ·rw [e];intro e2;injection e2 with e2;omega
 refine h.step (C:=fun id=>id=j∨i=some id) h.size h.defers (h.bL.grown hg h.bL.size iO) hI (fun k=>.inl ⟨rfl,bO k⟩) (fun id hC=>?_) (fun id hC=>?_) (fun id hC hl dS=>?_) (fun id hC hl _=>?_) ?_ ?_
 ·have hj:¬ id=j:=fun e=>hC (.inl e);have ec:¬ i=some id:=fun e=>hC (.inr e);refine ⟨by rw [hs,if_neg (fun e=>hj e.symm),if_neg ec],by unfold Vp;rw [if_neg hj],fun hl b aJ=>(a9 id b hj ec hl aJ).2.1⟩
 ·rw [hs];split
  ·rename_i e;subst e;simp
  ·split <;> simp
 ·rw [hs] at hl dS;split at hl
  ·rename_i e;rw [if_pos e] at dS;subst e;simp at dS
  ·rename_i e;rcases hC with hC|hC
   ·exact absurd hC.symm e
   ·rw [if_pos hC] at hl;simp at hl
 ·rw [hs] at hl ⊢;split at hl
  ·rename_i e;subst e;rw [if_pos rfl];unfold Vp;rw [if_pos rfl];exact .ofRow ⟨hw,ho,v,xs,hv,rfl,hr.mono hI⟩ (.own rfl) rfl
  ·rename_i e;rcases hC with hC|hC
   ·exact absurd hC.symm e
   ·rw [if_pos hC] at hl;simp at hl
 ·intro id aM b hl ba e e';unfold Vp at e e';rw [hs] at hl ba;by_cases hj:id=j
  ·by_cases ki : aM=j
   ·rw [hj,ki]
   ·rw [if_pos hj] at e;rw [if_neg ki] at e';rw [if_neg (fun e=>ki e.symm)] at ba;by_cases ec:i=some aM
    ·rw [if_pos ec] at ba;simp at ba
    ·rw [if_neg ec] at ba;exact absurd e (a9 aM b ki ec ba e').2.2
  ·rw [if_neg hj] at e;rw [if_neg (fun e=>hj e.symm)] at hl;have ec:¬ i=some id:=fun ec=>by rw [if_pos ec] at hl;simp at hl
   rw [if_neg ec] at hl;by_cases ki : aM=j
   ·rw [if_pos ki] at e';exact absurd e' (a9 id b hj ec hl e).2.2
   ·rw [if_neg ki] at e';rw [if_neg (fun e=>ki e.symm)] at ba;have qU : ¬ i=some aM:=fun ec=>by rw [if_pos ec] at ba;simp at ba
    rw [if_neg qU] at ba;exact h.inj id aM b hl ba e e'
 ·intro b az hn;have oF:some b≠i.bind β:=fun e=>by
   cases i with
   | none => simp at e
   | some i => exact hn i (xC.aU (hi i rfl)) (by simpa using e.symm)
  refine ⟨hg.block b az oF,fun id hl e=>?_⟩;unfold Vp at e;rw [hs] at hl;by_cases hj:id=j
  ·rw [if_pos hj] at e;rcases hb with e2|e2|⟨b',e2,gP⟩
   ·rw [e2] at e;exact oF e.symm
   ·rw [e2] at e;simp at e
   ·rw [e2] at e;injection e with e;omega
  ·rw [if_neg hj] at e;rw [if_neg (fun e=>hj e.symm)] at hl;have ec:¬ i=some id:=fun ec=>by rw [if_pos ec] at hl;simp at hl
   rw [if_neg ec] at hl;exact hn id hl e
theorem FR.write {N:Nat} {J:JJ} {s:ae} (h:FR N w0 J s a w β) (i:Nat) {es:List (List FV)}
  (hi:(s.ob i).ag=.own) (hg:w.grownBy w' (β i)) (hw:∀ e∈es,e.length=(s.ob i).sz) (ho:∀ f∈es.flatten,f.one=true) (hv:w'.ownsRow w0.heap.size (s.ob i).E (s.ob i).sz v es.length xs) (mB:v.ownBlock=β i)
  (hr:aD w (aG J w β s) xs es.flatten) (hl:es.length=(s.ob i).es.length) (aK:∀ b cur eT,β i=some b→w.heap[b]? = some (.cells cur (s.ob i).E (0,0))→w'.heap[b]? = some (.cells eT (s.ob i).E (0,0))→eT.size=cur.size)
  {s' : ae} (hs:∀ k,s'.ob k=if i=k then { s.ob i with es:=es } else s.ob k) (bO:∀ k,s'.get k=s.get k):FR N w0 J s' a w' β:=by
 have k7:(s.ob i).ag≠.dead:=by rw [hi];decide
 have hI:∀ b,aG J w β s b→aG J w' β s' b∧w'.heap[b]? = w.heap[b]?:=fun b aJ=>by
  refine ⟨⟨Zw aJ.1 hg.size,aJ.2.1,fun id hl=>?_⟩,hg.block b aJ.1 (fun e=>aJ.2.2 i (by rw [hi];rfl) e.symm)⟩;rw [hs] at hl;split at hl
  ·rename_i e;subst e;exact aJ.2.2 i (by rw [hi];rfl)
  ·exact aJ.2.2 id hl
 refine h.step (C:=fun id=>id=i) h.size h.defers (h.bL.grown hg h.bL.size fun k hk=>((h.obj i k7).lt hk).1) hI (fun k=>.inl ⟨rfl,bO k⟩) (fun id hC=>?_) (fun id hC=>?_) (fun id hC br dS=>?_) (fun id hC br T=>?_) ?_ ?_
 ·refine ⟨by rw [hs,if_neg (fun e=>hC e.symm)],rfl,fun br b aJ=>hg.block b ((h.obj id br).lt aJ).2 (fun e=>hC (h.inj id i b br k7 aJ e.symm))⟩
 ·subst hC;rw [hs,if_pos rfl];exact zi _
 ·subst hC;refine ⟨k7,rfl,by rw [hs,if_pos rfl],by rw [hs,if_pos rfl],fun v2 o n j2=>?_⟩;rw [hs,if_pos rfl];obtain ⟨A,c,h1,h2,h3,h4,h5⟩:=j2.ex;refine ⟨j2.row,A,c,h1,h2,by dsimp only;omega,h4,fun b aJ=>?_⟩;obtain ⟨o',k1,k2,k3⟩:=h5 b aJ;refine ⟨o',k1,k2,fun eT ea=>?_⟩;obtain ⟨v0,GJ,r1,r2,r3⟩:=((h.obj id k7).bA (by rw [hi];rfl)).row;rcases r1.2 with ⟨rfl,_⟩|⟨g,cap,cur,rfl,_,eb,_⟩
  ·rw [← r2] at aJ;simp [Value.ownBlock] at aJ
  ·have jL:g=b:=by rw [← r2] at aJ;simpa [Value.ownBlock] using aJ
   subst jL;rw [aK g cur eT aJ eb ea];exact k3 cur eb
 ·subst hC;rw [hs,if_pos rfl];exact .ofRow ⟨hw,ho,v,xs,hv,mB,hr.mono hI⟩ (.own hi) (by show (s.ob id).ag.row=true;rw [hi];rfl)
 ·intro id aM b br cO e e';refine h.inj id aM b ?_ ?_ e e'
  ·rw [hs] at br;split at br
   ·rename_i e;subst e;exact k7
   ·exact br
  ·rw [hs] at cO;split at cO
   ·rename_i e;subst e;exact k7
   ·exact cO
 ·intro b az hn;refine ⟨hg.block b az (fun e=>hn i k7 e.symm),fun id br=>hn id ?_⟩;rw [hs] at br;split at br
  ·rename_i e;subst e;exact k7
  ·exact br
theorem FR.iy {N:Nat} {J:JJ} {s:ae} (h:FR N w0 J s a w β) (i:Nat) (l:xC) (iq:l.cJ=true→(s.ob i).ag.cJ=true) (hd:(s.ob i).ag=.dead→l=.dead) (lq:l≠.dead→l.bm=(s.ob i).ag.bm)
  {s' : ae} (hs:∀ k,s'.ob k=if i=k then { s.ob i with ag:=l } else s.ob k) (bO:∀ k,s'.get k=s.get k)
  (mA:l≠.dead→cj w w0.heap.size (aG J w β s') β s' (β i) (s.ob i)→cj w w0.heap.size (aG J w β s') β s' (β i) { s.ob i with ag:=l }):FR N w0 J s' a w β:=by
 have cw:∀ id,(s'.ob id).ag≠.dead→(s.ob id).ag≠.dead:=fun id hl=>by
  rw [hs] at hl;split at hl
  ·rename_i e;subst e;exact fun e=>hl (hd e)
  ·exact hl
 have hI:∀ b,aG J w β s b→aG J w β s' b∧w.heap[b]? = w.heap[b]?:=fun b aJ=>by
  refine ⟨⟨aJ.1,aJ.2.1,fun id hl=>?_⟩,rfl⟩;rw [hs] at hl;split at hl
  ·rename_i e;subst e;exact aJ.2.2 i (iq hl)
  ·exact aJ.2.2 id hl
 have hv:∀ id,(s.ob id).aa≤(s'.ob id).aa:=fun id=>by
  rw [hs];split
  ·rename_i e;subst e;exact zi _
  ·exact zi _
 refine h.step (C:=fun id=>id=i) h.size h.defers h.bL hI (fun k=>.inl ⟨rfl,bO k⟩) (fun id hC=>?_) (fun id hC=>hv id) (fun id hC br dS=>?_) (fun id hC br T=>?_) ?_ (fun b _ hn=>⟨rfl,fun id br=>hn id (cw id br)⟩)
 ·exact ⟨by rw [hs,if_neg (fun e=>hC e.symm)],rfl,fun _ _ _=>rfl⟩
 ·have qW:=cw id br;subst hC;rw [hs,if_pos rfl] at br;have bo:=lq br;refine ⟨qW,rfl,by rw [hs,if_pos rfl],by rw [hs,if_pos rfl];exact bo,fun v2 o n j2=>?_⟩;rw [hs,if_pos rfl];exact ⟨bo.trans j2.row,j2.ex⟩
 ·have qW:=cw id br;subst hC;have ho:=(h.obj id qW).mono hI (fun _ _=>rfl) T hv;rw [hs,if_pos rfl] at br ⊢;exact mA br ho
 ·intro id aM b br cO e e';exact h.inj id aM b (cw id br) (cw aM cO) e e'
inductive TK where
 | other|any|int (k:IntKind)|bool|str|slice (e:Nat)|av (fs:List (Nat × Nat))|arr (n e:Nat)|map (k e:Nat)
 deriving Inhabited
def TK.aX:TK→Option Bool
 | .av _|.arr _ _ => some true
 | .int _|.bool|.str|.slice _|.map _ _|.any => some false
 | .other => none
structure TS where
 k:TK:=.other
 size:Nat:=0
 bytes:Nat:=0
 zero:List FV:=[]
 deriving Inhabited
def Zm:Value→FV→Bool
 | .int k n, .int k' n' => decide (k=k') && decide (n=n')
 | .bool a, .bool b => a == b
 | .string s, .str s' => s.size == 0 && s'.size == 0
 | .slice none 0 0, .nil => true
 | .map none, .cm => true
 | .nilFunc, .ak => true
 | _, .undef => true
 | _, _ => false
def Yn:List Value→List FV→Bool
 | [], [] => true
 | v :: vs, f :: fs => Zm v f && Yn vs fs
 | _, _ => false
def ZA (P:Program) (d:TypeDesc) (k:TK):Bool:=
 match k,d with
 | .other, _ => true
 | .any, .struct _ => false
 | .any, .array _ _ => false
 | .any, _ => true
 | .int k, .int k' => decide (k=k')
 | .bool, .bool => true
 | .str, .string => true
 | .slice e, .slice e' => decide (e=e')
 | .av fs, .struct gs => decide (fs=gs.toList.map fun f => (f.offset, f.type)) && gs.toList.all fun f => decide (f.name ≠ "_")
 | .arr n e, .array n' e' => decide (n=n') && decide (e=e')
 | .map k e, .map k' e' => decide (k=k') && decide (e=e')
 | _, _ => false
def sY (k:TK) (z:Value):Bool:=
 match k.aX with
 | some true => match z with|.agg _ => true|_ => false
 | some false => match z with|.agg _ => false|_ => true
 | none => true
def Wr (P:Program) (T:Nat) (ts:TS):Bool:=
 match P.underlying T,P.info? T with
 | some d,some i=>
  ZA P d ts.k && decide (i.size=ts.size) && decide (i.bytes=ts.bytes) && decide (ts.zero.length=ts.size) &&
   (match i.zero with|some z=>Yn z.cells.toList ts.zero && sY ts.k z|none=>false)
 | _, _ => false
structure w9 (P:Program) (T:Nat) (ts:TS) (d:TypeDesc) (i:TypeInfo) (z:Value):Prop where
 u:P.underlying T=some d
 k:ZA P d ts.k=true
 info:P.info? T=some i
 size:i.size=ts.size
 bytes:i.bytes=ts.bytes
 zo:i.zero=some z
 zl:ts.zero.length=ts.size
 zr:Yn z.cells.toList ts.zero=true
 zk:sY ts.k z=true
theorem CI {P:Program} {T:Nat} {ts:TS} (h:Wr P T ts=true):∃ d i z,w9 P T ts d i z:=by
 unfold Wr at h;cases hu:P.underlying T with
 | none => rw [hu] at h; cases h
 | some d=>
  cases hi:P.info? T with
  | none => rw [hu, hi] at h; cases h
  | some i=>
   rw [hu,hi] at h;simp only [zU,decide_eq_true_eq] at h;obtain ⟨⟨⟨⟨h1,h2⟩,h3⟩,h4⟩,h5⟩:=h;cases hz:i.zero with
   | none => rw [hz] at h5; cases h5
   | some z =>
    rw [hz] at h5;simp only [zU] at h5;exact ⟨d,i,z,hu,h1,hi,h2,h3,hz,h4,h5.1,h5.2⟩
structure Ctx where
 P:Program
 N:Nat
 ty:Nat→TS
 ok:∀ T,(match (ty T).k with|.other=>true|_=>Wr P T (ty T))=true
 mixed:P.follows .mixedOrders=true
theorem Ctx.get (c:Ctx) {T:Nat} {k:TK} (h:(c.ty T).k=k) (hk:k≠.other):∃ d i z,w9 c.P T (c.ty T) d i z:=by
 refine CI ?_;have:=c.ok T;cases k <;> first|exact absurd rfl hk|(rw [h] at this;exact this)
theorem Rd.zero {f:FV} (h:Zm v f=true):Rd w I v f:=by
 cases f with
 | undef => exact .undef v
 | int k n =>
  cases v <;> simp [Zm] at h
  obtain ⟨rfl,rfl⟩:=h;exact .int _ _
 | bool b =>
  cases v <;> simp [Zm] at h
  subst h;exact .bool _
 | str s =>
  cases v <;> simp [Zm] at h
  rename_i t;have e:t=s:=by rw [h.1,h.2]
  subst e;exact .str _
 | nil=>
  cases v with
  | slice a n c =>
   cases a with
   | none => cases n <;> cases c <;> first|exact .nil|(simp [Zm] at h)
   | some a => simp [Zm] at h
  | _ => simp [Zm] at h
 | cm=>
  cases v with
  | map a =>
   cases a with
   | none => exact .cm
   | some a => simp [Zm] at h
  | _ => simp [Zm] at h
 | ak =>
  cases v with
  | nilFunc => exact .ak
  | _ => simp [Zm] at h
 | _ => cases v <;> first|(simp [Zm] at h; done)|(rename_i a n c; cases a <;> cases n <;> cases c <;> simp [Zm] at h)
theorem aD.zeros {w:World} {I:Nat→Prop}:∀ {vs:List Value} {fs:List FV},Yn vs fs=true→aD w I vs fs
 | [], [], _ => aD.nil
 | [], _ :: _, h => by simp [Yn] at h
 | _ :: _, [], h => by simp [Yn] at h
 | v :: vs, f :: fs, h => by
  simp only [Yn,zU] at h;exact aD.cons (Rd.zero h.1) (aD.zeros h.2)
def dt:Value→FV
 | .int k n => .int k n
 | .bool b => .bool b
 | .string s => .str s
 | .slice none 0 0 => .nil
 | .map none => .cm
 | _ => .undef
def fp:Value→FV
 | .agg cs => .agg (cs.toList.map dt)
 | v => dt v
theorem Rd.dt (v:Value):Rd w I v (dt v):=by
 unfold YtedkppfghdipdaaGreatDoor.dt;split <;> first|exact .int _ _|exact .bool _|exact .str _|exact .nil|exact .cm|exact .undef _
theorem Rd.fp (v:Value):Rd w I v (fp v):=by
 unfold YtedkppfghdipdaaGreatDoor.fp;split
 ·rename_i cs;have:=Rd.agg (w:=w) (I:=I) cs.toList (cs.toList.map YtedkppfghdipdaaGreatDoor.dt) zg (fun j u f hu hf=>by
   rw [yK,hu] at hf;simp only [xU,yh] at hf;subst hf;exact Rd.dt u)
  simpa using this
 ·exact Rd.dt v
theorem uP (v:Value):(fp v).hand=none:=by
 unfold fp;split
 ·rfl
 ·unfold dt;split <;> rfl
def ae.ev (s:ae):Operand→FV
 | .tmp t => s.get t
 | .const v => fp v
 | .func f => .fn f []
 | _ => .undef
section
variable {N:Nat} {w0 w:World} {J:JJ} {s:ae} {a:Act} {β:Nat→Option Nat}
theorem FR.ev (h:FR N w0 J s a w β) (x:Operand):VR w (aG J w β s) β s (a.eval x) (s.ev x):=by
 cases x with
 | tmp t => exact h.slot t
 | const v =>
  exact VR.bt (Rd.fp v) (uP v)
 | global g => exact Rd.undef _
 | func f => exact VR.bt (Rd.fn f [] [] rfl zg) rfl
theorem FR.cr (h:FR N w0 J s a w β) (x:Operand) {id aa:Nat} (hf:(id,aa)∈(s.ev x).hands):aa≤(s.ob id).aa:=by
 cases x with
 | tmp t => exact h.bP t id aa hf
 | const v =>
  rw [ae.ev] at hf;exact (FV.aT (uP _) hf).elim
 | global g => simp [ae.ev, FV.hands] at hf
 | func f => simp [ae.ev, FV.hands] at hf
theorem FR.bc (h:FR N w0 J s a w β) {k:IntKind} {n:Int} (e:s.ev x=.int k n):a.eval x=.int k n:=by
 have:=h.ev x;rw [e] at this;have:=VR.rd this rfl;generalize a.eval x=v at this;cases this;rfl
theorem FR.cQ (h:FR N w0 J s a w β) (e:s.ev x=.bool b):a.eval x=.bool b:=by
 have:=h.ev x;rw [e] at this;have:=VR.rd this rfl;generalize a.eval x=v at this;cases this;rfl
theorem FR.cK (h:FR N w0 J s a w β) (e:s.ev x=.nil):a.eval x=.slice none 0 0:=by
 have:=h.ev x;rw [e] at this;have:=VR.rd this rfl;generalize a.eval x=v at this;cases this;rfl
theorem FR.bg (h:FR N w0 J s a w β) {f:FV} (e:s.ev x=f) (hf:f.hand=none):Rd w (aG J w β s) (a.eval x) f:=by
 have:=h.ev x;rw [e] at this;exact VR.rd this hf
theorem FR.bE (h:FR N w0 J s a w β) {id aa o:Nat} (e:s.ev x=.own id aa o n) (hl:(s.ob id).ag≠.dead) (hv:(s.ob id).aa=aa):Vc w (β id) (s.ob id) (a.eval x) o n:=by
 have:=h.ev x;rw [e] at this;exact this hl hv
theorem FR.bV (h:FR N w0 J s a w β) {id aa:Nat} (e:s.ev x=.ptr id aa i off) (hl:(s.ob id).ag≠.dead) (hv:(s.ob id).aa=aa):(s.ob id).ag.bm=true∧∃ b,β id=some b∧a.eval x=.pointer (some ⟨b,i * (s.ob id).sz+off,none⟩):=by
 have:=h.ev x;rw [e] at this;exact this hl hv
theorem FR.fq (h:FR N w0 J s a w β) {id aa:Nat} (e:s.ev x=.omap id aa) (hl:(s.ob id).ag≠.dead) (hv:(s.ob id).aa=aa):(s.ob id).ag.bm=false∧∃ b,β id=some b∧a.eval x=.map (some b):=by
 have:=h.ev x;rw [e] at this;exact this hl hv
end
def cF:BinOp→IntKind→Int→Int→Option FV
 | .add, k, a, b => some (.int k (k.wrap (a+b)))
 | .sub, k, a, b => some (.int k (k.wrap (a - b)))
 | .mul, k, a, b => some (.int k (k.wrap (a * b)))
 | .eql, _, a, b => some (.bool (a == b))
 | .neq, _, a, b => some (.bool (a != b))
 | .lss, _, a, b => some (.bool (decide (a<b)))
 | .leq, _, a, b => some (.bool (decide (a ≤ b)))
 | .gtr, _, a, b => some (.bool (decide (a > b)))
 | .geq, _, a, b => some (.bool (decide (a ≥ b)))
 | .and, k, a, b => some (.int k (k.wrap (BitVec.ofInt k.bits a &&& BitVec.ofInt k.bits b).toNat))
 | .or, k, a, b => some (.int k (k.wrap (BitVec.ofInt k.bits a ||| BitVec.ofInt k.bits b).toNat))
 | _, _, _, _ => none
section
variable {N:Nat} {w0 w:World} {J:JJ} {s:ae} {a:Act} {β:Nat→Option Nat} {P:Program}
theorem Ej (op:BinOp) (T T2:TypeId) (x y:Operand) {k:IntKind} {n:Int} {f:FV} (ex:a.eval x=.int k m) (ey:a.eval y=.int k n) (hf:cF op k m n=some f) (dst:Option Nat) (ty:TypeId) (pos:String) (after:Array Edge) (g:Option (Nat×Bool)) (I:Nat→Prop) :
  ∃ v,(execOp a.eval ⟨dst,.binOp op T x y T2,ty,pos,after,g⟩).run P w=.ok (.value v) w∧Rd w I v f∧f.hand=none:=by
 cases op <;> simp only [cF,yh,reduceCtorEq] at hf <;> subst hf <;>
  simp [execOp,eqGuard,binOp,ex,ey,Op.intArith,Op.intCmp,Op.intBits,FV.hand] <;> first|exact .int _ _|exact .bool _
theorem ET (op:BinOp) (T T2:TypeId) (x y:Operand) {k yk:IntKind} {n:Int} (ex:a.eval x=.int k m) (ey:a.eval y=.int yk n) (hn:0≤n) (bM:op=.shl∨op=.shr) (dst:Option Nat) (ty:TypeId) (pos:String) (after:Array Edge) (g:Option (Nat×Bool)) :
  (execOp a.eval ⟨dst,.binOp op T x y T2,ty,pos,after,g⟩).run P w=.ok (.value (.int k (if op=.shl then k.wrap (m * 2 ^ (min n.toNat k.bits)) else m.fdiv (2 ^ (min n.toNat k.bits))))) w:=by
 have nk : ¬ n<0:=by omega
 rcases bM with rfl|rfl <;> simp [execOp,eqGuard,binOp,ex,ey,Op.shift,nk]
theorem Ek (op:BinOp) (T T2:TypeId) (x y:Operand) {k:IntKind} {n:Int} (ex:a.eval x=.int k m) (ey:a.eval y=.int k n) (hn:n≠0) (bM:op=.quo∨op=.rem) (dst:Option Nat) (ty:TypeId) (pos:String) (after:Array Edge) (g:Option (Nat×Bool)) :
  (execOp a.eval ⟨dst,.binOp op T x y T2,ty,pos,after,g⟩).run P w=.ok (.value (.int k (if op=.quo then k.wrap (m.tdiv n) else m.tmod n))) w:=by
 rcases bM with rfl|rfl <;> simp [execOp,eqGuard,binOp,ex,ey,Op.intDiv,hn]
theorem Ei (op:BinOp) {T:TypeId} (x y:Operand) {m n:Bool} (hT:P.underlying T=some .bool) (ex:a.eval x=.bool m) (ey:a.eval y=.bool n) (bM:op=.eql∨op=.neq) (dst:Option Nat) (ty:TypeId) (pos:String) (after:Array Edge) (g:Option (Nat×Bool)) :
  (execOp a.eval ⟨dst,.binOp op T x y T2,ty,pos,after,g⟩).run P w=.ok (.value (.bool (if op=.eql then m == n else m != n))) w:=by
 have h1:∀ op:BinOp,(eqGuard op T x y (.bool m) (.bool n)).run P w=.ok () w:=fun op=>by cases op <;> simp [eqGuard]
 have h2:=run_equal_bool (P:=P) w T m n hT;rcases bM with rfl|rfl
 ·have e:binOp .eql T (.bool m) (.bool n)=(do pure (.bool (← Op.equal T (.bool m) (.bool n)))):=rfl;simp only [execOp,ex,ey,e,Zx,Result.andThen,h1,h2,Zy,if_true]
 ·have e:binOp .neq T (.bool m) (.bool n)=(do pure (.bool (!(← Op.equal T (.bool m) (.bool n))))):=rfl;simp only [execOp,ex,ey,e,Zx,Result.andThen,h1,h2,Zy,bne];rfl
end
theorem xn (b o n:Nat):(⟨b,o,none⟩:Addr).add n=⟨b,o+n,none⟩:=by
 unfold Addr.add;split
 ·rename_i h;subst h;rfl
 ·rfl
def Zl (ts:TS) (cs:List FV):FV:=
 match ts.k.aX with
 | some true => .agg (cs.take ts.size)
 | _ => cs.headD .undef
theorem yH {P:Program} {e:Nat} (h:ZA P d (.slice e)=true):d=.slice e:=by
 cases d <;> simp [ZA] at h
 subst h;rfl
theorem sv {P:Program} {e:Nat} (h:ZA P d (.arr n e)=true):d=.array n e:=by
 cases d <;> simp [ZA] at h
 obtain ⟨rfl,rfl⟩:=h;rfl
theorem sw {P:Program} {e:Nat} (h:ZA P d (.map n e)=true):d=.map n e:=by
 cases d <;> simp [ZA] at h
 obtain ⟨rfl,rfl⟩:=h;rfl
theorem vM {P:Program} {k:IntKind} (h:ZA P d (.int k)=true):d=.int k:=by
 cases d <;> simp [ZA] at h
 subst h;rfl
theorem vn {P:Program} (h:ZA P d .bool=true):d=.bool:=by
 cases d <;> first|rfl|(simp [ZA] at h)
theorem Ee {P:Program} (h:ZA P d .str=true):d=.string:=by
 cases d <;> first|rfl|(simp [ZA] at h)
theorem XH {P:Program} (h:ZA P d (.av fs)=true):∃ gs,d=.struct gs∧fs=gs.toList.map (fun f=>(f.offset,f.type))∧∀ f∈gs.toList,f.name≠"_":=by
 cases d <;> simp [ZA] at h
 rename_i gs;refine ⟨gs,rfl,h.1,fun f hf=>?_⟩;obtain ⟨i,hi,rfl⟩:=yS hf;have:=h.2 i (by simpa using hi);simpa using this
theorem Xt {c:Ctx} {T:Nat} (hk:(c.ty T).k.aX = some b) (w:World):(isAgg T).run c.P w=.ok b w:=by
 cases gD:(c.ty T).k with
 | other => rw [gD] at hk; cases hk
 | any =>
  obtain ⟨d,i,z,h⟩:=c.get gD zg;have hd:=h.k;rw [gD] at hd hk;simp only [TK.aX,yh] at hk;subst hk;cases d <;> first|(simp [ZA] at hd;done)|simp [isAgg,run_underlying h.u]
 | _=>
  obtain ⟨d,i,z,h⟩:=c.get gD zg;have hd:=h.k;rw [gD] at hd hk
  first
   | (obtain ⟨gs, rfl, _⟩ := XH hd; simp only [TK.aX, yh] at hk; subst hk; simp [isAgg, run_underlying h.u])
   | (obtain rfl := sv hd; simp only [TK.aX, yh] at hk; subst hk; simp [isAgg, run_underlying h.u])
   | (obtain rfl := vM hd; simp only [TK.aX, yh] at hk; subst hk; simp [isAgg, run_underlying h.u])
   | (obtain rfl := vn hd; simp only [TK.aX, yh] at hk; subst hk; simp [isAgg, run_underlying h.u])
   | (obtain rfl := Ee hd; simp only [TK.aX, yh] at hk; subst hk; simp [isAgg, run_underlying h.u])
   | (obtain rfl := yH hd; simp only [TK.aX, yh] at hk; subst hk; simp [isAgg, run_underlying h.u])
   | (obtain rfl := sw hd; simp only [TK.aX, yh] at hk; subst hk; simp [isAgg, run_underlying h.u])
theorem wH {k:TK} (h:k.aX = some b):k≠.other:=by rintro rfl;cases h
theorem xe {c:Ctx} {T:Nat} (hk:(c.ty T).k≠.other) (w:World):(sizeOf T).run c.P w=.ok (c.ty T).size w:=by
 obtain ⟨d,i,z,h⟩:=c.get rfl hk;simp [sizeOf,typeInfo,h.info,h.size]
theorem YV {c:Ctx} {T:Nat} (hk:(c.ty T).k≠.other) (w:World):∃ z,(zeroValue T).run c.P w=.ok z w∧Yn z.cells.toList (c.ty T).zero=true∧z.cells.size=(c.ty T).size:=by
 obtain ⟨d,i,z,h⟩:=c.get rfl hk;refine ⟨z,by simp [zeroValue,typeInfo,h.info,h.zo],h.zr,?_⟩;have:=(aD.zeros (w:=w) (I:=fun _=>True) h.zr).1;rw [h.zl] at this;simpa using this
theorem Wp {c:Ctx} {T:Nat} (hk:(c.ty T).k.aX = some bb) (w:World) (b o:Nat) (us:List Value) (hl:(c.ty T).size≤us.length) (h1:bb=false→0<us.length)
  (hc:∀ (j:Nat) u,us[j]? = some u→w.cell? ⟨b,o+j,none⟩=some u) {fs:List FV} (hr:aD w I us fs) :
  ∃ v,(loadVar T ⟨b,o,none⟩).run c.P w=.ok v w∧Rd w I v (Zl (c.ty T) fs):=by
 cases bb with
 | true=>
  refine ⟨.agg (us.take (c.ty T).size).toArray,?_,?_⟩
  ·have hs:=xe (wH hk) w;have tQ:=run_loadCells_list (P:=c.P) (w:=w) ⟨b,o,none⟩ (us.take (c.ty T).size) (fun j v hv=>by
    rw [xn];rw [xg] at hv;split at hv
    ·exact hc j v hv
    ·cases hv)
   rw [yE,xE hl] at tQ;simp [loadVar,Xt hk,hs,tQ]
  ·unfold Zl;rw [hk];have:=hr.take (c.ty T).size;exact .agg _ _ this.1 this.2
 | false=>
  have h0:=h1 rfl;obtain ⟨u,rest,rfl⟩:∃ u rest,us=u::rest:=by cases us with|nil=>simp at h0|cons u r=>exact ⟨u,r,rfl⟩
  obtain ⟨f,gs,rfl⟩:∃ f gs,fs=f::gs:=by cases fs with|nil=>have:=hr.1;simp at this|cons f r=>exact ⟨f,r,rfl⟩
  refine ⟨u,?_,?_⟩
  ·have:=hc 0 u rfl;rw [Zv] at this;simp [loadVar,Xt hk,load,Sem.run,this]
  ·unfold Zl;rw [hk];exact hr.2 0 u f rfl rfl
def FV.cells:FV→List FV
 | .agg cs => cs
 | f => [f]
theorem Rd.ep {f:FV} (h:Rd w I v f) (hf:f.one=true):v.oneCell'=true:=by
 cases h <;> first|rfl|(simp [FV.one] at hf)
theorem Rd.cells {f:FV} (h:Rd w I v f) (hf:f.cells.all FV.one=true):aD w I v.cells.toList f.cells∧(∀ u∈v.cells.toList,u.oneCell'=true):=by
 have key:aD w I v.cells.toList f.cells:=by
  cases h with
  | agg us fs hl hr => exact ⟨by simpa [Value.cells, FV.cells] using hl, by simpa [Value.cells, FV.cells] using hr⟩
  | undef v => simp [FV.cells, FV.one] at hf
  | bS us fs hl hr => simp [FV.cells, FV.one] at hf
  | ay b off sz es i o us hI he ho hA hl hr => exact aD.cons (.ay b off sz es i o us hI he ho hA hl hr) aD.nil
  | iD f us fs hl hr => exact aD.cons (.iD f us fs hl hr) aD.nil
  | perm v sz es aZ hp hr => simp [FV.cells, FV.one] at hf
  | dP v es aZ hp hr => simp [FV.cells, FV.one] at hf
  | int k n => exact aD.cons (.int k n) .nil
  | bool b => exact aD.cons (.bool b) .nil
  | str s => exact aD.cons (.str s) .nil
  | nil => exact aD.cons .nil aD.nil
  | cm => exact aD.cons .cm aD.nil
  | ak => exact aD.cons .ak aD.nil
  | list A n c sz es us hn hc he ho hA hl hr => exact aD.cons (.list A n c sz es us hn hc he ho hA hl hr) aD.nil
  | smap b clock ao es hI hb bO hl hk hr => exact aD.cons (.smap b clock ao es hI hb bO hl hk hr) aD.nil
  | fn f us fs hl hr => exact aD.cons (.fn f us fs hl hr) aD.nil
  | iface t v f hr => exact aD.cons (.iface t v f hr) aD.nil
 refine ⟨key,fun u hu=>?_⟩;obtain ⟨j,hj,rfl⟩:=yS hu;have fx:j<f.cells.length:=by rw [← key.1];exact hj
 refine (key.2 j _ f.cells[j] zg (by simp [fx])).ep ?_;rw [zV] at hf;exact hf _ (yR fx)
theorem Rd.gZ {f:FV} (hf:f.cells.all FV.one=true):f.hand=none:=by
 cases f <;> first|rfl|(simp [FV.cells,FV.one] at hf)
def ae.wr (s:ae) (l:List (Nat×zL)):ae:=l.foldl (fun s p=>s.set p.1 p.2) s
theorem ae.cG (l:List (Nat×zL)):∀ (s:ae) (k:Nat),(s.wr l).get k=s.get k:=by
 induction l with
 | nil => exact fun _ _ => rfl
 | cons p l ih => exact fun s k => ih (s.set p.1 p.2) k
def ae.live (s:ae) (id aa:Nat):Prop:=(s.ob id).ag≠.dead∧(s.ob id).aa=aa
def xz (c:Ctx) (w0:World) (J:JJ) (s:ae) (a:Act) (o:Oper) (w:World) (f:FV) (wr:List (Nat×zL)):Prop:=
 ∃ v w' aE,(execOp a.eval o).run c.P w=.ok (.value v) w'∧FR c.N w0 J (s.wr wr) a w' aE∧VR w' (aG J w' aE (s.wr wr)) aE (s.wr wr) v f∧∀ id aa,(id,aa)∈f.hands→aa≤((s.wr wr).ob id).aa
section
variable {c:Ctx} {w0 w:World} {J:JJ} {s:ae} {a:Act} {β:Nat→Option Nat} {dst:Option Nat} {ty:TypeId} {pos:String} {after:Array Edge} {g:Option (Nat×Bool)}
theorem xz.pure {o:Oper} {f:FV} (h:FR c.N w0 J s a w β) (hr:(execOp a.eval o).run c.P w=.ok (.value v) w) (hf:VR w (aG J w β s) β s v f) (hv:∀ id aa,(id,aa)∈f.hands→aa≤(s.ob id).aa):xz c w0 J s a o w f []:=
 ⟨v,w,β,hr,h,hf,hv⟩
theorem xz.rd {o:Oper} {f:FV} (h:FR c.N w0 J s a w β) (hr:(execOp a.eval o).run c.P w=.ok (.value v) w) (hf:Rd w (aG J w β s) v f) (hn:f.hand=none):xz c w0 J s a o w f []:=
 .pure h hr (VR.bt hf hn) (fun id aa e=>(FV.aT hn e).elim)
theorem DT (h:FR c.N w0 J s a w β) (x:Operand):xz c w0 J s a ⟨dst,.move x,ty,pos,after,g⟩ w (s.ev x) []:=
 .pure h (v:=a.eval x) (by simp [execOp]) (h.ev x) (fun id aa e=>h.cr x e)
theorem Cd (h:FR c.N w0 J s a w β) (x:Operand):xz c w0 J s a ⟨dst,.assign x,ty,pos,after,g⟩ w (s.ev x) []:=
 .pure h (v:=a.eval x) (by simp [execOp]) (h.ev x) (fun id aa e=>h.cr x e)
theorem DU (h:FR c.N w0 J s a w β) (fY x y:Operand) (hb:s.ev fY=.bool b):xz c w0 J s a ⟨dst,.pick fY x y,ty,pos,after,g⟩ w (if b then s.ev x else s.ev y) []:=by
 have e:=h.cQ hb;cases b
 ·exact .pure h (v:=a.eval y) (by simp [execOp,e,asBool]) (h.ev y) (fun id aa e=>h.cr y e)
 ·exact .pure h (v:=a.eval x) (by simp [execOp,e,asBool]) (h.ev x) (fun id aa e=>h.cr x e)
theorem DP (h:FR c.N w0 J s a w β) (op:BinOp) (T T2:TypeId) (x y:Operand) {k:IntKind} {n:Int} {f:FV} (ex:s.ev x=.int k m) (ey:s.ev y=.int k n) (hf:cF op k m n=some f) :
  xz c w0 J s a ⟨dst,.binOp op T x y T2,ty,pos,after,g⟩ w f []:=by
 obtain ⟨v,h1,h2,h3⟩:=Ej (P:=c.P) (w:=w) op T T2 x y (h.bc ex) (h.bc ey) hf dst ty pos after g (aG J w β s);exact .rd h h1 h2 h3
theorem DQ (h:FR c.N w0 J s a w β) (op:BinOp) (T T2:TypeId) (x y:Operand) {k:IntKind} {n:Int} (ex:s.ev x=.int k m) (ey:s.ev y=.int k n) (hn:n≠0) (bM:op=.quo∨op=.rem) :
  xz c w0 J s a ⟨dst,.binOp op T x y T2,ty,pos,after,g⟩ w (.int k (if op=.quo then k.wrap (m.tdiv n) else m.tmod n)) []:=
 .rd h (Ek (P:=c.P) (w:=w) op T T2 x y (h.bc ex) (h.bc ey) hn bM dst ty pos after g) (.int _ _) rfl
theorem Dz (h:FR c.N w0 J s a w β) (op:BinOp) (T T2:TypeId) (x y:Operand) {k yk:IntKind} {n:Int} (ex:s.ev x=.int k m) (ey:s.ev y=.int yk n) (hn:0≤n) (bM:op=.shl∨op=.shr) :
  xz c w0 J s a ⟨dst,.binOp op T x y T2,ty,pos,after,g⟩ w (.int k (if op=.shl then k.wrap (m * 2 ^ (min n.toNat k.bits)) else m.fdiv (2 ^ (min n.toNat k.bits)))) []:=
 .rd h (ET (P:=c.P) (w:=w) op T T2 x y (h.bc ex) (h.bc ey) hn bM dst ty pos after g) (.int _ _) rfl
theorem DN (h:FR c.N w0 J s a w β) {T:TypeId} (hT:(c.ty T).k≠.other) (lU:(c.ty T2).k=.int k2) (x:Operand) {k:IntKind} {n:Int} (ex:s.ev x=.int k n) :
  xz c w0 J s a ⟨dst,.convert T T2 x,ty,pos,after,g⟩ w (.int k2 (k2.wrap n)) []:=by
 obtain ⟨d1,i1,z1,h1⟩:=c.get (T:=T) rfl hT;obtain ⟨d2,i2,z2,h2⟩:=c.get lU zg;have kW:=h2.k;rw [lU] at kW;obtain rfl:=vM kW;refine .rd h (v:=.int k2 (k2.wrap n)) ?_ (.int _ _) rfl;have hc:(convert T T2 (.int k n)).run c.P w=.ok (.int k2 (k2.wrap n)) w:=by
  unfold convert;simp [run_underlying h1.u,run_underlying h2.u,Conv.intToInt]
 simp [execOp,h.bc ex,hc]
theorem DM (h:FR c.N w0 J s a w β) (op:BinOp) {T:TypeId} (x y:Operand) {m n:Bool} (hT:(c.ty T).k=.bool) (ex:s.ev x=.bool m) (ey:s.ev y=.bool n) (bM:op=.eql∨op=.neq) :
  xz c w0 J s a ⟨dst,.binOp op T x y T2,ty,pos,after,g⟩ w (.bool (if op=.eql then m == n else m != n)) []:=by
 obtain ⟨d,i,z,ht⟩:=c.get hT zg;have hd:=ht.k;rw [hT] at hd;obtain rfl:=vn hd;exact .rd h (Ei (P:=c.P) (w:=w) op x y ht.u (h.cQ ex) (h.cQ ey) bM dst ty pos after g) (.bool _) rfl
theorem EC (h:FR c.N w0 J s a w β) (T:TypeId) (x:Operand) (ex:s.ev x=.bool b):xz c w0 J s a ⟨dst,.unOp .not T x,ty,pos,after,g⟩ w (.bool (!b)) []:=
 .rd h (v:=.bool (!b)) (by simp [execOp,h.cQ ex,Op.unary]) (.bool _) rfl
theorem EB (h:FR c.N w0 J s a w β) (T:TypeId) (x:Operand) {k:IntKind} {n:Int} (ex:s.ev x=.int k n):xz c w0 J s a ⟨dst,.unOp .neg T x,ty,pos,after,g⟩ w (.int k (k.wrap (-n))) []:=
 .rd h (v:=.int k (k.wrap (-n))) (by simp [execOp,h.bc ex,Op.unary,Op.intArith]) (.int _ _) rfl
theorem DS (h:FR c.N w0 J s a w β) (bi:Builtin) (T T2:TypeId) (x y:Operand) {k:IntKind} {n:Int} (ex:s.ev x=.int k m) (ey:s.ev y=.int k n) (dQ:bi=.min∨bi=.max) :
  xz c w0 J s a ⟨dst,.call { callee:=.builtin bi,args:=#[x,y],argTypes:=#[T,T2] },ty,pos,after,g⟩ w (.int k (if bi=.min then (if n<m then n else m) else (if m<n then n else m))) []:=by
 rcases dQ with rfl|rfl
 ·refine .rd h (v:=.int k (if n<m then n else m)) ?_ (.int _ _) rfl;simp [execOp,resolve,invoke,builtin,Builtin.min_,Builtin.min2,h.bc ex,h.bc ey]
 ·refine .rd h (v:=.int k (if m<n then n else m)) ?_ (.int _ _) rfl;simp [execOp,resolve,invoke,builtin,Builtin.max_,Builtin.max2,h.bc ex,h.bc ey]
theorem sI {T e:TypeId} (hT:(c.ty T).k=.slice e) (x:Operand) (ex:a.eval x=.slice A n cc) :
  (execOp a.eval ⟨dst,.call { callee:=.builtin .len,args:=#[x],argTypes:=#[T] },ty,pos,after,g⟩).run c.P w=.ok (.value (.int .i64 n)) w:=by
 obtain ⟨d,i,z,ht⟩:=c.get hT zg;have hd:=ht.k;rw [hT] at hd;obtain rfl:=yH hd;simp [execOp,resolve,invoke,builtin,Builtin.len_,ex,run_underlying ht.u,goInt]
theorem BO (h:FR c.N w0 J s a w β) {T e:TypeId} (hT:(c.ty T).k=.slice e) (x:Operand) {id aa o:Nat} (ex:s.ev x=.own id aa o n) (hl:s.live id aa) :
  xz c w0 J s a ⟨dst,.call { callee:=.builtin .len,args:=#[x],argTypes:=#[T] },ty,pos,after,g⟩ w (.int .i64 n) []:=by
 obtain ⟨A,cc,h1,_⟩:=(h.bE ex hl.1 hl.2).ex;exact .rd h (sI hT x h1) (.int _ _) rfl
theorem BV (h:FR c.N w0 J s a w β) {T e:TypeId} (hT:(c.ty T).k=.slice e) (x:Operand) {sz:Nat} {es:List (List FV)} (ex:s.ev x=.list sz es) :
  xz c w0 J s a ⟨dst,.call { callee:=.builtin .len,args:=#[x],argTypes:=#[T] },ty,pos,after,g⟩ w (.int .i64 es.length) []:=by
 have hr:=h.bg ex rfl;generalize hx:a.eval x=v at hr;cases hr with
 | list A n cc sz es us hn => subst hn; exact .rd h (sI hT x hx) (.int _ _) rfl
theorem BN (h:FR c.N w0 J s a w β) {T e:TypeId} (hT:(c.ty T).k=.slice e) (x:Operand) (ex:s.ev x=.nil) :
  xz c w0 J s a ⟨dst,.call { callee:=.builtin .len,args:=#[x],argTypes:=#[T] },ty,pos,after,g⟩ w (.int .i64 0) []:=
 .rd h (by have:=sI (c:=c) (w:=w) (dst:=dst) (ty:=ty) (pos:=pos) (after:=after) (g:=g) hT x (h.cK ex);simpa using this) (.int _ _) rfl
theorem FR.dV (h:FR c.N w0 J s a w β) {sz o:Nat} {es:List (List FV)} (e:s.ev x=.ay sz es i o) :
  ∃ b off us,a.eval x=.pointer (some ⟨b,off+(i * sz+o),none⟩)∧aG J w β s b∧(∀ e∈es,e.length=sz)∧(∀ f∈es.flatten,f.one=true)∧(∀ (j:Nat) u,us[j]? = some u→w.cell? ⟨b,off+j,none⟩=some u)∧aD w (aG J w β s) us es.flatten:=by
 have hr:=h.bg e rfl;generalize a.eval x=v at hr;cases hr with
 | ay b off sz es i o us hI he ho hA hl hr => exact ⟨b, off, us, rfl, hI, he, ho, hA, hl, hr⟩
theorem u6 {T:Nat} (hT:(c.ty T).k=.av fs) (hf:fs[i]? = some (off,ft)) (dR:(c.ty ft).k≠.other) (aK:(c.ty ft).size≠0) (x:Operand) {b o:Nat} (ex:a.eval x=.pointer (some ⟨b,o,none⟩)) :
  (execOp a.eval ⟨dst,.fieldAddr T x i,ty,pos,after,g⟩).run c.P w=.ok (.value (.pointer (some ⟨b,o+off,none⟩))) w:=by
 obtain ⟨d,ii,z,ht⟩:=c.get hT zg;have hd:=ht.k;rw [hT] at hd;obtain ⟨gs,rfl,jf,_⟩:=XH hd;rw [jf,yK] at hf;cases hg:gs.toList[i]? with
 | none => rw [hg] at hf; cases hf
 | some fl =>
  rw [hg] at hf;simp only [xU,yh,xb] at hf;obtain ⟨rfl,rfl⟩:=hf;have kD : gs[i]? = some fl:=by simpa using hg
  have hs:=xe (c:=c) dR w;simp [execOp,Instr.fieldAt,run_underlying ht.u,kD,ex,Instr.sureAddr,fieldPlace,hs,aK,xn]
theorem Bx (h:FR c.N w0 J s a w β) {T:Nat} (hT:(c.ty T).k=.av fs) (hf:fs[i]? = some (off,ft)) (dR:(c.ty ft).k≠.other) (aK:(c.ty ft).size≠0) (x:Operand)
  {id aa o:Nat} (ex:s.ev x=.ptr id aa j o) (hl:s.live id aa):xz c w0 J s a ⟨dst,.fieldAddr T x i,ty,pos,after,g⟩ w (.ptr id aa j (o+off)) []:=by
 obtain ⟨aw,b,hb,hv⟩:=h.bV ex hl.1 hl.2;refine .pure h (u6 hT hf dR aK x hv) (fun _ _=>⟨aw,b,hb,by rw [Wy]⟩) (fun aM bI e=>h.cr x (by rw [ex];exact e))
theorem Ut (h:FR c.N w0 J s a w β) {T:Nat} (hT:(c.ty T).k=.av fs) (hf:fs[i]? = some (off,ft)) (dR:(c.ty ft).k≠.other) (aK:(c.ty ft).size≠0) (x:Operand)
  {sz o:Nat} {es:List (List FV)} (ex:s.ev x=.ay sz es j o):xz c w0 J s a ⟨dst,.fieldAddr T x i,ty,pos,after,g⟩ w (.ay sz es j (o+off)) []:=by
 obtain ⟨b,dT,us,hv,hI,he,ho,hA,hr⟩:=h.dV ex;refine .rd h (u6 hT hf dR aK x hv) ?_ rfl;have:=Rd.ay (w:=w) (I:=aG J w β s) b dT sz es j (o+off) us hI he ho hA hr.1 hr.2;rwa [show dT+(j * sz+(o+off))=dT+(j * sz+o)+off by omega] at this
theorem u7 {T e:Nat} (hT:(c.ty T).k=.slice e) (he:(c.ty e).k≠.other) (x y:Operand) {b o m:Nat} {k:IntKind} {n:Int} (ex:a.eval x=.slice (some ⟨b,o,none⟩) m cc) (ey:a.eval y=.int k n) (h0:0≤n) (h1:n<m) :
  (execOp a.eval ⟨dst,.indexAddr T x y,ty,pos,after,g⟩).run c.P w=.ok (.value (.pointer (some ⟨b,o+n.toNat * (c.ty e).size,none⟩))) w:=by
 obtain ⟨d,ii,z,ht⟩:=c.get hT zg;have hd:=ht.k;rw [hT] at hd;obtain rfl:=yH hd;have hs:=xe (c:=c) he w;simp [execOp,Instr.indexAt,run_underlying ht.u,ex,ey,asIntOf,hs,h0,h1,xn]
theorem Uv (h:FR c.N w0 J s a w β) {T e:Nat} (hT:(c.ty T).k=.slice e) (he:(c.ty e).k≠.other) (x y:Operand) {sz:Nat} {es:List (List FV)} {k:IntKind} (ex:s.ev x=.list sz es) (aK:(c.ty e).size=sz)
  (ey:s.ev y=.int k n) (h1:n<es.length):xz c w0 J s a ⟨dst,.indexAddr T x y,ty,pos,after,g⟩ w (.ay sz es n 0) []:=by
 have hr:=h.bg ex rfl;generalize hx:a.eval x=v at hr;cases hr with
 | list A m cc sz es us hn hc hw ho hA hl hr =>
  subst hn;obtain ⟨b,off,rfl,hI,aW⟩:=hA zc;refine .rd h (u7 hT he x y hx (h.bc ey) zc zc) ?_ rfl;have:=Rd.ay (w:=w) (I:=aG J w β s) b off sz es n 0 us hI hw ho aW hl hr;rw [aK];simpa using this
theorem By (h:FR c.N w0 J s a w β) {T e:Nat} (hT:(c.ty T).k=.slice e) (he:(c.ty e).k≠.other) (x y:Operand) {id aa o m:Nat} {k:IntKind} (ex:s.ev x=.own id aa o m) (hl:s.live id aa) (aK:(c.ty e).size=(s.ob id).sz)
  (ey:s.ev y=.int k n) (h1:n<m):xz c w0 J s a ⟨dst,.indexAddr T x y,ty,pos,after,g⟩ w (.ptr id aa (o+n) 0) []:=by
 have aw:=(h.bE ex hl.1 hl.2).row;obtain ⟨A,cc,e1,e2,e3,e4,e5⟩:=(h.bE ex hl.1 hl.2).ex;cases hb:β id with
 | none => have := (e4 hb).2; omega
 | some b =>
  obtain ⟨o',rfl,k2,k3⟩:=e5 b hb;have eG:=k2 (.inl zc);subst eG;refine .pure h (u7 hT he x y e1 (h.bc ey) zc zc) (fun _ _=>⟨aw,b,hb,?_⟩) (fun aM bI e=>h.cr x (by rw [ex];exact e));rw [aK];simp [zQ]
theorem uA {T e:Nat} (hT:(c.ty T).k=.arr n e) (he:(c.ty e).k≠.other) (x y:Operand) {b o:Nat} {k:IntKind} {i:Int} (ex:a.eval x=.pointer (some ⟨b,o,none⟩)) (ey:a.eval y=.int k i) (h0:0≤i) (h1:i<n) :
  (execOp a.eval ⟨dst,.indexAddr T x y,ty,pos,after,g⟩).run c.P w=.ok (.value (.pointer (some ⟨b,o+i.toNat * (c.ty e).size,none⟩))) w:=by
 obtain ⟨d,ii,z,ht⟩:=c.get hT zg;have hd:=ht.k;rw [hT] at hd;obtain rfl:=sv hd;have hs:=xe (c:=c) he w;simp [execOp,Instr.indexAt,run_underlying ht.u,ex,ey,asIntOf,hs,h0,h1,xn,Instr.sureAddr]
theorem Uu (h:FR c.N w0 J s a w β) {T m e:Nat} (hT:(c.ty T).k=.arr m e) (he:(c.ty e).k≠.other) (x y:Operand) {id aa o:Nat} {k:IntKind} (ex:s.ev x=.ptr id aa j o) (hl:s.live id aa)
  (ey:s.ev y=.int k n) (h1:n<m):xz c w0 J s a ⟨dst,.indexAddr T x y,ty,pos,after,g⟩ w (.ptr id aa j (o+n * (c.ty e).size)) []:=by
 obtain ⟨aw,b,hb,hv⟩:=h.bV ex hl.1 hl.2;refine .pure h (uA hT he x y hv (h.bc ey) zc zc) (fun _ _=>⟨aw,b,hb,by simp [Wy]⟩) (fun aM bI e=>h.cr x (by rw [ex];exact e))
theorem VA (h:FR c.N w0 J s a w β) {T m e:Nat} (hT:(c.ty T).k=.arr m e) (he:(c.ty e).k≠.other) (x y:Operand) {sz o:Nat} {es:List (List FV)} {k:IntKind} (ex:s.ev x=.ay sz es j o)
  (ey:s.ev y=.int k n) (h1:n<m):xz c w0 J s a ⟨dst,.indexAddr T x y,ty,pos,after,g⟩ w (.ay sz es j (o+n * (c.ty e).size)) []:=by
 obtain ⟨b,dT,us,hv,hI,hw,ho,hA,hr⟩:=h.dV ex;refine .rd h (uA hT he x y hv (h.bc ey) zc zc) ?_ rfl;have:=Rd.ay (w:=w) (I:=aG J w β s) b dT sz es j (o+n * (c.ty e).size) us hI hw ho hA hr.1 hr.2;simp only [r8];rwa [show dT+(j * sz+(o+n * (c.ty e).size))=dT+(j * sz+o)+n * (c.ty e).size by omega] at this
theorem Xh {α:Type} {sz:Nat}:∀ (es:List (List α)),(∀ e∈es,e.length=sz)→∀ (i o:Nat),i<es.length→o≤sz→es.flatten.drop (i * sz+o)=(es.getD i []).drop o++(es.drop (i+1)).flatten
 | [], _, i, _, hi, _ => by simp at hi
 | e :: es, he, 0, o, _, ho => by
  have h1:=he e zg;simp only [ZS,yr,yz,WI,List.drop_one,List.tail_cons];rw [List.drop_append,h1,Nat.sub_eq_zero_of_le ho,Zo]
 | e :: es, he, i+1, o, hi, ho => by
  have h1:=he e zg;have ih:=Xh es (fun x hx=>he x (by simp [hx])) i o (by simpa using hi) ho;rw [show (i+1) * sz+o=sz+(i * sz+o) by rw [zQ];omega,yz,← List.drop_drop,← h1,List.drop_left,h1,ih];simp
theorem xk {sz:Nat} {es:List (List α)} (he:∀ e∈es,e.length=sz):es.flatten.length=es.length * sz:=by
 induction es with
 | nil => simp
 | cons e es ih => rw [yz, yL, ih (fun x hx => he x (by simp [hx])), he e zg, xo, zQ]; omega
theorem VX {sz:Nat} {es:List (List α)} (he:∀ e∈es,e.length=sz) (hi:i<es.length):(es.getD i []).length=sz:=by
 rw [xX,xZ hi];exact he _ (yR hi)
theorem Xm {ts:TS} {cs ds:List FV} (h:ts.size≤cs.length) (h1:cs≠[]):Zl ts (cs++ds)=Zl ts cs:=by
 unfold Zl;split
 ·rw [Ww h]
 ·cases cs with
  | nil => exact absurd rfl h1
  | cons x xs => rfl
theorem Bz (h:FR c.N w0 J s a w β) {T:Nat} (hk:(c.ty T).k.aX = some bb) (x:Operand) {sz o:Nat} {es:List (List FV)} (ex:s.ev x=.ay sz es j o) (hj:j<es.length) (ho:o+(c.ty T).size≤sz) (eG : o<sz) :
  xz c w0 J s a ⟨dst,.load T x,ty,pos,after,g⟩ w (Zl (c.ty T) ((es.getD j []).drop o)) []:=by
 obtain ⟨b,dT,us,hv,hI,hw,bf,hA,hr⟩:=h.dV ex;have hd:=hr.drop (j * sz+o);rw [Xh es hw j o hj zc] at hd;have hlen:((es.getD j []).drop o).length=sz - o:=by rw [Xz,VX hw hj]
 have kJ:=hd.1;rw [yL,hlen] at kJ;obtain ⟨v,r1,r2⟩:=Wp hk w b (dT+(j * sz+o)) (us.drop (j * sz+o)) zc (fun _=>by omega) (fun i u hu=>by
  rw [xY] at hu;have:=hA _ u hu;rwa [show dT+(j * sz+o)+i=dT+(j * sz+o+i) by omega]) hd
 rw [Xm zc (fun e=>by rw [e] at hlen;simp at hlen;omega)] at r2;have nr:(Zl (c.ty T) ((es.getD j []).drop o)).hand=none:=by
  unfold Zl;split
  ·rfl
  ·have hm:((es.getD j []).drop o).headD .undef∈es.flatten:=by
    cases bj:(es.getD j []).drop o with
    | nil => rw [bj] at hlen; simp at hlen; omega
    | cons y ys =>
     have hy:y∈es.getD j []:=xq (i:=o) (by rw [bj];simp);rw [xX,xZ hj] at hy;exact xi.2 ⟨es[j],yR hj,hy⟩
   have:=bf _ hm;generalize ((es.getD j []).drop o).headD .undef=f at this;cases f <;> first|rfl|(simp [FV.one] at this)
 exact .rd h (by simp [execOp,Instr.loadAt,hv,Instr.sureAddr,r1]) r2 nr
theorem FR.block (h:FR c.N w0 J s a w β) {id:Nat} (hl:(s.ob id).ag≠.dead) (bo:(s.ob id).ag.row=true) {b:Nat} (hb:β id=some b) :
  ∃ cur cap,w.heap[b]? = some (.cells cur (s.ob id).E (0,0))∧(s.ob id).es.length≤cap∧cap≤maxLen∧cur.size=cap * (s.ob id).sz∧
   aD w (aG J w β s) (cur.toList.take ((s.ob id).es.length * (s.ob id).sz)) (s.ob id).es.flatten∧w.ownsRow w0.heap.size (s.ob id).E (s.ob id).sz (.slice (some ⟨b,0,none⟩) (s.ob id).es.length cap) (s.ob id).es.length (cur.toList.take ((s.ob id).es.length * (s.ob id).sz)):=by
 obtain ⟨v,us,r1,r2,r3⟩:=((h.obj id hl).bA bo).row;have Bu:=r1;rcases r1.2 with ⟨rfl,_⟩|⟨g',cap,cur,rfl,_,eb,hn,hm,bj,nu⟩
 ·rw [← r2] at hb;simp [Value.ownBlock] at hb
 ·have jL:g'=b:=by rw [← r2] at hb;simpa [Value.ownBlock] using hb
  subst jL;subst nu;exact ⟨cur,cap,eb,hn,hm,bj,r3,Bu⟩
theorem WO (h:FR c.N w0 J s a w β) {T:Nat} (hk:(c.ty T).k.aX = some bb) (x:Operand) {id aa o:Nat} (ex:s.ev x=.ptr id aa j o) (hl:s.live id aa) (bo:(s.ob id).ag.row=true) (hj:j<(s.ob id).es.length) (ho:o+(c.ty T).size≤(s.ob id).sz) (eG : o<(s.ob id).sz) :
  xz c w0 J s a ⟨dst,.load T x,ty,pos,after,g⟩ w (Zl (c.ty T) (((s.ob id).es.getD j []).drop o)) []:=by
 obtain ⟨_,b,hb,hv⟩:=h.bV ex hl.1 hl.2;obtain ⟨cur,cap,a9,hn,hm,bj,hr,aw⟩:=h.block hl.1 bo hb;have hw:=((h.obj id hl.1).bA bo).wide;have bf:=((h.obj id hl.1).bA bo).one;generalize (s.ob id).es=es at hj hn hr aw hw bf ⊢;generalize (s.ob id).sz=sz at ho eG bj hr aw hw hv ⊢;have hd:=hr.drop (j * sz+o);rw [Xh es hw j o hj zc] at hd;have hlen:((es.getD j []).drop o).length=sz - o:=by rw [Xz,VX hw hj]
 have kJ:=hd.1;rw [yL,hlen] at kJ;obtain ⟨v,r1,r2⟩:=Wp hk w b (j * sz+o) ((cur.toList.take (es.length * sz)).drop (j * sz+o)) zc (fun _=>by omega) (fun i u hu=>by
  rw [xY,xg] at hu;rw [cell_of_row w b _ cur (s.ob id).E (0,0) a9];split at hu
  ·simpa using hu
  ·cases hu) hd
 rw [Xm zc (fun e=>by rw [e] at hlen;simp at hlen;omega)] at r2;have nr:(Zl (c.ty T) ((es.getD j []).drop o)).hand=none:=by
  unfold Zl;split
  ·rfl
  ·have hm:((es.getD j []).drop o).headD .undef∈es.flatten:=by
    cases bj:(es.getD j []).drop o with
    | nil => rw [bj] at hlen; simp at hlen; omega
    | cons y ys =>
     have hy:y∈es.getD j []:=xq (i:=o) (by rw [bj];simp);rw [xX,xZ hj] at hy;exact xi.2 ⟨es[j],yR hj,hy⟩
   have:=bf _ hm;generalize ((es.getD j []).drop o).headD .undef=f at this;cases f <;> first|rfl|(simp [FV.one] at this)
 exact .rd h (by simp [execOp,Instr.loadAt,hv,Instr.sureAddr,r1]) r2 nr
end
def ai {α:Type} (cs:List α) (o:Nat) (ds:List α):List α:=cs.take o++ds++cs.drop (o+ds.length)
theorem xx {cs ds:List α} {o:Nat} (h:o+ds.length≤cs.length):(ai cs o ds).length=cs.length:=by
 unfold ai;simp;omega
theorem aD.ai {vs:List Value} {fs gs:List FV} (h:aD w I us fs) (k:aD w I vs gs) (o:Nat):aD w I (ai us o vs) (ai fs o gs):=by
 unfold YtedkppfghdipdaaGreatDoor.ai;rw [k.1];exact ((h.take o).append k).append (h.drop _)
theorem Up {α:Type} {sz:Nat}:∀ (es:List (List α)),(∀ e∈es,e.length=sz)→∀ (i o:Nat) (ds:List α),i<es.length→o+ds.length≤sz→
  (es.set i (ai (es.getD i []) o ds)).flatten=ai es.flatten (i * sz+o) ds
 | [], _, i, _, _, hi, _ => by simp at hi
 | e :: es, he, 0, o, ds, _, ho => by
  have h1:=he e zg;simp only [List.set_cons_zero,WI,yz,ZS,yr];unfold ai;rw [Ww zc,List.drop_append_of_le_length zc];simp [ye]
 | e :: es, he, i+1, o, ds, hi, ho => by
  have h1:=he e zg;have ih:=Up es (fun x hx=>he x (by simp [hx])) i o ds (by simpa using hi) ho;simp only [List.set_cons_succ,List.getD_cons_succ,yz];rw [ih];unfold ai;have e1:(i+1) * sz+o=e.length+(i * sz+o):=by rw [zQ,h1];omega
  rw [e1,uN,show e.length+(i * sz+o)+ds.length=e.length+(i * sz+o+ds.length) by omega,vW];simp [ye]
theorem FA {sz:Nat} {es:List (List α)} (he:∀ e∈es,e.length=sz) {o:Nat} {ds:List α} (hi:i<es.length) (ho:o+ds.length≤sz):∀ e∈es.set i (ai (es.getD i []) o ds),e.length=sz:=by
 intro e hm;rcases XD hm with h|h
 ·exact he e h
 ·subst h;have:=VX he hi;rw [xx zc,this]
theorem Vj {cs ds:List α} {o:Nat} {x:α} (h:x∈ai cs o ds):x∈cs∨x∈ds:=by
 unfold ai at h;simp only [yT] at h;rcases h with (h|h)|h
 ·exact .inl (xj h)
 ·exact .inr h
 ·exact .inl (xq h)
section
variable {c:Ctx} {w0 w:World} {J:JJ} {s:ae} {a:Act} {β:Nat→Option Nat} {dst:Option Nat} {ty:TypeId} {pos:String} {after:Array Edge} {g:Option (Nat×Bool)}
theorem xG (w:World) (g k:Nat) (cs:Array Value) (h:k≠g):(w.setRow g cs).heap[k]? = w.heap[k]?:=by
 simp only [World.setRow,sB];rw [if_neg (fun e=>h e.symm)]
theorem xc (w:World) (g:Nat) (cs cur:Array Value) (E:TypeId) (h:w.heap[g]? = some (.cells cur E (0,0))):(w.setRow g cs).heap[g]? = some (.cells cs E (0,0)):=by
 simp [World.setRow,sB,h]
theorem DA (h:FR c.N w0 J s a w β) {T:Nat} (hk:(c.ty T).k≠.other) (x y:Operand) {id aa o:Nat} (ex:s.ev x=.ptr id aa j o) (hl:(s.ob id).ag=.own) (hv:(s.ob id).aa=aa) {f:FV} (ey:s.ev y=f)
  (hf:f.cells.all FV.one=true) (bY:f.cells.length=(c.ty T).size) (hj:j<(s.ob id).es.length) (ho:o+(c.ty T).size≤(s.ob id).sz) :
  ∃ w',(execOp a.eval ⟨dst,.store T x y,ty,pos,after,g⟩).run c.P w=.ok .skip w'∧
   FR c.N w0 J (s.wr [(id,{ s.ob id with es:=(s.ob id).es.set j (ai ((s.ob id).es.getD j []) o f.cells) })]) a w' β:=by
 have ah:(s.ob id).ag≠.dead:=by rw [hl];decide
 have bo:(s.ob id).ag.row=true:=by rw [hl];rfl
 obtain ⟨_,b,hb,lv⟩:=h.bV ex ah hv;obtain ⟨cur,cap,a9,hn,hm,bj,hr,aw⟩:=h.block ah bo hb;have hw:=((h.obj id ah).bA bo).wide;have bf:=((h.obj id ah).bA bo).one;have iQ:=h.bg ey (Rd.gZ hf);obtain ⟨gb,iK⟩:=iQ.cells hf;generalize hy:a.eval y=v at gb iK;generalize nc:(s.ob id).es=es at hj hn hr aw hw bf ⊢;generalize aK:(s.ob id).sz=sz at ho bj hr aw hw lv ⊢;have lu:v.cells.toList.length=(c.ty T).size:=by rw [gb.1,bY]
 have hle:j * sz+sz≤es.length * sz:=by
  have:(j+1) * sz≤es.length * sz:=Ys sz zc;rw [zQ] at this;omega
 have AB:es.length * sz≤cap * sz:=Ys sz hn;have bO:=run_storeCells_at c.P b (j * sz+o) (s.ob id).E v.cells.toList 0 cur w a9 zc iK;simp only [Zv] at bO;have bh:cur.toList.length=cap * sz:=by simpa using bj
 have Ba:v.cells.toList.length=f.cells.length:=gb.1;have mz:(cur.toList.take (es.length * sz)).length=es.length * sz:=by rw [yE,bh];omega
 obtain ⟨W,hW⟩:∃ W,W=w.setRow b (ai cur.toList (j * sz+o) v.cells.toList).toArray:=⟨_,rfl⟩
 have ie:W.heap[b]? = some (.cells (ai cur.toList (j * sz+o) v.cells.toList).toArray (s.ob id).E (0,0)):=by rw [hW];exact xc w b _ cur _ a9
 have gR:w.grownBy W (β id):=by
  subst hW;refine ⟨rfl,rfl,rfl,by simp [World.setRow],fun k hk bQ=>xG w b k _ (fun e=>bQ (by rw [e,hb]))⟩
 have ct : W.ownsRow w0.heap.size (s.ob id).E sz (.slice (some ⟨b,0,none⟩) es.length cap) es.length (ai (cur.toList.take (es.length * sz)) (j * sz+o) v.cells.toList):=by
  refine ⟨?_,.inr ⟨b,cap,_,rfl,((h.obj id ah).lt hb).1,ie,hn,hm,?_,?_⟩⟩
  ·rw [xx zc,mz]
  ·simp only [WJ];rw [xx zc,bh]
  ·have key:∀ (L p:Nat) (cs ds:List Value),p+ds.length≤L→L≤cs.length→(ai cs p ds).take L=ai (cs.take L) p ds:=by
    intro L p cs ds h1 h2;unfold ai;rw [ye,ye,Xc,yE,xE zc,Xc,Zu,Zu,Yr zc,xE zc,ym (by omega:ds.length≤L - p),List.drop_take];congr 3;omega
   exact key _ _ _ _ zc zc
 have gm : ∀ f'∈(es.set j (ai (es.getD j []) o f.cells)).flatten,f'.one=true:=by
  intro f' bH;obtain ⟨e,he,kh⟩:=xi.1 bH;rcases XD he with h'|h'
  ·exact bf f' (xi.2 ⟨e,h',kh⟩)
  ·subst h';rcases Vj kh with h'|h'
   ·rw [xX,xZ hj] at h';exact bf f' (xi.2 ⟨_,yR hj,h'⟩)
   ·exact zV.1 hf f' h'
 refine ⟨W,?_,?_⟩
 ·have hs:=xe (c:=c) hk w;have ry : v.cells.size=(c.ty T).size:=by simpa using lu
  have j0 : (storeCells ⟨b,j * sz+o,none⟩ v.cells.toList).run c.P w=.ok () W:=by rw [hW];exact bO
  simp [execOp,Instr.storeAt,storeVar,lv,hy,Instr.sureAddr,hs,ry,j0]
 ·refine h.write id (es:=es.set j (ai (es.getD j []) o f.cells)) (v:=.slice (some ⟨b,0,none⟩) es.length cap) (xs:=ai (cur.toList.take (es.length * sz)) (j * sz+o) v.cells.toList) hl gR ?_ gm ?_ hb.symm ?_ ?_ ?_ (fun k=>?_) (fun k=>rfl)
  ·rw [aK];exact FA hw hj zc
  ·rw [aK,xh];exact ct
  ·rw [Up es hw j o f.cells hj zc];exact hr.ai gb _
  ·rw [nc,xh]
  ·intro b' qu qv bB h1 h2;rw [hb] at bB;injection bB with bB
   subst bB;rw [a9] at h1;injection h1 with h1
   injection h1 with h1 _ _
   subst h1;rw [ie] at h2;injection h2 with h2
   injection h2 with h2 _ _
   rw [← h2];simp only [WJ];rw [xx zc,bh,bj]
  ·exact ae.aq s id _ k
end
theorem Vc.fH {E sz:Nat} {ob:zL} (h:w.ownsRow base E sz v n xs) (hn:ob.es.length=n) (hE:ob.E=E) (hs:ob.sz=sz) (bo:ob.ag.bm=true):Vc w v.ownBlock ob v 0 n:=by
 rcases h.2 with ⟨rfl,rfl⟩|⟨g,cap,cur,rfl,_,eb,h1,h2,h3,_⟩
 ·exact ⟨bo,none,0,rfl,zi _,by omega,fun _=>⟨rfl,rfl⟩,fun b hb=>by simp [Value.ownBlock] at hb⟩
 ·refine ⟨bo,some ⟨g,0,none⟩,cap,rfl,h1,by omega,fun hb=>by simp [Value.ownBlock] at hb,fun b hb=>?_⟩;obtain rfl:g=b:=by simpa [Value.ownBlock] using hb
  refine ⟨0,rfl,fun _=>by simp,fun eT hc=>?_⟩;rw [hE,eb] at hc;injection hc with hc
  injection hc with hc _ _
  rw [← hc,hs];simpa using h3
section
variable {c:Ctx} {w0 w:World} {J:JJ} {s:ae} {a:Act} {β:Nat→Option Nat} {ty:TypeId} {pos:String} {after:Array Edge} {g:Option (Nat×Bool)}
theorem Cb (w:World) (o:Obj):Below w.heap.size w (w.alloc o):=(Xv _ _).alloc (zi _) o
theorem FR.newRow (h:FR c.N w0 J s a w β) (d E sz:Nat) (es:List (List FV)) (cur:Array Value) (hw:∀ e∈es,e.length=sz) (ho:∀ f∈es.flatten,f.one=true) (hr:aD w (aG J w β s) cur.toList es.flatten) (hm:es.length≤maxLen) :
  FR c.N w0 J (s.set d ⟨(s.ob d).aa+1,.own,E,sz,es⟩) a (w.alloc (.cells cur E)) (Vp β d (some w.heap.size))∧
   (w.alloc (.cells cur E)).ownsRow w0.heap.size E sz (.slice (some ⟨w.heap.size,0,none⟩) es.length es.length) es.length cur.toList:=by
 have hlen:cur.size=es.length * sz:=by have:=hr.1;rw [xk hw] at this;simpa using this
 have aw:(w.alloc (.cells cur E)).ownsRow w0.heap.size E sz (.slice (some ⟨w.heap.size,0,none⟩) es.length es.length) es.length cur.toList:=
  ⟨by simpa using hlen,.inr ⟨w.heap.size,es.length,cur,rfl,h.bL.size,heap_alloc_new w _,zi _,hm,hlen,by rw [ym (by simp [hlen])]⟩⟩
 refine ⟨h.make none d (v:=.slice (some ⟨w.heap.size,0,none⟩) es.length es.length) (fun k e=>by cases e) (World.grownBy_alloc w _ _) hw ho aw hr (.inr (.inr ⟨_,rfl,zi _⟩)) (fun k=>?_) (fun k=>rfl),aw⟩;rw [ae.aq];split
 ·rfl
 ·simp
theorem Zg (β:Nat→Option Nat) (j:Nat) (x:Option Nat):Vp β j x j=x:=by simp [Vp]
theorem Uw (h:FR c.N w0 J s a w β) {o:Oper} (d E:Nat) (f:FV) (cur:Array Value) (hf:f.cells.all FV.one=true) (hr:aD w (aG J w β s) cur.toList f.cells)
  (bx:(execOp a.eval o).run c.P w=.ok (.value (.pointer (some ⟨w.heap.size,0,none⟩))) (w.alloc (.cells cur E))) :
  xz c w0 J s a o w (.ptr d ((s.ob d).aa+1) 0 0) [(d,⟨(s.ob d).aa+1,.own,E,f.cells.length,[f.cells]⟩)]:=by
 obtain ⟨h1,_⟩:=h.newRow d E f.cells.length [f.cells] cur zg (by simpa using hf) (by simpa using hr) (by simp [maxLen]);refine ⟨_,_,_,bx,h1,fun _ _=>⟨by rw [show (s.wr [(d,(⟨(s.ob d).aa+1,.own,E,f.cells.length,[f.cells]⟩:zL))]).ob d=⟨(s.ob d).aa+1,.own,E,f.cells.length,[f.cells]⟩ from (ae.aq s d _ d).trans (if_pos rfl)];rfl,w.heap.size,Zg _ _ _,by simp⟩,fun id aa e=>?_⟩;simp only [FV.hands,yf,xb] at e;obtain ⟨e1,e2⟩:=e;replace e1:=e1.symm;replace e2:=e2.symm;subst e1;subst e2;show _≤(ae.ob (ae.set s d _) d).aa;rw [ae.aq,if_pos rfl];exact zi _
theorem Dt (h:FR c.N w0 J s a w β) (d:Nat) {T:Nat} (hk:(c.ty T).k≠.other) (hz:(c.ty T).zero.all FV.one=true) :
  xz c w0 J s a ⟨some d,.alloc T,ty,pos,after,g⟩ w (.ptr d ((s.ob d).aa+1) 0 0) [(d,⟨(s.ob d).aa+1,.own,T,(c.ty T).zero.length,[(c.ty T).zero]⟩)]:=by
 obtain ⟨z,h1,h2,h3⟩:=YV hk w;refine Uw h d T (.agg (c.ty T).zero) z.cells hz (aD.zeros h2) ?_;simp [execOp,Instr.alloc,h1,newVar,newRow]
theorem EA (h:FR c.N w0 J s a w β) (d:Nat) {T:Nat} (x:Operand) {f:FV} (ex:s.ev x=f) (hf:f.cells.all FV.one=true) :
  xz c w0 J s a ⟨some d,.box T x,ty,pos,after,g⟩ w (.ptr d ((s.ob d).aa+1) 0 0) [(d,⟨(s.ob d).aa+1,.own,T,f.cells.length,[f.cells]⟩)]:=by
 obtain ⟨h1,h2⟩:=(h.bg ex (Rd.gZ hf)).cells hf;refine Uw h d T f (a.eval x).cells hf h1 ?_;simp [execOp,Instr.box,newVar,newRow]
def ZZ (place:Nat→Option (Nat×Nat)):List FV→List (Nat×FV)→Option (List FV)
 | cs, [] => some cs
 | cs, (i, f) :: rest =>
  match place i with
  | none => none
  | some (off, size) => if f.cells.all FV.one=true ∧ f.cells.length=size ∧ off+size ≤ cs.length then ZZ place (ai cs off f.cells) rest else none
theorem uM:∀ (vs:List Value) (k off:Nat) (A:Array Value),off+k+vs.length≤A.size→(List.foldl (fun (cs:Array Value) (p:Value×Nat)=>cs.setIfInBounds (off+p.2) p.1) A (vs.zipIdx k)).toList=ai A.toList (off+k) vs
 | [], k, off, A, _ => by simp [ai]
 | v :: vs, k, off, A, h => by
  have h' : off+k<A.size:=by simp at h;omega
  rw [List.zipIdx_cons,rR,uM vs (k+1) off _ (by simp at h ⊢;omega)];unfold ai;simp only [Array.toList_setIfInBounds,xo];rw [show off+(k+1)=off+k+1 by omega,Yp (by simpa using h'),List.take_set,List.getElem_set_self,List.set_eq_of_length_le zF,List.drop_set_of_lt zc];simp [Yq,Nat.add_left_comm]
theorem vH {w:World} {I:Nat→Prop} (place:Nat→Option (Nat×Nat)):∀ (ps:List (Nat×FV)) (vs:List (Nat×Value)) (A:Array Value) (cs dD : List FV),aD w I A.toList cs→vs.length=ps.length→
  (∀ (j:Nat) v p,vs[j]? = some v→ps[j]? = some p→v.1=p.1∧Rd w I v.2 p.2)→ZZ place cs ps=some dD→∃ A',Instr.fill place A vs=some A'∧aD w I A'.toList dD
 | [], [], A, cs, dD, hA, _, _, h => by
  simp only [ZZ,yh] at h;subst h;exact ⟨A,rfl,hA⟩
 | [], _ :: _, _, _, _, _, hl, _, _ => by simp at hl
 | _ :: _, [], _, _, _, _, hl, _, _ => by simp at hl
 | (i,f)::ps,(i',v)::vs,A,cs,dD,hA,hl,hp,h=>by
  obtain ⟨e1,e2⟩:=hp 0 _ _ rfl rfl;dsimp only at e1 e2;subst e1;unfold ZZ at h;cases iu:place i' with
  | none => rw [iu] at h; cases h
  | some q=>
   obtain ⟨off,size⟩:=q;rw [iu] at h;dsimp only at h;split at h
   ·rename_i hc;obtain ⟨c1,c2,c3⟩:=hc;obtain ⟨k1,k2⟩:=e2.cells c1;have Bc:v.cells.size=size:=by have:=k1.1;rw [c2] at this;simpa using this
    have gM:A.size=cs.length:=by have:=hA.1;simpa using this
    have hz:A.size=A.toList.length:=by simp
    have og:(v.cells.zipIdx.foldl (fun cs (c,j)=>cs.setIfInBounds (off+j) c) A).toList=ai A.toList off v.cells.toList:=by
     have:=uM v.cells.toList 0 off A zF;rw [← Array.foldl_toList];simpa using this
    obtain ⟨A',r1,r2⟩:=vH place ps vs _ _ _ (by rw [og];exact hA.ai k1 off) (by simpa using hl) (fun j v p hv hq=>hp (j+1) v p hv hq) h;refine ⟨A',?_,r2⟩;unfold Instr.fill;simp only [iu];rw [if_neg (by simp [Bc];omega)];exact r1
   ·cases h
def ae.parts (s:ae) (ps:Array (Nat×Operand)):List (Nat×FV):=ps.toList.map fun p=>(p.1,s.ev p.2)
theorem FR.parts (h:FR c.N w0 J s a w β) (ps:Array (Nat×Operand)) {place:Nat→Option (Nat×Nat)} {cs dD : List FV} {A:Array Value} (hA:aD w (aG J w β s) A.toList cs) (hf:ZZ place cs (s.parts ps)=some dD) :
  ∃ A',Instr.fill place A (ps.map fun (i,x)=>(i,a.eval x)).toList=some A'∧aD w (aG J w β s) A'.toList dD:=by
 have bf:∀ (l:List (Nat×FV)) (cs dD : List FV),ZZ place cs l=some dD→∀ p∈l,p.2.hand=none:=by
  intro l
  induction l with
  | nil => intro _ _ _ p hp; simp at hp
  | cons q l ih=>
   intro cs dD hq p hp;obtain ⟨i,f⟩:=q;unfold ZZ at hq;cases iu:place i with
   | none => rw [iu] at hq; cases hq
   | some z=>
    rw [iu] at hq;dsimp only at hq;split at hq
    ·rename_i hc;rcases zT.1 hp with e|e
     ·subst e;exact Rd.gZ hc.1
     ·exact ih _ _ hq p e
    ·cases hq
 refine vH place (s.parts ps) _ A cs dD hA (by simp [ae.parts]) (fun j v p hv hp=>?_) hf;have AP:=zZ hp;simp only [ae.parts,yK,Option.map_eq_some_iff] at hp;obtain ⟨q,hq,rfl⟩:=hp;have iw : (ps.toList.map fun p=>(p.1,a.eval p.2))[j]? = some v:=by simpa using hv
 simp only [yK,hq,xU,yh] at iw;subst iw;exact ⟨rfl,h.bg rfl (bf _ _ _ hf _ AP)⟩
theorem Dv (h:FR c.N w0 J s a w β) {T:Nat} (hT:(c.ty T).k=.av fs) (jf:∀ p∈fs,(c.ty p.2).k≠.other) (ps:Array (Nat×Operand)) {cs:List FV}
  (hf:ZZ (fun i=>(fs[i]?).map fun p=>(p.1,(c.ty p.2).size)) (c.ty T).zero (s.parts ps)=some cs):xz c w0 J s a ⟨dst,.build T ps,ty,pos,after,g⟩ w (.agg cs) []:=by
 obtain ⟨d,i,z,ht⟩:=c.get hT zg;have hd:=ht.k;rw [hT] at hd;obtain ⟨gs,rfl,tL,_⟩:=XH hd;obtain ⟨A',h1,h2⟩:=h.parts ps (A:=z.cells) (aD.zeros ht.zr) hf;have hp:gs.toList.mapM (fun f=>(c.P.info? f.type).map fun i=>(f.offset,i.size))=some (gs.toList.map fun f=>(f.offset,(c.ty f.type).size)):=by
  have key:∀ (l:List Field),(∀ f∈l,(c.ty f.type).k≠.other)→l.mapM (fun f=>(c.P.info? f.type).map fun i=>(f.offset,i.size))=some (l.map fun f=>(f.offset,(c.ty f.type).size)):=by
   intro l
   induction l with
   | nil => intro _; rfl
   | cons f l ih =>
    intro hl;obtain ⟨d',i',z',cn⟩:=c.get rfl (hl f zg);simp only [List.mapM_cons,cn.info,xU,Option.bind_eq_bind,Xe,ih (fun f hf=>hl f (by simp [hf])),Option.pure_def,cn.size,zH]
  refine key _ (fun f hf=>jf (f.offset,f.type) ?_);rw [tL];exact zM.2 ⟨f,hf,rfl⟩
 have hb:c.P.built T (ps.map fun (i,x)=>(i,a.eval x)).toList=some A':=by
  unfold Program.built;simp only [ht.info,ht.u,ht.zo,hp];rw [← h1];congr 1;funext i;rw [tL];simp [Function.comp_def]
 refine .rd h (v:=.agg A') (by simp only [execOp,Zx,run_build w T _ A' hb,Yu,Zy]) ?_ rfl;have:=Rd.agg (w:=w) (I:=aG J w β s) A'.toList cs h2.1 h2.2;simpa using this
theorem Ce (h:FR c.N w0 J s a w β) {T e:Nat} (hT:(c.ty T).k=.arr n e) (he:(c.ty e).k≠.other) (ps:Array (Nat×Operand)) {cs:List FV}
  (hf:ZZ (fun i=>some (i * (c.ty e).size,(c.ty e).size)) (c.ty T).zero (s.parts ps)=some cs):xz c w0 J s a ⟨dst,.build T ps,ty,pos,after,g⟩ w (.agg cs) []:=by
 obtain ⟨d,i,z,ht⟩:=c.get hT zg;have hd:=ht.k;rw [hT] at hd;obtain rfl:=sv hd;obtain ⟨A',h1,h2⟩:=h.parts ps (A:=z.cells) (aD.zeros ht.zr) hf;obtain ⟨d',i',z',cn⟩:=c.get rfl he;have hb:c.P.built T (ps.map fun (i,x)=>(i,a.eval x)).toList=some A':=by
  unfold Program.built;simp only [ht.info,ht.u,ht.zo,cn.info,cn.size];exact h1
 refine .rd h (v:=.agg A') (by simp only [execOp,Zx,run_build w T _ A' hb,Yu,Zy]) ?_ rfl;have:=Rd.agg (w:=w) (I:=aG J w β s) A'.toList cs h2.1 h2.2;simpa using this
theorem aD.kc {w:World} (us:List Value):aD w I us (List.replicate us.length .undef):=by
 refine ⟨by simp,fun j u f hu hf=>?_⟩;rw [List.getElem?_replicate] at hf;split at hf
 ·injection hf with hf;subst hf;exact .undef u
 ·cases hf
theorem WP (h:FR c.N w0 J s a w β) {o:Oper} (d E sz:Nat) (es:List (List FV)) (cur:Array Value) (hw:∀ e∈es,e.length=sz) (ho:∀ f∈es.flatten,f.one=true) (hr:aD w (aG J w β s) cur.toList es.flatten) (hm:es.length≤maxLen)
  (bx:(execOp a.eval o).run c.P w=.ok (.value (.slice (some ⟨w.heap.size,0,none⟩) es.length es.length)) (w.alloc (.cells cur E))) :
  xz c w0 J s a o w (.own d ((s.ob d).aa+1) 0 es.length) [(d,⟨(s.ob d).aa+1,.own,E,sz,es⟩)]:=by
 obtain ⟨h1,h2⟩:=h.newRow d E sz es cur hw ho hr hm;refine ⟨_,_,_,bx,h1,fun _ _=>?_,fun id aa e=>?_⟩
 ·show Vc _ (Vp β d (some w.heap.size) d) (ae.ob (ae.set s d _) d) _ _ _;rw [Zg,ae.aq,if_pos rfl];exact Vc.fH h2 rfl rfl rfl rfl
 ·simp only [FV.hands,yf,xb] at e;obtain ⟨e1,e2⟩:=e;replace e1:=e1.symm;replace e2:=e2.symm;subst e1;subst e2;show _≤(ae.ob (ae.set s d _) d).aa;rw [ae.aq,if_pos rfl];exact zi _
theorem Us (h:FR c.N w0 J s a w β) (d:Nat) {T e:Nat} (hT:(c.ty T).k=.slice e) (he:(c.ty e).k≠.other) (ps:Array (Nat×Operand)) (es:List (List FV)) (hn:es.length=n) (hw:∀ x∈es,x.length=(c.ty e).size) (ho:∀ f∈es.flatten,f.one=true)
  (df:n * (c.ty e).size≤16777216) (gl:n≤16777216)
  (hf:ZZ (fun i=>some (i * (c.ty e).size,(c.ty e).size)) (List.replicate (n * (c.ty e).size) .undef) (s.parts ps)=some es.flatten) :
  xz c w0 J s a ⟨some d,.buildSlice T n ps,ty,pos,after,g⟩ w (.own d ((s.ob d).aa+1) 0 n) [(d,⟨(s.ob d).aa+1,.own,e,(c.ty e).size,es⟩)]:=by
 obtain ⟨dd,i,z,ht⟩:=c.get hT zg;have hd:=ht.k;rw [hT] at hd;obtain rfl:=yH hd;have hs:=xe (c:=c) he w;obtain ⟨zz,hz,_,_⟩:=YV he w;obtain ⟨A0,dY⟩:∃ A0:Array Value,(if n * (c.ty e).size=0 then (Array.range (n * (c.ty e).size)).map (fun x=>(#[]:Array Value)[x % (#[]:Array Value).size]!) else (Array.range (n * (c.ty e).size)).map (fun x=>zz.cells[x % zz.cells.size]!))=A0:=⟨_,rfl⟩
 have aK:A0.size=n * (c.ty e).size:=by rw [← dY];split <;> simp
 have hu:=aD.kc (w:=w) (I:=aG J w β s) A0.toList;rw [pQ,aK] at hu;obtain ⟨A',h1,h2⟩:=h.parts ps hu hf;subst hn;refine WP h d e (c.ty e).size es A' hw ho h2 (by unfold maxLen;omega) ?_;have jF : ¬ (16777216<es.length * (c.ty e).size):=by omega
 by_cases h0:es.length * (c.ty e).size=0
 ·rw [if_pos h0] at dY;simp [execOp,Instr.buildSlice,run_underlying ht.u,hs,h0,newRow] at dY h1 ⊢;rw [dY,h1];simp
 ·rw [if_neg h0] at dY;simp [execOp,Instr.buildSlice,run_underlying ht.u,hs,jF,h0,hz,newRow,dY] at h1 ⊢;rw [h1];simp
theorem BB (h:FR c.N w0 J s a w β) {o:Oper} (E sz:Nat) (es:List (List FV)) (cur:Array Value) (hw:∀ e∈es,e.length=sz) (ho:∀ f∈es.flatten,f.one=true) (hr:aD w (aG J w β s) cur.toList es.flatten)
  (bx:(execOp a.eval o).run c.P w=.ok (.value (.slice (some ⟨w.heap.size,0,none⟩) es.length es.length)) (w.alloc (.cells cur E))):xz c w0 J s a o w (.list sz es) []:=by
 have hb:Below w.heap.size w (w.alloc (.cells cur E)):=(Xv _ _).alloc (zi _) _;have hG:=h.grow hb;refine ⟨_,_,β,bx,hG,?_,fun _ _ e=>(FV.aT rfl e).elim⟩;refine VR.bt (Rd.list (some ⟨w.heap.size,0,none⟩) es.length es.length sz es cur.toList rfl (zi _) hw ho (fun _=>⟨w.heap.size,0,rfl,⟨?_,h.fresh _ h.bL.size (.inl (zi _)),fun id hl e=>?_⟩,fun j u hu=>?_⟩) hr.1 (fun j u f hu hf=>(hr.2 j u f hu hf).mono fun b aJ=>aJ.grow hb)) rfl
 ·show w.heap.size<(w.heap.push _).size;simp
 ·have:=((h.obj id (xC.aU hl)).lt e).2;omega
 ·have a9:(w.alloc (.cells cur E)).heap[w.heap.size]? = some (.cells cur E (0,0)):=by show (w.heap.push _)[w.heap.size]? = _;simp
  rw [cell_of_row _ w.heap.size _ cur E (0,0) a9];simpa using hu
theorem Vz (h:FR c.N w0 J s a w β) (d:Nat) {T e:Nat} (hT:(c.ty T).k=.slice e) (he:(c.ty e).k≠.other) (ps:Array (Nat×Operand)) (es:List (List FV)) (hn:es.length=n) (hw:∀ x∈es,x.length=(c.ty e).size) (ho:∀ f∈es.flatten,f.one=true)
  (df:n * (c.ty e).size≤16777216) (gl:n≤16777216)
  (hf:ZZ (fun i=>some (i * (c.ty e).size,(c.ty e).size)) (List.replicate (n * (c.ty e).size) .undef) (s.parts ps)=some es.flatten) :
  xz c w0 J s a ⟨some d,.buildSlice T n ps,ty,pos,after,g⟩ w (.list (c.ty e).size es) []:=by
 obtain ⟨dd,i,z,ht⟩:=c.get hT zg;have hd:=ht.k;rw [hT] at hd;obtain rfl:=yH hd;have hs:=xe (c:=c) he w;obtain ⟨zz,hz,_,_⟩:=YV he w;obtain ⟨A0,dY⟩:∃ A0:Array Value,(if n * (c.ty e).size=0 then (Array.range (n * (c.ty e).size)).map (fun x=>(#[]:Array Value)[x % (#[]:Array Value).size]!) else (Array.range (n * (c.ty e).size)).map (fun x=>zz.cells[x % zz.cells.size]!))=A0:=⟨_,rfl⟩
 have aK:A0.size=n * (c.ty e).size:=by rw [← dY];split <;> simp
 have hu:=aD.kc (w:=w) (I:=aG J w β s) A0.toList;rw [pQ,aK] at hu;obtain ⟨A',h1,h2⟩:=h.parts ps hu hf;subst hn;refine BB h e (c.ty e).size es A' hw ho h2 ?_;have jF : ¬ (16777216<es.length * (c.ty e).size):=by omega
 by_cases h0:es.length * (c.ty e).size=0
 ·rw [if_pos h0] at dY;simp [execOp,Instr.buildSlice,run_underlying ht.u,hs,h0,newRow] at dY h1 ⊢;rw [dY,h1];simp
 ·rw [if_neg h0] at dY;simp [execOp,Instr.buildSlice,run_underlying ht.u,hs,jF,h0,hz,newRow,dY] at h1 ⊢;rw [h1];simp
theorem ZV {α:Type} {sz:Nat}:∀ (es:List (List α)),(∀ e∈es,e.length=sz)→∀ k,(es.take k).flatten=es.flatten.take (k * sz)
 | [], _, k => by simp
 | e :: es, he, 0 => by simp
 | e :: es, he, k+1 => by
  have h1:=he e zg;rw [List.take_succ_cons,yz,yz,ZV es (fun x hx=>he x (by simp [hx])) k,zQ,ZR,Yq,← h1,uN]
theorem Zj {α:Type} {sz:Nat}:∀ (es:List (List α)),(∀ e∈es,e.length=sz)→∀ k,(es.drop k).flatten=es.flatten.drop (k * sz)
 | [], _, k => by simp
 | e :: es, he, 0 => by simp
 | e :: es, he, k+1 => by
  have h1:=he e zg;rw [List.drop_succ_cons,yz,Zj es (fun x hx=>he x (by simp [hx])) k,zQ,ZR,Yq,← h1,vW]
theorem BA (h:FR c.N w0 J s a w β) (d:Nat) {T e:Nat} (hT:(c.ty T).k=.slice e) (he:(c.ty e).k≠.other) (x y:Operand) {k1:IntKind} (ex:s.ev x=.int k1 n) (ey:s.ev y=.int k2 n) (ho:(c.ty e).zero.all FV.one=true)
  (hb:(c.ty e).bytes * n≤281474976710656) (hn:n≤281474976710656) :
  xz c w0 J s a ⟨some d,.makeSlice T x y,ty,pos,after,g⟩ w (.own d ((s.ob d).aa+1) 0 n) [(d,⟨(s.ob d).aa+1,.own,e,(c.ty e).size,List.replicate n (c.ty e).zero⟩)]:=by
 obtain ⟨dd,i,z,ht⟩:=c.get hT zg;have hd:=ht.k;rw [hT] at hd;obtain rfl:=yH hd;obtain ⟨d',i',z',cn⟩:=c.get rfl he;have dQ:(i'.bytes:Int) * (n:Int)≤281474976710656:=by
  have:((i'.bytes * n:Nat):Int)≤281474976710656:=by rw [cn.bytes];omega
  rwa [Int.natCast_mul] at this
 have hr:=run_make (P:=c.P) w T e i' z' ht.u cn.info cn.zo k1 k2 n n zc (Int.le_refl _) dQ zc;simp only [r8] at hr;have uh:=(aD.zeros (w:=w) (I:=aG J w β s) cn.zr)
 have Bh:z'.cells.size=(c.ty e).size:=by have:=uh.1;rw [cn.zl] at this;simpa using this
 have hlen:(List.replicate n (c.ty e).zero).length=n:=by simp
 have hg:=WP h (o:=⟨some d,.makeSlice T x y,ty,pos,after,g⟩) d e (c.ty e).size (List.replicate n (c.ty e).zero) (madeCells z'.cells (n * i'.size)) (fun x hx=>by rw [VK hx,cn.zl]) (fun f hf=>by
   obtain ⟨q,hq,oh⟩:=xi.1 hf;rw [VK hq] at oh;exact zV.1 ho f oh) ⟨?_,?_⟩ (by rw [hlen];unfold maxLen;omega) (by
    rw [hlen];simp only [execOp,h.bc ex,h.bc ey,Zx,hr,Yu,Zy])
 ·rwa [hlen] at hg
 ·rw [xk (sz:=(c.ty e).size) (fun x hx=>by rw [VK hx,cn.zl]),hlen];simp [madeCells,cn.size]
 ·intro j u f hu hf;rw [cn.size] at hu;have hj:j<n * (c.ty e).size:=by
   have:=(yq.1 hu).1;simpa [madeCells] using this
  have ud:0<(c.ty e).size:=by
   rcases WD (c.ty e).size with h0|h0
   ·rw [h0] at hj;simp at hj
   ·exact h0
  have ri:=Nat.mod_lt j ud;have A5 : z'.cells.toList[j % (c.ty e).size]? = some u:=by
   have e1:(madeCells z'.cells (n * (c.ty e).size)).toList[j]? = some (z'.cells[j % z'.cells.size]!):=by
    simp [madeCells,hj]
   rw [e1] at hu;injection hu with hu
   rw [Bh] at hu;rw [← hu];have az:j % (c.ty e).size<z'.cells.size:=by omega
   simp [az]
  have bH : (c.ty e).zero[j % (c.ty e).size]? = some f:=by
   have key:∀ (m q r:Nat),r<(c.ty e).size→q<m→(List.replicate m (c.ty e).zero).flatten[q * (c.ty e).size+r]? = (c.ty e).zero[r]?:=by
    intro m q r hr hq;have hw:∀ x∈List.replicate m (c.ty e).zero,x.length=(c.ty e).size:=fun x hx=>by rw [VK hx,cn.zl]
    have:=Xh _ hw q r (by simpa using hq) zc;have h2:((List.replicate m (c.ty e).zero).flatten.drop (q * (c.ty e).size+r))[0]? = (c.ty e).zero[r]?:=by
     rw [this,xX,List.getElem?_replicate,if_pos hq,WG,ZH (by rw [Xz,cn.zl];omega),xY,Zv]
    rwa [xY,Zv] at h2
   have jH:=Nat.div_add_mod j (c.ty e).size;rw [Nat.mul_comm] at jH;rw [← key n (j / (c.ty e).size) (j % (c.ty e).size) ri (by rw [Nat.div_lt_iff_lt_mul ud];exact hj),jH];exact hf
  exact uh.2 _ u f A5 bH
def w7 (a:Act):Option Operand→Nat→Prop
 | none, l => l=0
 | some y, l => ∃ k, a.eval y=.int k (l:Nat)
def w6 (a:Act):Option Operand→Nat→Nat→Prop
 | none, m, u => u=m
 | some y, _, u => ∃ k, a.eval y=.int k (u:Nat)
theorem US {T e:Nat} (hT:(c.ty T).k=.slice e) (he:(c.ty e).k≠.other) (x:Operand) (lo hi:Option Operand) {m u:Nat} (ex:a.eval x=.slice A m cc)
  (c6:w7 a lo l) (cI:w6 a hi m u) (h1:l≤u) (h2:u≤cc) :
  (execOp a.eval ⟨dst,.slice T x lo hi none,ty,pos,after,g⟩).run c.P w=.ok (.value (.slice (if cc=l then A else A.map (·.add (l * (c.ty e).size))) (u - l) (cc - l))) w:=by
 obtain ⟨dd,i,z,ht⟩:=c.get hT zg;have hd:=ht.k;rw [hT] at hd;obtain rfl:=yH hd;have hs:=xe (c:=c) he w;cases lo with
 | none=>
  change l=0 at c6;subst c6;cases hi with
  | none =>
   change u=m at cI;subst cI;simp [execOp,Instr.sliceAt,Instr.slice,Instr.sliceBounds,run_underlying ht.u,ex,hs]
  | some y =>
   obtain ⟨k,hk⟩:=cI;simp [execOp,Instr.sliceAt,Instr.slice,Instr.sliceBounds,Instr.sliceBound,asIntOf,run_underlying ht.u,ex,hs,hk,h2]
 | some z=>
  obtain ⟨k',eE⟩:=c6;cases hi with
  | none =>
   change u=m at cI;subst cI;simp [execOp,Instr.sliceAt,Instr.slice,Instr.sliceBounds,Instr.sliceBound,asIntOf,run_underlying ht.u,ex,hs,eE,h1]
  | some y =>
   obtain ⟨k,hk⟩:=cI;simp [execOp,Instr.sliceAt,Instr.slice,Instr.sliceBounds,Instr.sliceBound,asIntOf,run_underlying ht.u,ex,hs,hk,eE,h1,h2]
end
section
variable {c:Ctx} {w0 w:World} {J:JJ} {s:ae} {a:Act} {β:Nat→Option Nat} {dst:Option Nat} {ty:TypeId} {pos:String} {after:Array Edge} {g:Option (Nat×Bool)}
def ae.lo (s:ae):Option Operand→Nat→Prop
 | none, l => l=0
 | some y, l => ∃ k, s.ev y=.int k (l:Nat)
def ae.hi (s:ae):Option Operand→Nat→Nat→Prop
 | none, m, u => u=m
 | some y, _, u => ∃ k, s.ev y=.int k (u:Nat)
theorem FR.lo (h:FR c.N w0 J s a w β) {lo:Option Operand} (hl:s.lo lo l):w7 a lo l:=by
 cases lo with
 | none => exact hl
 | some y => obtain ⟨k, hk⟩ := hl; exact ⟨k, h.bc hk⟩
theorem FR.hi (h:FR c.N w0 J s a w β) {hi:Option Operand} {m u:Nat} (hl:s.hi hi m u):w6 a hi m u:=by
 cases hi with
 | none => exact hl
 | some y => obtain ⟨k, hk⟩ := hl; exact ⟨k, h.bc hk⟩
theorem BD (h:FR c.N w0 J s a w β) {T e:Nat} (hT:(c.ty T).k=.slice e) (he:(c.ty e).k≠.other) (x:Operand) (lo hi:Option Operand) {id aa o m u:Nat} (ex:s.ev x=.own id aa o m) (hl:s.live id aa) (aK:(c.ty e).size=(s.ob id).sz)
  (c6:s.lo lo l) (cI:s.hi hi m u) (h1:l≤u) (h2:u≤m):xz c w0 J s a ⟨dst,.slice T x lo hi none,ty,pos,after,g⟩ w (.own id aa (o+l) (u - l)) []:=by
 have bo:=(h.bE ex hl.1 hl.2).row;obtain ⟨A,cc,e1,e2,e3,e4,e5⟩:=(h.bE ex hl.1 hl.2).ex;have hr:=US (c:=c) (w:=w) (dst:=dst) (ty:=ty) (pos:=pos) (after:=after) (g:=g) hT he x lo hi e1 (h.lo c6) (h.hi cI) h1 zc;refine .pure h hr (fun _ _=>⟨bo,_,_,rfl,by omega,by omega,fun hb=>?_,fun b hb=>?_⟩) (fun aM bI e=>h.cr x (by rw [ex];exact e))
 ·obtain ⟨rfl,rfl⟩:=e4 hb;obtain rfl:l=0:=by omega
  simp
 ·obtain ⟨o',rfl,k2,k3⟩:=e5 b hb;by_cases bh:cc=l
  ·rw [if_pos bh];refine ⟨o',rfl,fun rp=>?_,fun cur hc=>?_⟩
   ·rcases rp with rp|rp
    ·omega
    ·have:o=0:=by omega
     have Az:l=0:=by omega
     rw [k2 (.inr this),this,Az]
   ·rw [k3 cur hc];congr 1;omega
  ·rw [if_neg bh];have:=k2 (.inl zc);subst this;refine ⟨(o+l) * (s.ob id).sz,by rw [aK];simp [xn,zQ],fun _=>rfl,fun cur hc=>?_⟩;rw [k3 cur hc];congr 1;omega
theorem Ux (h:FR c.N w0 J s a w β) {T e:Nat} (hT:(c.ty T).k=.slice e) (he:(c.ty e).k≠.other) (x:Operand) (lo hi:Option Operand) {sz u:Nat} {es:List (List FV)} (ex:s.ev x=.list sz es) (aK:(c.ty e).size=sz)
  (c6:s.lo lo l) (cI:s.hi hi es.length u) (h1:l≤u) (h2:u≤es.length):xz c w0 J s a ⟨dst,.slice T x lo hi none,ty,pos,after,g⟩ w (.list sz ((es.drop l).take (u - l))) []:=by
 have hr:=h.bg ex rfl;generalize hx:a.eval x=v at hr;cases hr with
 | list A m cc sz es us hn hc hw ho hA hl km=>
  subst hn;have bx:=US (c:=c) (w:=w) (dst:=dst) (ty:=ty) (pos:=pos) (after:=after) (g:=g) hT he x lo hi hx (h.lo c6) (h.hi cI) h1 zc;have iR:∀ e∈es.drop l,e.length=sz:=fun e he=>hw e (xq he);have bY:((es.drop l).take (u - l)).flatten=(es.flatten.drop (l * sz)).take ((u - l) * sz):=by rw [ZV _ iR,Zj _ hw]
  have hR:aD w (aG J w β s) ((us.drop (l * sz)).take ((u - l) * sz)) ((es.drop l).take (u - l)).flatten:=by
   rw [bY];exact (aD.drop ⟨hl,km⟩ _).take _
  refine .rd h bx (.list _ _ _ sz _ ((us.drop (l * sz)).take ((u - l) * sz)) zF zc (fun e he=>iR e (xj he)) (fun f hf=>?_) (fun h0=>?_) hR.1 hR.2) rfl
  ·rw [bY] at hf;exact ho f (xq (xj hf))
  ·obtain ⟨b,off,rfl,hI,aW⟩:=hA zc;rw [if_neg zc];refine ⟨b,off+l * sz,by rw [aK];simp [xn],hI,fun j u' hu=>?_⟩;rw [xg] at hu;split at hu
   ·rw [xY] at hu;have:=aW _ u' hu;rwa [show off+(l * sz+j)=off+l * sz+j by omega] at this
   ·cases hu
theorem BC (h:FR c.N w0 J s a w β) {T e:Nat} (hT:(c.ty T).k=.slice e) (he:(c.ty e).k≠.other) (x:Operand) (lo hi:Option Operand) (ex:s.ev x=.nil)
  (c6:s.lo lo 0) (cI:s.hi hi 0 0):xz c w0 J s a ⟨dst,.slice T x lo hi none,ty,pos,after,g⟩ w .nil []:=by
 have bx:=US (c:=c) (w:=w) (dst:=dst) (ty:=ty) (pos:=pos) (after:=after) (g:=g) hT he x lo hi (h.cK ex) (h.lo c6) (h.hi cI) (zi _) (zi _);exact .rd h bx (by simpa using Rd.nil) rfl
theorem BM (h:FR c.N w0 J s a w β) (x:Operand) {fs:List FV} {f:FV} (ex:s.ev x=.bS fs) (hf:fs[i]? = some f) (hn:f.hand=none):xz c w0 J s a ⟨dst,.extract x i,ty,pos,after,g⟩ w f []:=by
 have hr:=h.bg ex rfl;generalize hx:a.eval x=v at hr;cases hr with
 | bS us fs hl hr =>
  have hi:i<us.length:=by rw [hl];exact (yq.1 hf).1
  have hu:us[i]? = some us[i]:=by simp [hi]
  exact .rd h (v:=us[i]) (by simp [execOp,Instr.extract,hx,hu]) (hr i _ f hu hf) hn
theorem Vi (h:FR c.N w0 J s a w β) (x:Operand) {id aa o:Nat} (ex:s.ev x=.ptr id aa i o) (hl:s.live id aa):xz c w0 J s a ⟨dst,.nilCheck x,ty,pos,after,g⟩ w (.ptr id aa i o) []:=by
 obtain ⟨_,b,hb,hv⟩:=h.bV ex hl.1 hl.2;refine .pure h (v:=a.eval x) (by simp [execOp,hv]) ?_ (fun aM bI e=>h.cr x (by rw [ex];exact e));have:=h.ev x;rwa [ex] at this
theorem WQ (h:FR c.N w0 J s a w β) (x:Operand) {sz o:Nat} {es:List (List FV)} (ex:s.ev x=.ay sz es i o):xz c w0 J s a ⟨dst,.nilCheck x,ty,pos,after,g⟩ w (.ay sz es i o) []:=by
 obtain ⟨b,off,us,hv,_⟩:=h.dV ex;refine .rd h (v:=a.eval x) (by simp [execOp,hv]) (h.bg ex rfl) rfl
inductive Src (s:ae):FV→Nat→List (List FV)→Prop where
 | nil (sz:Nat):Src s .nil sz []
 | list (sz:Nat) (es:List (List FV)):Src s (.list sz es) sz es
 | own (id aa o n:Nat) (hl:s.live id aa) (bo:(s.ob id).ag.row=true):Src s (.own id aa o n) (s.ob id).sz (((s.ob id).es.drop o).take n)
theorem FR.src (h:FR c.N w0 J s a w β) {f:FV} {sz:Nat} {es:List (List FV)} (ex:s.ev x=f) (hs:Src s f sz es):(∀ e∈es,e.length=sz)∧(∀ f∈es.flatten,f.one=true)∧
  ∃ A cc us,a.eval x=.slice A es.length cc∧es.length≤cc∧aD w (aG J w β s) us es.flatten∧(A=none→us=[]∧es=[])∧(∀ ad,A=some ad→∀ (j:Nat) u,us[j]? = some u→w.cell? (ad.add j)=some u):=by
 cases hs with
 | nil sz => exact ⟨by simp, by simp, none, 0, [], h.cK ex, zi _, aD.nil, fun _ => ⟨rfl, rfl⟩, fun _ e => by cases e⟩
 | list sz es=>
  have hr:=h.bg ex rfl;generalize hx:a.eval x=v at hr;cases hr with
  | list A m cc sz es us hn hc hw ho hA hl km=>
   subst hn;refine ⟨hw,ho,A,cc,us,rfl,hc,⟨hl,km⟩,fun dY=>?_,fun ad nZ j u hu=>?_⟩
   ·have:es.length=0:=by
     rcases WD es.length with h0|h0
     ·exact h0
     ·obtain ⟨b,off,e,_⟩:=hA zc;rw [dY] at e;cases e
    have:es=[]:=Yc this;subst this;exact ⟨by simpa using hl,rfl⟩
   ·have h0:es.length≠0:=fun h0=>by
     have:es=[]:=Yc h0;subst this;have:us=[]:=by simpa using hl
     subst this;simp at hu
    obtain ⟨b,off,e,_,aW⟩:=hA h0;rw [nZ] at e;injection e with e
    subst e;rw [xn];exact aW j u hu
 | own id aa o n hl bo=>
  obtain ⟨A,cc,e1,e2,e3,e4,e5⟩:=(h.bE ex hl.1 hl.2).ex;have hw:=((h.obj id hl.1).bA bo).wide;have bf:=((h.obj id hl.1).bA bo).one;have iR:∀ e∈(s.ob id).es.drop o,e.length=(s.ob id).sz:=fun e he=>hw e (xq he);have hlen:(((s.ob id).es.drop o).take n).length=n:=by simp;omega
  have bY:(((s.ob id).es.drop o).take n).flatten=((s.ob id).es.flatten.drop (o * (s.ob id).sz)).take (n * (s.ob id).sz):=by rw [ZV _ iR,Zj _ hw]
  refine ⟨fun e he=>iR e (xj he),fun f hf=>by rw [bY] at hf;exact bf f (xq (xj hf)),?_⟩;cases hb:β id with
  | none =>
   obtain ⟨rfl,rfl⟩:=e4 hb;obtain rfl:n=0:=by omega
   exact ⟨none,0,[],by simpa using e1,by simp,by simpa using aD.nil,fun _=>⟨rfl,by simp⟩,fun _ e=>by cases e⟩
  | some b=>
   obtain ⟨o',rfl,k2,k3⟩:=e5 b hb;obtain ⟨cur,cap,a9,hn,hm,bj,hr,aw⟩:=h.block hl.1 bo hb;refine ⟨_,cc,((cur.toList.take ((s.ob id).es.length * (s.ob id).sz)).drop (o * (s.ob id).sz)).take (n * (s.ob id).sz),by rw [hlen];exact e1,by omega,by rw [bY];exact (hr.drop _).take _,(fun e=>by cases e),fun ad nZ j u hu=>?_⟩;injection nZ with nZ
   subst nZ;rw [xn,cell_of_row w b _ cur _ (0,0) a9];rw [xg] at hu;split at hu
   ·rename_i hj;have nn:n≠0:=by rintro rfl;simp at hj
    have:=k2 (.inl zc);subst this;rw [xY,xg] at hu;split at hu
    ·simpa using hu
    ·cases hu
   ·cases hu
inductive jq (s:ae):FV→Nat→List (List FV)→Option Nat→Prop where
 | nil (sz:Nat):jq s .nil sz [] none
 | own (id aa:Nat) (hl:(s.ob id).ag=.own) (hv:(s.ob id).aa=aa) (n:Nat) (hn:n=(s.ob id).es.length):jq s (.own id aa 0 n) (s.ob id).sz (s.ob id).es (some id)
def YE (s:ae) (d:Nat) (E sz:Nat) (es:List (List FV)):Option Nat→List (Nat×zL)
 | none => [(d, ⟨(s.ob d).aa+1, .own, E, sz, es⟩)]
 | some i => [(i, { s.ob i with ag := .dead }), (d, ⟨(s.ob d).aa+1, .own, E, sz, es⟩)]
theorem Ug (P:Program) (t ty:TypeId) (v:Value) (cc:Nat) (w:World):(Builtin.append_ #[t,t] ty #[v,.slice none 0 cc]).run P w=(Builtin.append_ #[t,t] ty #[v,.slice none 0 0]).run P w:=rfl
theorem Ur (h:FR c.N w0 J s a w β) (d:Nat) {T e:Nat} (hT:(c.ty T).k=.slice e) (he:(c.ty e).k≠.other) (bC:0<(c.ty e).size) (x y:Operand) {f1 f2:FV} {bN aB:List (List FV)} {i:Option Nat} (ex:s.ev x=f1) (ey:s.ev y=f2)
  (h1:jq s f1 (c.ty e).size bN i) (hE:∀ k,i=some k→(s.ob k).E=e) (h2:Src s f2 (c.ty e).size aB) (hb:(bN.length+aB.length) * (c.ty e).bytes≤140737488355328) (hm:bN.length+aB.length≤140737488355328) :
  xz c w0 J s a ⟨some d,.call { callee:=.builtin .append,args:=#[x,y],argTypes:=#[T,T] },ty,pos,after,g⟩ w (.own d ((s.ob d).aa+1) 0 (bN++aB).length) (YE s d e (c.ty e).size (bN++aB) i):=by
 obtain ⟨dd,ii,z,ht⟩:=c.get hT zg;have hd:=ht.k;rw [hT] at hd;obtain rfl:=yH hd;obtain ⟨d',i',z',cn⟩:=c.get rfl he;have pI:z'.cells.size=(c.ty e).size:=by
  have:=(aD.zeros (w:=w) (I:=aG J w β s) cn.zr).1;rw [cn.zl] at this;simpa using this
 obtain ⟨j3,kG,A2,c2,cX,hy,iK,iv,lT,cM⟩:=h.src ey h2;obtain ⟨v1,fS,A8,jZ,AV,ji,nt,kV⟩:∃ v1 fS,a.eval x=v1∧w.ownsRow w0.heap.size e (c.ty e).size v1 bN.length fS∧aD w (aG J w β s) fS bN.flatten∧(∀ q∈bN,q.length=(c.ty e).size)∧(∀ f∈bN.flatten,f.one=true)∧v1.ownBlock=i.bind β:=by
  generalize aK:(c.ty e).size=sz at h1 ⊢;cases h1 with
  | nil sz => exact ⟨_, [], h.cK ex, WH _ _ _ _, aD.nil, by simp, by simp, rfl⟩
  | own id aa hl hv n hn=>
   have ah:(s.ob id).ag≠.dead:=by rw [hl];decide
   have tA:=hE id rfl;obtain ⟨A,cc,e1,e2,e3,e4,e5⟩:=(h.bE ex ah hv).ex;have bo:(s.ob id).ag.row=true:=by rw [hl];rfl
   obtain ⟨v,us,r1,r2,r3⟩:=((h.obj id ah).bA bo).row;have hw:=((h.obj id ah).bA bo).wide;have bf:=((h.obj id ah).bA bo).one;rw [tA] at r1;refine ⟨v,us,?_,r1,r3,hw,bf,r2⟩;rw [e1];rcases r1.2 with ⟨rfl,h0⟩|⟨b,cap,cur,rfl,_,eb,_,_,bj,_⟩
   ·have ig:β id=none:=by rw [← r2];rfl
    obtain ⟨rfl,rfl⟩:=e4 ig;rw [hn,h0]
   ·have ig:β id=some b:=by rw [← r2];rfl
    obtain ⟨o',rfl,k2,k3⟩:=e5 b ig;have:=k3 cur (by rw [tA];exact eb);rw [bj,yr] at this;have e7:cap=cc:=WA (by rw [aK] at bC;exact bC) this;rw [k2 (.inr rfl),e7,hn];simp
 have AA:∀ k,i=some k→(s.ob k).ag=.own:=by
  intro k hk;generalize (c.ty e).size=sz at h1;cases h1 with
  | nil => cases hk
  | own id aa hl hv n hn => injection hk with hk; subst hk; exact hl
 have jQ:cX.length=aB.length * (c.ty e).size:=by rw [iv.1,xk j3]
 have qz:∀ u∈cX,u.oneCell'=true:=by
  intro u hu;obtain ⟨j,hj,rfl⟩:=yS hu;have fx:j<aB.flatten.length:=by rw [← iv.1];exact hj
  exact (iv.2 j _ aB.flatten[j] (by simp [hj]) zg).ep (kG _ (yR fx))
 obtain ⟨v',w',bx,ct,oo,qX⟩:∃ v' w',(Builtin.append_ #[T,T] ty #[v1,.slice A2 aB.length c2]).run c.P w=.ok v' w'∧w'.ownsRow w0.heap.size e (c.ty e).size v' (bN.length+aB.length) (fS++cX)∧w.grownBy w' v1.ownBlock∧
   (v'.ownBlock=v1.ownBlock∨v'.ownBlock=some w.heap.size):=by
  cases hA:A2 with
  | none =>
   obtain ⟨rfl,rfl⟩:=lT hA;rw [VM,Ug];refine ⟨v1,w,run_append_owned_none (P:=c.P) (w:=w) w0.heap.size T ty e i' (c.ty e).size ht.u cn.info v1 bN.length fS jZ,by simpa using jZ,⟨rfl,rfl,rfl,zi _,fun _ _ _=>rfl⟩,.inl rfl⟩
  | some ad =>
   obtain ⟨v',w',q1,q2,q3,_,q5⟩:=run_append_own_at (P:=c.P) w w0.heap.size T ty e i' z' (c.ty e).size (c.ty e).bytes ht.u cn.info cn.zo cn.size cn.bytes pI bC v1 bN.length fS jZ ad aB.length c2 cX jQ (cM ad hA) qz (by unfold maxLen;omega) hb h.bL.size;exact ⟨v',w',q1,q2,q3,q5⟩
 have gf:(execOp a.eval ⟨some d,.call { callee:=.builtin .append,args:=#[x,y],argTypes:=#[T,T] },ty,pos,after,g⟩).run c.P w=.ok (.value v') w':=by
  simp [execOp,resolve,invoke,builtin,A8,hy,bx]
 rw [← yL] at ct;have nW:FR c.N w0 J (s.wr (YE s d e (c.ty e).size (bN++aB) i)) a w' (Vp β d v'.ownBlock):=by
  refine h.make i d (es:=bN++aB) (fun k hk=>by rw [AA k hk];rfl) (by rw [← kV];exact oo) ?_ ?_ ct ?_ ?_ (fun k=>?_) (fun k=>ae.cG _ _ _)
  ·intro q hq;rcases yT.1 hq with h'|h'
   ·exact ji q h'
   ·exact j3 q h'
  ·intro f hf;rw [Ye] at hf;rcases yT.1 hf with h'|h'
   ·exact nt f h'
   ·exact kG f h'
  ·rw [Ye];exact AV.append iv
  ·rw [← kV];rcases qX with e|e
   ·exact .inl e
   ·exact .inr (.inr ⟨_,e,zi _⟩)
  ·cases i with
   | none =>
    show (ae.set s d _).ob k=_;rw [ae.aq];split
    ·rfl
    ·simp
   | some i=>
    show (ae.set (ae.set s i _) d _).ob k=_;rw [ae.aq,ae.aq];by_cases gC:d=k
    ·rw [if_pos gC,if_pos gC]
    ·rw [if_neg gC,if_neg gC];by_cases jM:i=k
     ·subst jM;simp
     ·rw [if_neg jM,if_neg (by simpa using jM)]
 have cZ:(s.wr (YE s d e (c.ty e).size (bN++aB) i)).ob d=⟨(s.ob d).aa+1,.own,e,(c.ty e).size,bN++aB⟩:=by
  cases i with
  | none => show (ae.set s d _).ob d=_; rw [ae.aq, if_pos rfl]
  | some i => show (ae.set (ae.set s i _) d _).ob d=_; rw [ae.aq, if_pos rfl]
 refine ⟨v',w',_,gf,nW,fun _ _=>?_,fun id aa e=>?_⟩
 ·rw [cZ,Zg];exact Vc.fH ct rfl rfl rfl rfl
 ·simp only [FV.hands,yf,xb] at e;obtain ⟨e1,e2⟩:=e;replace e1:=e1.symm;replace e2:=e2.symm;subst e1;subst e2;rw [cZ];exact zi _
theorem BL (h:FR c.N w0 J s a w β) (d:Nat) {T e:Nat} (hT:(c.ty T).k=.slice e) (he:(c.ty e).k≠.other) (bC:0<(c.ty e).size) (x y:Operand) {f1 f2:FV} {bN aB:List (List FV)} {i:Option Nat} (ex:s.ev x=f1) (ey:s.ev y=f2)
  (h1:jq s f1 (c.ty e).size bN i) (hE:∀ k,i=some k→(s.ob k).E=e) (h2:Src s f2 (c.ty e).size aB) (hb:(bN.length+aB.length) * (c.ty e).bytes≤140737488355328) (hm:bN.length+aB.length≤140737488355328) :
  xz c w0 J s a ⟨some d,.call { callee:=.builtin .append,args:=#[x,y],argTypes:=#[T,T] },ty,pos,after,g⟩ w (.list (c.ty e).size (bN++aB)) (YE s d e (c.ty e).size (bN++aB) i++[(d,⟨(s.ob d).aa+1,.dead,e,(c.ty e).size,bN++aB⟩)]):=by
 obtain ⟨v,w',aE,bx,hF,hV,_⟩:=Ur (ty:=ty) (pos:=pos) (after:=after) (g:=g) h d hT he bC x y ex ey h1 hE h2 hb hm;have cZ:(s.wr (YE s d e (c.ty e).size (bN++aB) i)).ob d=⟨(s.ob d).aa+1,.own,e,(c.ty e).size,bN++aB⟩:=by
  cases i with
  | none => show (ae.set s d _).ob d=_; rw [ae.aq, if_pos rfl]
  | some i => show (ae.set (ae.set s i _) d _).ob d=_; rw [ae.aq, if_pos rfl]
 have Bd:s.wr (YE s d e (c.ty e).size (bN++aB) i++[(d,⟨(s.ob d).aa+1,.dead,e,(c.ty e).size,bN++aB⟩)])=(s.wr (YE s d e (c.ty e).size (bN++aB) i)).set d ⟨(s.ob d).aa+1,.dead,e,(c.ty e).size,bN++aB⟩:=by
  unfold ae.wr;rw [rQ];rfl
 unfold xz;rw [Bd];generalize s.wr (YE s d e (c.ty e).size (bN++aB) i)=s1 at hF hV cZ ⊢;have hl:(s1.ob d).ag≠.dead:=by rw [cZ];exact fun q=>by cases q
 have bo:(s1.ob d).ag.row=true:=by rw [cZ];rfl
 obtain ⟨A,cc,e1,e2,e3,e4,e5⟩:=(hV hl (by rw [cZ])).ex;have Ac:FR c.N w0 J (s1.set d ⟨(s.ob d).aa+1,.dead,e,(c.ty e).size,bN++aB⟩) a w' aE:=
  hF.iy d .dead (fun q=>by cases q) (fun _=>rfl) (fun q=>absurd rfl q) (fun k=>by rw [ae.aq,cZ]) (fun _=>rfl) (fun q=>absurd rfl q)
 have hI:∀ b,aG J w' aE s1 b→aG J w' aE (s1.set d ⟨(s.ob d).aa+1,.dead,e,(c.ty e).size,bN++aB⟩) b∧w'.heap[b]? = w'.heap[b]?:=fun b aJ=>by
  refine ⟨⟨aJ.1,aJ.2.1,fun id hq=>?_⟩,rfl⟩;rw [ae.aq] at hq;split at hq
  ·cases hq
  ·exact aJ.2.2 id hq
 have hw:=((hF.obj d hl).bA bo).wide;have bf:=((hF.obj d hl).bA bo).one;rw [cZ] at hw bf;refine ⟨v,w',aE,bx,Ac,?_,fun _ _ q=>(FV.aT rfl q).elim⟩;refine VR.bt ?_ rfl;rw [e1];cases lZ:aE d with
 | none =>
  obtain ⟨rfl,rfl⟩:=e4 lZ;have nn:(bN++aB).length=0:=by omega
  have jU:bN++aB=[]:=Yc nn;exact Rd.list none _ 0 _ _ [] rfl zc hw bf (fun q=>absurd nn q) (by rw [jU];rfl) (fun j u f hu=>by simp at hu)
 | some b=>
  obtain ⟨cur,cap,a9,hn,ld,bj,hr,aw⟩:=hF.block hl bo lZ;obtain ⟨o',rfl,k2,k3⟩:=e5 b lZ;have eG : o'=0:=by have:=k2 (.inr rfl);rw [ZS] at this;exact this
  subst eG;rw [cZ] at a9 bj hr aw hn;have hlen:(bN++aB).flatten.length=(bN++aB).length * (c.ty e).size:=xk hw;refine Rd.list (some ⟨b,0,none⟩) _ cc _ _ (cur.toList.take ((bN++aB).length * (c.ty e).size)) rfl e2 hw bf (fun _=>⟨b,0,rfl,⟨?_,?_,fun id hq AS=>?_⟩,fun j u hu=>?_⟩) hr.1 (fun j u f hu hf=>(hr.2 j u f hu hf).mono hI)
  ·exact ((hF.obj d hl).lt lZ).2
  ·exact hF.fresh b ((hF.obj d hl).lt lZ).1 (.inr ⟨d,hl,lZ⟩)
  ·rw [ae.aq] at hq;split at hq
   ·cases hq
   ·rename_i bQ;exact bQ (hF.inj d id b hl (xC.aU hq) lZ AS)
  ·rw [cell_of_row w' b _ cur _ (0,0) a9];rw [xg] at hu;split at hu
   ·simpa using hu
   ·cases hu
end
end Go.Proofs.YtedkppfghdipdaaGreatDoor
