/-
  Lemmas, in parts.
-/
import Derived.WalkKit
import Derived.WalkLawsBesides
import Derived.WalkSpells
import Derived.BigQuiet
import Derived.Deep.QuietTactic
import Derived.Handy
import Derived.Lib.Hide
import Derived.Maps.AppendAt
import Derived.StillTailTactics
import Derived.Deep.Draws
import Derived.Laws.OwnMore
import Derived.Maps.OwnSet
import Derived.Laws.MakeOwn
namespace Go.Proofs.YtphidhljdcledaaGreat
set_option linter.unusedVariables false
set_option maxHeartbeats 16000000
open Go.RowKit
abbrev xU:=@Array.ext'
abbrev Xo:=@Array.getD_eq_getD_getElem?
abbrev RV:=@Array.getElem?_append_left
abbrev RW:=@Array.getElem?_eq_none
abbrev YL:=@Array.getElem?_eq_some_iff
abbrev Cb:=@Array.getElem?_modify
abbrev DM:=@Array.getElem?_push
abbrev RJ:=@Array.getElem?_setIfInBounds_ne
abbrev LS:=@Array.length_toList
abbrev RK:=@Array.toList_push
abbrev Lp:=@Below.heap_alloc
abbrev Zc:=@Below.refl
abbrev Lq:=@BitVec.ofInt_natCast
abbrev Lr:=@BitVec.toNat_ofNat
abbrev zx:=@Bool.and_eq_true
abbrev Ls:=@Bool.and_false
abbrev Rk:=@Bool.eq_false_iff
abbrev VM:=@Bool.eq_iff_iff
abbrev Zo:=@Bool.false_and
abbrev Lt:=@Bool.false_eq_true
abbrev ZR:=@Bool.false_or
abbrev HQ:=@Bool.not_eq_true'
abbrev Rl:=@Bool.or_eq_false_iff
abbrev xB:=@Bool.or_eq_true
abbrev yN:=@Bool.true_and
abbrev HR:=@Bool.true_or
abbrev BU:=@Calls.mono
abbrev ZS:=@Classical.byContradiction
abbrev Lf:=@Classical.not_not
abbrev Dx:=@Eq.trans
abbrev Rm:=@Frame.finish_at
abbrev Rn:=@Int.emod_lt_of_pos
abbrev Ro:=@Int.emod_nonneg
abbrev XR:=@Int.le_refl
abbrev Rp:=@Int.tdiv_eq_ediv_of_nonneg
abbrev znU:=@Int.tmod_eq_emod_of_nonneg
abbrev zK:=@Int.toNat_natCast
abbrev xE:=@Int.toNat_of_nonneg
abbrev yd:=@Lib.hid
abbrev Lg:=@List.all_cons
abbrev zL:=@List.all_eq_true
abbrev Dy:=@List.any_append
abbrev Dz:=@List.any_cons
abbrev Yk:=@List.any_eq_true
abbrev yV:=@List.append_assoc
abbrev zT:=@List.append_nil
abbrev HS:=@List.cons_append
abbrev HT:=@List.cons_ne_nil
abbrev Xd:=@List.countP_cons
abbrev BV:=@List.countP_eq_zero
abbrev XS:=@List.countP_le_length
abbrev Rq:=@List.drop_append
abbrev BW:=@List.drop_eq_getElem_cons
abbrev znV:=@List.drop_length_add_append
abbrev VN:=@List.drop_of_length_le
abbrev Rr:=@List.drop_take
abbrev Yl:=@List.drop_zero
abbrev BX:=@List.eq_nil_of_length_eq_zero
abbrev Xt:=@List.eq_of_mem_replicate
abbrev BZ:=@List.ext_getElem
abbrev Lh:=@List.ext_getElem?
abbrev Ym:=@List.filterMap_cons
abbrev ZT:=@List.filter_append
abbrev HU:=@List.filter_cons_of_neg
abbrev HW:=@List.filter_cons_of_pos
abbrev Li:=@List.filter_sublist
abbrev Lj:=@List.find?_cons
abbrev xq:=@List.find?_eq_none
abbrev DC:=@List.find?_eq_some_iff_append
abbrev HX:=@List.find?_range_eq_some
abbrev WF:=@List.find?_some
abbrev B0:=@List.findSome?_eq_none_iff
abbrev DD:=@List.flatMap_append
abbrev WG:=@List.flatMap_cons
abbrev Xe:=@List.flatten_append
abbrev xF:=@List.flatten_cons
abbrev ZU:=@List.foldl_append
abbrev XT:=@List.foldl_cons
abbrev znW:=@List.fst_mem_of_mem_zipIdx
abbrev DE:=@List.getD_cons_succ
abbrev DF:=@List.getD_cons_zero
abbrev yz:=@List.getD_eq_getElem?_getD
abbrev Lk:=@List.getElem?_append
abbrev xO:=@List.getElem?_append_left
abbrev Zd:=@List.getElem?_append_right
abbrev YE:=@List.getElem?_drop
abbrev xz:=@List.getElem?_eq_getElem
abbrev Rs:=@List.getElem?_eq_none
abbrev yq:=@List.getElem?_eq_some_iff
abbrev ye:=@List.getElem?_map
abbrev B4:=@List.getElem?_of_mem
abbrev Ll:=@List.getElem?_range
abbrev WH:=@List.getElem?_set
abbrev Rt:=@List.getElem?_set_ne
abbrev xG:=@List.getElem?_take
abbrev DG:=@List.getElem_append_left
abbrev WI:=@List.getElem_inj
abbrev Xu:=@List.getElem_map
abbrev xH:=@List.getElem_mem
abbrev zU:=@List.getElem_of_mem
abbrev Ql:=@List.getElem_range
abbrev Hx:=@List.getElem_set
abbrev Uj:=@List.getElem_take
abbrev Va:=@List.head?_cons
abbrev zkG:=@List.idxOf_lt_length_of_mem
abbrev zN:=@List.length_append
abbrev yS:=@List.length_cons
abbrev XZ:=@List.length_drop
abbrev Wa:=@List.length_eq_one_iff
abbrev Yt:=@List.length_erase_of_mem
abbrev xV:=@List.length_filter_le
abbrev zj:=@List.length_map
abbrev Hy:=@List.length_mergeSort
abbrev HA:=@List.length_nil
abbrev Uk:=@List.length_pos_iff
abbrev Xp:=@List.length_pos_of_mem
abbrev YN:=@List.length_range
abbrev yT:=@List.length_replicate
abbrev yA:=@List.length_set
abbrev Wb:=@List.length_singleton
abbrev zW:=@List.length_take
abbrev HB:=@List.mapM_cons
abbrev zF:=@List.map_append
abbrev yZ:=@List.map_congr_left
abbrev zZ:=@List.map_cons
abbrev Qm:=@List.map_eq_nil_iff
abbrev xb:=@List.map_map
abbrev Wc:=@List.map_replicate
abbrev xc:=@List.map_set
abbrev zC:=@List.mem_append
abbrev xm:=@List.mem_append_left
abbrev zX:=@List.mem_append_right
abbrev zA:=@List.mem_cons
abbrev xW:=@List.mem_cons_of_mem
abbrev Yu:=@List.mem_cons_self
abbrev zkH:=@List.mem_drop_iff_getElem
abbrev YO:=@List.mem_erase_of_ne
abbrev zY:=@List.mem_filter
abbrev yU:=@List.mem_filterMap
abbrev Vb:=@List.mem_flatMap
abbrev yJ:=@List.mem_flatten
abbrev zi:=@List.mem_map
abbrev YP:=@List.mem_of_find?_eq_some
abbrev zG:=@List.mem_of_getElem?
abbrev Zv:=@List.mem_of_mem_drop
abbrev xn:=@List.mem_of_mem_take
abbrev ZE:=@List.mem_or_eq_of_mem_set
abbrev zn:=@List.mem_range
abbrev zq:=@List.mem_singleton
abbrev P1:=@List.mem_take_iff_getElem
abbrev YQ:=@List.nil_append
abbrev xX:=@List.nodup_append
abbrev yp:=@List.nodup_cons
abbrev Ul:=@List.nodup_nil
abbrev Wd:=@List.nodup_range
abbrev Ky:=@List.not_mem_nil
abbrev Xq:=@List.pairwise_append
abbrev Vc:=@List.pairwise_cons
abbrev P2:=@List.pairwise_iff_forall_sublist
abbrev Zw:=@List.pairwise_iff_getElem
abbrev Kz:=@List.pairwise_lt_range
abbrev Um:=@List.pairwise_map
abbrev yQ:=@List.range_succ
abbrev P3:=@List.replicate_append_replicate
abbrev P4:=@List.set_append_right
abbrev KA:=@List.set_cons_succ
abbrev P5:=@List.set_cons_zero
abbrev zkI:=@List.set_eq_take_append_cons_drop
abbrev Vd:=@List.set_set
abbrev Ve:=@List.size_toArray
abbrev We:=@List.take_append
abbrev YR:=@List.take_append_drop
abbrev YS:=@List.take_append_of_le_length
abbrev P6:=@List.take_left'
abbrev yy:=@List.take_length
abbrev zkJ:=@List.take_length_add_append
abbrev zS:=@List.take_of_length_le
abbrev HC:=@List.take_sublist
abbrev xe:=@List.take_succ_eq_append_getElem
abbrev Wf:=@List.take_take
abbrev P7:=@List.take_zero
abbrev Zx:=@MapKept.run_getObj_map
abbrev Un:=@MapKept.run_setObj_map
abbrev P8:=@Maps.keyOf_int_mk
abbrev KB:=@Nat.add_assoc
abbrev Uo:=@Nat.add_comm
abbrev yu:=@Nat.add_mul
abbrev ZZ:=@Nat.add_zero
abbrev Up:=@Nat.beq_refl
abbrev Uq:=@Nat.ble_eq_true_of_le
abbrev P9:=@Nat.div_add_mod
abbrev ZF:=@Nat.eq_of_beq_eq_true
abbrev HD:=@Nat.eq_of_mul_eq_mul_right
abbrev Vf:=@Nat.eq_or_lt_of_le
abbrev Yv:=@Nat.eq_zero_or_pos
abbrev zO:=@Nat.le_of_ble_eq_true
abbrev Ur:=@Nat.le_of_eq
abbrev KD:=@Nat.le_of_lt
abbrev KE:=@Nat.le_of_not_lt
abbrev zg:=@Nat.le_refl
abbrev Us:=@Nat.le_succ
abbrev yc:=@Nat.le_trans
abbrev KF:=@Nat.lt_irrefl
abbrev xx:=@Nat.lt_of_lt_of_le
abbrev KG:=@Nat.lt_of_not_le
abbrev KH:=@Nat.lt_or_eq_of_le
abbrev yg:=@Nat.lt_or_ge
abbrev HE:=@Nat.lt_or_gt_of_ne
abbrev Wg:=@Nat.lt_succ_iff_lt_or_eq
abbrev Wh:=@Nat.lt_succ_self
abbrev Yw:=@Nat.lt_trichotomy
abbrev Yx:=@Nat.min_eq_left
abbrev KL:=@Nat.min_eq_right
abbrev KM:=@Nat.mod_eq_of_lt
abbrev Xr:=@Nat.mod_lt
abbrev YT:=@Nat.mul_le_mul
abbrev ZG:=@Nat.mul_le_mul_right
abbrev xY:=@Nat.mul_one
abbrev ZH:=@Nat.not_lt_zero
abbrev Ut:=@Nat.one_mul
abbrev Qa:=@Nat.or_lt_two_pow
abbrev Qb:=@Nat.pow_lt_pow_right
abbrev xZ:=@Nat.sub_self
abbrev Wi:=@Nat.succ_mul
abbrev Qc:=@Nat.succ_ne_self
abbrev Uu:=@Nat.testBit_or
abbrev yh:=@Nat.zero_add
abbrev zp:=@Nat.zero_le
abbrev HF:=@Nat.zero_lt_one
abbrev Ya:=@Nat.zero_mul
abbrev KN:=@Option.bind_eq_bind
abbrev Yb:=@Option.bind_some
abbrev Zy:=@Option.getD_some
abbrev HG:=@Option.map_eq_none_iff
abbrev Za:=@Option.map_some
abbrev KO:=@Option.pure_def
abbrev yw:=@Option.some.injEq
abbrev xf:=@Prod.mk.injEq
abbrev Vg:=@Result.andThen_ok
abbrev xy:=@Sem.run_bind
abbrev Xs:=@Sem.run_pure
abbrev Qd:=@World.cell?_setCell_other
abbrev KQ:=@World.grownBy_alloc
abbrev Wj:=@World.ownsRow_nil
abbrev Uv:=@World.size_alloc
variable {B base qY cc ft g j l n off:Nat} {v:Value} {cs us xs:List Value} {a:Act} {w w' w0:World} {α:Type} {I I' : Nat→Prop} {β aJ : Nat→Option Nat} {dst aZ:Option Nat} {b bb:Bool} {d:TypeDesc} {x:Operand} {m:Int} {T2:TypeId} {fs:List (Nat×Nat)} {k2:IntKind} {A:Option Addr}
structure IC (P:Prop):Prop where
 out:P
theorem yW {P Q:Prop} (h:P) (f:IC P→Q:=by intro h;(repeat (first|refine FW.seq ?_|refine FW.region ?_|refine FW.block ?_|refine FW.skip ?_|refine FW.exit ?_|refine zt.nil ?_));exact h.out):Q:=f ⟨h⟩
theorem zb {P Q:Prop} (h:P) (f:IC P→Q:=by intro h;(repeat (first|refine FW.seq ?_|refine FW.region ?_|refine FW.block ?_|refine FW.skip ?_|refine FW.exit ?_|refine FW.EE rfl ?_|refine FW.oE rfl ?_|refine zt.nil ?_|(refine Sv ?_;first|refine zt.ai (zD rfl) rfl rfl ?_|refine zt.ai (yj rfl) rfl rfl ?_|(refine zl8 ?_;first|refine zt.ai (yX rfl rfl rfl (by first|omega|(simp;omega)|(simp;done)) (by first|exact yY (by omega)|rfl) rfl rfl) rfl rfl ?_|refine zt.ai (xC rfl rfl rfl rfl rfl (by first|omega|(simp;omega)|(simp;done)) (by first|exact yY (by omega)|rfl) rfl rfl) rfl rfl ?_|refine zt.ai (PX rfl rfl rfl (by decide) (by first|omega|(simp;omega)|(simp;done)) (by first|exact yY (by omega)|rfl) rfl) rfl rfl ?_|refine zt.ai (K7 rfl rfl rfl (by decide) rfl rfl (by first|omega|(simp;omega)|(simp;done)) (by first|exact yY (by omega)|rfl) rfl) rfl rfl ?_|refine zt.ai (Zz rfl rfl rfl rfl rfl) rfl rfl ?_)|(refine zqA ?_;first|refine zt.dN (zk6 rfl rfl rfl rfl rfl rfl rfl rfl) rfl ?_|refine zt.dN (PA rfl rfl rfl rfl rfl rfl rfl rfl) rfl ?_|refine zt.dN (Vn rfl rfl rfl rfl rfl rfl (by first|omega|(simp;omega)|(simp;done)) (by first|exact yY (by omega)|rfl) rfl rfl) rfl ?_|refine zt.dN (WR rfl rfl rfl rfl rfl rfl (by decide) (by first|omega|(simp;omega)|(simp;done))) rfl ?_|refine zt.dN (zim rfl rfl rfl rfl rfl rfl (by decide) (by first|omega|(simp;omega)|(simp;done))) rfl ?_|refine zt.dN (zpC rfl rfl rfl rfl rfl rfl (by decide) (by first|omega|(simp;omega)|(simp;done))) rfl ?_)|(refine ziX ?_;first|refine zt.ai (Xw rfl rfl rfl rfl rfl) rfl rfl ?_|refine zt.ai (Zl rfl rfl rfl rfl rfl rfl (by decide)) rfl rfl ?_)|(refine ziY ?_;first|refine zt.ai (Yc rfl rfl (by first|rfl|exact (xE (by omega)).symm) rfl rfl rfl (by first|omega|(simp;omega)|(simp;done))) rfl rfl ?_|refine zt.ai (yL rfl rfl (by first|rfl|exact (xE (by omega)).symm) rfl rfl rfl (by decide) rfl (by first|omega|(simp;omega)|(simp;done))) rfl rfl ?_|refine zt.ai (Yf rfl rfl (by first|rfl|exact (xE (by omega)).symm) rfl rfl rfl rfl (by decide) (by first|omega|(simp;omega)|(simp;done))) rfl rfl ?_)|(refine zl9 ?_;first|refine zt.ai (H5 rfl rfl) rfl rfl ?_|refine zt.ai (H4 rfl rfl) rfl rfl ?_)|(refine RC ?_;first|refine zt.ai (Is rfl rfl) rfl rfl ?_|refine zt.ai (zrB rfl rfl rfl) rfl rfl ?_|refine zt.ai (Iu rfl rfl) rfl rfl ?_|refine zt.ai (zk3 rfl rfl rfl) rfl rfl ?_|refine zt.ai (It rfl rfl) rfl rfl ?_|refine zt.ai (zw6 rfl rfl) rfl rfl ?_|refine zt.ai (L9 rfl rfl) rfl rfl ?_|refine zt.ai (Sd rfl rfl) rfl rfl ?_|refine zt.ai (tI rfl rfl (by omega)) rfl rfl ?_|refine zt.ai (Iv rfl rfl (by omega)) rfl rfl ?_|refine zt.ai (zw9 rfl rfl (by omega)) rfl rfl ?_|refine zt.ai (Sf rfl rfl (by omega)) rfl rfl ?_)|refine zt.cL (PK rfl) rfl rfl ?_|refine zt.cL (Lv rfl rfl rfl rfl rfl) rfl rfl ?_|refine zt.cL (zry rfl rfl rfl rfl rfl) rfl rfl ?_|refine LY rfl rfl rfl rfl rfl ?_|refine zl6 rfl rfl rfl rfl ?_|refine zt.ai (zij rfl rfl rfl rfl rfl rfl rfl) rfl rfl ?_|refine zt.cL (zpy rfl rfl rfl rfl) rfl rfl ?_|refine zt.cL (Ye rfl rfl rfl rfl rfl rfl) rfl rfl ?_|refine zt.cL (Y5 rfl rfl rfl rfl rfl rfl rfl rfl) rfl rfl ?_|refine zt.cL (LP rfl (by first|rfl|exact (xE (by omega)).symm) rfl (by first|rfl|exact (xE (by omega)).symm) rfl rfl rfl rfl (by first|omega|(simp;omega)|(simp;done)) (by first|omega|(simp;omega)|(simp;done)) rfl) rfl rfl ?_|refine zt.ai (zk5 rfl rfl rfl rfl (by decide) rfl (by first|exact qo.none|exact qo.some rfl|exact qo.lit rfl (by first|rfl|exact (xE (by omega)).symm)) (by first|exact ql.none|exact ql.some rfl|exact ql.lit rfl (by first|rfl|exact (xE (by omega)).symm)) (by first|omega|(simp;omega)|(simp;done)) (by first|omega|(simp;omega)|(simp;done))) rfl rfl ?_|refine zt.ai (Kt rfl rfl rfl) rfl rfl ?_|refine zt.ai (zui rfl rfl rfl (by first|omega|(simp;done)|(simp;omega))) rfl rfl ?_|refine zt.ai (zuh rfl rfl rfl (by omega)) rfl rfl ?_|refine zt.ai (zod rfl rfl) rfl rfl ?_|refine zt.ai (zik rfl rfl) rfl rfl ?_|refine zt.ai (zpz rfl rfl rfl rfl rfl rfl) rfl rfl ?_|refine zt.ai (zpA rfl rfl) rfl rfl ?_|refine zt.ai (zug rfl rfl) rfl rfl ?_|refine zt.ai (DK rfl rfl (by decide)) rfl rfl ?_|refine zt.ai (wY rfl) rfl rfl ?_|refine zt.ai (zpB rfl rfl rfl (by kernel_rfl)) rfl rfl ?_|refine zt.ai (zmZ rfl rfl (by kernel_rfl)) rfl rfl ?_|refine zt.ai (zin rfl rfl rfl (by kernel_rfl)) rfl rfl ?_|refine zt.cL (zrz rfl rfl rfl rfl rfl (by first|exact WE.own rfl rfl (by decide) (by first|exact zj _|exact (zj _).symm|exact yT|rfl|(simp;done)|omega|(simp;omega))|exact WE.list rfl|exact WE.nil rfl|exact WE.part rfl rfl (by decide))) rfl rfl ?_|refine zt.cL (zrx rfl rfl rfl rfl (by decide) (by first|exact WE.own rfl rfl (by decide) (by first|exact zj _|exact (zj _).symm|exact yT|rfl|(simp;done)|omega|(simp;omega))|exact WE.list rfl|exact WE.nil rfl|exact WE.part rfl rfl (by decide)) (by first|omega|(simp;omega)|(simp;done)) (by first|omega|(simp;omega)|(simp;done)) rfl) rfl rfl ?_|refine zs8 rfl rfl (by first|exact zj _|exact (zj _).symm|exact yT|rfl|(simp;done)|omega|(simp;omega)) rfl rfl rfl (by decide) (by first|exact WE.own rfl rfl (by decide) (by first|exact zj _|exact (zj _).symm|exact yT|rfl|(simp;done)|omega|(simp;omega))|exact WE.list rfl|exact WE.nil rfl|exact WE.part rfl rfl (by decide)) (by first|omega|(simp;omega)|(simp;done)) (by first|omega|(simp;omega)|(simp;done)) rfl rfl rfl ?_|refine zt.ai (Kw rfl rfl rfl (by decide)) rfl rfl ?_|refine zt.ai (XJ rfl rfl (by first|exact zj _|exact (zj _).symm|exact yT|rfl|(simp;done)|omega|(simp;omega))) rfl rfl ?_|refine zt.ai (zrD rfl rfl) rfl rfl ?_|refine zt.ai (zw8 rfl rfl) rfl rfl ?_|refine zt.ai (Ma rfl) rfl rfl ?_)|(refine zx1 ?_;first|refine zt.ai (zD rfl) rfl ⟨_,_,rfl,rfl,rfl⟩ ?_|(refine zl8 ?_;first|refine zt.ai (yX rfl rfl rfl (by first|omega|(simp;omega)|(simp;done)) (by first|exact yY (by omega)|rfl) rfl rfl) rfl ⟨_,_,rfl,rfl,rfl⟩ ?_|refine zt.ai (xC rfl rfl rfl rfl rfl (by first|omega|(simp;omega)|(simp;done)) (by first|exact yY (by omega)|rfl) rfl rfl) rfl ⟨_,_,rfl,rfl,rfl⟩ ?_|refine zt.ai (K7 rfl rfl rfl (by decide) rfl rfl (by first|omega|(simp;omega)|(simp;done)) (by first|exact yY (by omega)|rfl) rfl) rfl ⟨_,_,rfl,rfl,rfl⟩ ?_)|(refine ziX ?_;first|refine zt.ai (Xw rfl rfl rfl rfl rfl) rfl ⟨_,_,rfl,rfl,rfl⟩ ?_|refine zt.ai (Zl rfl rfl rfl rfl rfl rfl (by decide)) rfl ⟨_,_,rfl,rfl,rfl⟩ ?_)|(refine ziY ?_;first|refine zt.ai (Yc rfl rfl (by first|rfl|exact (xE (by omega)).symm) rfl rfl rfl (by first|omega|(simp;omega)|(simp;done))) rfl ⟨_,_,rfl,rfl,rfl⟩ ?_|refine zt.ai (yL rfl rfl (by first|rfl|exact (xE (by omega)).symm) rfl rfl rfl (by decide) rfl (by first|omega|(simp;omega)|(simp;done))) rfl ⟨_,_,rfl,rfl,rfl⟩ ?_|refine zt.ai (Yf rfl rfl (by first|rfl|exact (xE (by omega)).symm) rfl rfl rfl rfl (by decide) (by first|omega|(simp;omega)|(simp;done))) rfl ⟨_,_,rfl,rfl,rfl⟩ ?_)|(refine zl9 ?_;first|refine zt.ai (H5 rfl rfl) rfl ⟨_,_,rfl,rfl,rfl⟩ ?_|refine zt.ai (H4 rfl rfl) rfl ⟨_,_,rfl,rfl,rfl⟩ ?_)|(refine RC ?_;first|refine zt.ai (Is rfl rfl) rfl ⟨_,_,rfl,rfl,rfl⟩ ?_|refine zt.ai (Iu rfl rfl) rfl ⟨_,_,rfl,rfl,rfl⟩ ?_|refine zt.ai (zvV rfl rfl rfl) rfl ⟨_,_,rfl,rfl,rfl⟩ ?_|refine zt.ai (zk3 rfl rfl rfl) rfl ⟨_,_,rfl,rfl,rfl⟩ ?_|refine zt.ai (zrE rfl rfl rfl rfl (by decide) (by first|omega|(simp;omega)|(simp;done))) rfl ⟨_,_,rfl,rfl,rfl⟩ ?_|refine zt.ai (It rfl rfl) rfl ⟨_,_,rfl,rfl,rfl⟩ ?_|refine zt.ai (L9 rfl rfl) rfl ⟨_,_,rfl,rfl,rfl⟩ ?_|refine zt.ai (Sd rfl rfl) rfl ⟨_,_,rfl,rfl,rfl⟩ ?_|refine zt.ai (tI rfl rfl (by omega)) rfl ⟨_,_,rfl,rfl,rfl⟩ ?_|refine zt.ai (Iv rfl rfl (by omega)) rfl ⟨_,_,rfl,rfl,rfl⟩ ?_)|refine zt.ai (DK rfl rfl (by decide)) rfl ⟨_,_,rfl,rfl,rfl⟩ ?_|refine zt.ai (wY rfl) rfl ⟨_,_,rfl,rfl,rfl⟩ ?_|refine zt.ai (Kw rfl rfl rfl (by decide)) rfl ⟨_,_,rfl,rfl,rfl⟩ ?_|refine zt.ai (XJ rfl rfl (by first|exact zj _|exact (zj _).symm|exact yT|rfl|(simp;done)|omega|(simp;omega))) rfl ⟨_,_,rfl,rfl,rfl⟩ ?_|refine zt.ai (zw7 rfl rfl) rfl ⟨_,_,rfl,rfl,rfl⟩ ?_|refine zt.ai (Ma rfl) rfl ⟨_,_,rfl,rfl,rfl⟩ ?_|refine ztf rfl rfl ⟨_,_,rfl,rfl,rfl⟩ ?_)|refine VI.nil ?_|refine VI.one rfl rfl rfl rfl rfl ?_|refine VI.agg rfl rfl rfl rfl (HT _ _) rfl ?_));exact h.out):Q:=f ⟨h⟩
theorem Zf {P Q:Prop} (h:P) (f:IC P→Q:=by intro h;(repeat (first|refine FW.seq ?_|refine FW.region ?_|refine FW.block ?_|refine FW.skip ?_|refine zt.nil ?_|(refine Sv ?_;first|refine zt.ai (zD rfl) rfl rfl ?_|refine zt.ai (yj rfl) rfl rfl ?_|refine zt.cL (Lv rfl rfl rfl rfl rfl) rfl rfl ?_|refine zt.ai (Kt rfl rfl rfl) rfl rfl ?_)|refine VI.nil ?_|refine VI.one rfl rfl rfl rfl rfl ?_|refine FW.draw ?_|refine zR.nil ?_|(refine zxu ?_;first|refine zR.ai (zD rfl) rfl rfl ?_|refine zR.ai (yj rfl) rfl rfl ?_|(refine KV ?_;first|refine zR.ai (yX rfl rfl rfl (by first|omega|(simp;omega)|(simp;done)) (by first|exact yY (by omega)|rfl) rfl rfl) rfl rfl ?_|refine zR.ai (xC rfl rfl rfl rfl rfl (by first|omega|(simp;omega)|(simp;done)) (by first|exact yY (by omega)|rfl) rfl rfl) rfl rfl ?_|refine zR.ai (PX rfl rfl rfl (by decide) (by first|omega|(simp;omega)|(simp;done)) (by first|exact yY (by omega)|rfl) rfl) rfl rfl ?_|refine zR.ai (Zz rfl rfl rfl rfl rfl) rfl rfl ?_)|(refine ziT ?_;first|refine zR.dN (Vn rfl rfl rfl rfl rfl rfl (by first|omega|(simp;omega)|(simp;done)) (by first|exact yY (by omega)|rfl) rfl rfl) rfl ?_|refine zR.dN (WR rfl rfl rfl rfl rfl rfl (by decide) (by first|omega|(simp;omega)|(simp;done))) rfl ?_)|(refine Kj ?_;first|refine zR.ai (Xw rfl rfl rfl rfl rfl) rfl rfl ?_|refine zR.ai (Zl rfl rfl rfl rfl rfl rfl (by decide)) rfl rfl ?_)|(refine ziS ?_;first|refine zR.ai (Yc rfl rfl (by first|rfl|exact (xE (by omega)).symm) rfl rfl rfl (by first|omega|(simp;omega)|(simp;done))) rfl rfl ?_|refine zR.ai (yL rfl rfl (by first|rfl|exact (xE (by omega)).symm) rfl rfl rfl (by decide) rfl (by first|omega|(simp;omega)|(simp;done))) rfl rfl ?_|refine zR.ai (Yf rfl rfl (by first|rfl|exact (xE (by omega)).symm) rfl rfl rfl rfl (by decide) (by first|omega|(simp;omega)|(simp;done))) rfl rfl ?_)|(refine zlX ?_;first|refine zR.ai (H5 rfl rfl) rfl rfl ?_|refine zR.ai (H4 rfl rfl) rfl rfl ?_)|(refine LB ?_;first|refine zR.ai (Iu rfl rfl) rfl rfl ?_|refine zR.ai (It rfl rfl) rfl rfl ?_|refine zR.ai (L9 rfl rfl) rfl rfl ?_|refine zR.ai (Iv rfl rfl (by omega)) rfl rfl ?_)|refine Qz rfl rfl rfl rfl ?_|refine zR.cL (Ye rfl rfl rfl rfl rfl rfl) rfl rfl ?_|refine zR.ai (zk5 rfl rfl rfl rfl (by decide) rfl (by first|exact qo.none|exact qo.some rfl|exact qo.lit rfl (by first|rfl|exact (xE (by omega)).symm)) (by first|exact ql.none|exact ql.some rfl|exact ql.lit rfl (by first|rfl|exact (xE (by omega)).symm)) (by first|omega|(simp;omega)|(simp;done)) (by first|omega|(simp;omega)|(simp;done))) rfl rfl ?_|refine zR.ai (DK rfl rfl (by decide)) rfl rfl ?_|refine zR.ai (wY rfl) rfl rfl ?_|refine zR.ai (zin rfl rfl rfl (by kernel_rfl)) rfl rfl ?_|refine zR.cL (zrz rfl rfl rfl rfl rfl (by first|exact WE.own rfl rfl (by decide) (by first|exact zj _|exact (zj _).symm|exact yT|rfl|(simp;done)|omega|(simp;omega))|exact WE.list rfl|exact WE.nil rfl|exact WE.part rfl rfl (by decide))) rfl rfl ?_|refine LX rfl rfl (by first|exact zj _|exact (zj _).symm|exact yT|rfl|(simp;done)|omega|(simp;omega)) rfl rfl rfl (by decide) (by first|exact WE.own rfl rfl (by decide) (by first|exact zj _|exact (zj _).symm|exact yT|rfl|(simp;done)|omega|(simp;omega))|exact WE.list rfl|exact WE.nil rfl|exact WE.part rfl rfl (by decide)) (by first|omega|(simp;omega)|(simp;done)) (by first|omega|(simp;omega)|(simp;done)) rfl rfl rfl ?_|refine zR.ai (Kw rfl rfl rfl (by decide)) rfl rfl ?_|refine zR.ai (XJ rfl rfl (by first|exact zj _|exact (zj _).symm|exact yT|rfl|(simp;done)|omega|(simp;omega))) rfl rfl ?_|refine zR.ai (Ma rfl) rfl rfl ?_)|(refine zxv ?_;first|refine zR.ai (zD rfl) rfl ⟨_,_,rfl,rfl,rfl⟩ ?_|(refine KV ?_;first|refine zR.ai (yX rfl rfl rfl (by first|omega|(simp;omega)|(simp;done)) (by first|exact yY (by omega)|rfl) rfl rfl) rfl ⟨_,_,rfl,rfl,rfl⟩ ?_|refine zR.ai (xC rfl rfl rfl rfl rfl (by first|omega|(simp;omega)|(simp;done)) (by first|exact yY (by omega)|rfl) rfl rfl) rfl ⟨_,_,rfl,rfl,rfl⟩ ?_)|(refine Kj ?_;first|refine zR.ai (Xw rfl rfl rfl rfl rfl) rfl ⟨_,_,rfl,rfl,rfl⟩ ?_|refine zR.ai (Zl rfl rfl rfl rfl rfl rfl (by decide)) rfl ⟨_,_,rfl,rfl,rfl⟩ ?_)|refine zR.ai (Yc rfl rfl (by first|rfl|exact (xE (by omega)).symm) rfl rfl rfl (by first|omega|(simp;omega)|(simp;done))) rfl ⟨_,_,rfl,rfl,rfl⟩ ?_|(refine LB ?_;first|refine zR.ai (Is rfl rfl) rfl ⟨_,_,rfl,rfl,rfl⟩ ?_|refine zR.ai (Iu rfl rfl) rfl ⟨_,_,rfl,rfl,rfl⟩ ?_)|refine zR.ai (wY rfl) rfl ⟨_,_,rfl,rfl,rfl⟩ ?_|refine zsY rfl rfl ⟨_,_,rfl,rfl,rfl⟩ ?_)));exact h.out):Q:=f ⟨h⟩
theorem yH {P Q:Prop} (h:P) (f:IC P→Q:=by intro h;(repeat (first|refine VI.nil ?_|refine VI.one rfl rfl rfl rfl rfl ?_|refine VI.agg rfl rfl rfl rfl (HT _ _) rfl ?_|refine zR.nil ?_|(refine zxu ?_;first|refine zR.ai (zD rfl) rfl rfl ?_|refine zR.ai (yj rfl) rfl rfl ?_|(refine KV ?_;first|refine zR.ai (yX rfl rfl rfl (by first|omega|(simp;omega)|(simp;done)) (by first|exact yY (by omega)|rfl) rfl rfl) rfl rfl ?_|refine zR.ai (xC rfl rfl rfl rfl rfl (by first|omega|(simp;omega)|(simp;done)) (by first|exact yY (by omega)|rfl) rfl rfl) rfl rfl ?_|refine zR.ai (PX rfl rfl rfl (by decide) (by first|omega|(simp;omega)|(simp;done)) (by first|exact yY (by omega)|rfl) rfl) rfl rfl ?_|refine zR.ai (K7 rfl rfl rfl (by decide) rfl rfl (by first|omega|(simp;omega)|(simp;done)) (by first|exact yY (by omega)|rfl) rfl) rfl rfl ?_)|(refine ziT ?_;first|refine zR.dN (PA rfl rfl rfl rfl rfl rfl rfl rfl) rfl ?_|refine zR.dN (Vn rfl rfl rfl rfl rfl rfl (by first|omega|(simp;omega)|(simp;done)) (by first|exact yY (by omega)|rfl) rfl rfl) rfl ?_)|(refine Kj ?_;first|refine zR.ai (Xw rfl rfl rfl rfl rfl) rfl rfl ?_|refine zR.ai (Zl rfl rfl rfl rfl rfl rfl (by decide)) rfl rfl ?_)|(refine ziS ?_;first|refine zR.ai (Yc rfl rfl (by first|rfl|exact (xE (by omega)).symm) rfl rfl rfl (by first|omega|(simp;omega)|(simp;done))) rfl rfl ?_|refine zR.ai (yL rfl rfl (by first|rfl|exact (xE (by omega)).symm) rfl rfl rfl (by decide) rfl (by first|omega|(simp;omega)|(simp;done))) rfl rfl ?_|refine zR.ai (Yf rfl rfl (by first|rfl|exact (xE (by omega)).symm) rfl rfl rfl rfl (by decide) (by first|omega|(simp;omega)|(simp;done))) rfl rfl ?_)|(refine zlX ?_;first|refine zR.ai (H5 rfl rfl) rfl rfl ?_|refine zR.ai (H4 rfl rfl) rfl rfl ?_)|(refine LB ?_;first|refine zR.ai (Is rfl rfl) rfl rfl ?_|refine zR.ai (L9 rfl rfl) rfl rfl ?_)|refine Qz rfl rfl rfl rfl ?_|refine zR.ai (zij rfl rfl rfl rfl rfl rfl rfl) rfl rfl ?_|refine zR.cL (Ye rfl rfl rfl rfl rfl rfl) rfl rfl ?_|refine zR.cL (Y5 rfl rfl rfl rfl rfl rfl rfl rfl) rfl rfl ?_|refine zR.ai (Kt rfl rfl rfl) rfl rfl ?_|refine zR.ai (wY rfl) rfl rfl ?_|refine zR.cL (zrx rfl rfl rfl rfl (by decide) (by first|exact WE.own rfl rfl (by decide) (by first|exact zj _|exact (zj _).symm|exact yT|rfl|(simp;done)|omega|(simp;omega))|exact WE.list rfl|exact WE.nil rfl|exact WE.part rfl rfl (by decide)) (by first|omega|(simp;omega)|(simp;done)) (by first|omega|(simp;omega)|(simp;done)) rfl) rfl rfl ?_|refine LX rfl rfl (by first|exact zj _|exact (zj _).symm|exact yT|rfl|(simp;done)|omega|(simp;omega)) rfl rfl rfl (by decide) (by first|exact WE.own rfl rfl (by decide) (by first|exact zj _|exact (zj _).symm|exact yT|rfl|(simp;done)|omega|(simp;omega))|exact WE.list rfl|exact WE.nil rfl|exact WE.part rfl rfl (by decide)) (by first|omega|(simp;omega)|(simp;done)) (by first|omega|(simp;omega)|(simp;done)) rfl rfl rfl ?_|refine zR.ai (XJ rfl rfl (by first|exact zj _|exact (zj _).symm|exact yT|rfl|(simp;done)|omega|(simp;omega))) rfl rfl ?_)|(refine zxv ?_;first|refine zR.ai (zD rfl) rfl ⟨_,_,rfl,rfl,rfl⟩ ?_|(refine KV ?_;first|refine zR.ai (yX rfl rfl rfl (by first|omega|(simp;omega)|(simp;done)) (by first|exact yY (by omega)|rfl) rfl rfl) rfl ⟨_,_,rfl,rfl,rfl⟩ ?_|refine zR.ai (xC rfl rfl rfl rfl rfl (by first|omega|(simp;omega)|(simp;done)) (by first|exact yY (by omega)|rfl) rfl rfl) rfl ⟨_,_,rfl,rfl,rfl⟩ ?_|refine zR.ai (K7 rfl rfl rfl (by decide) rfl rfl (by first|omega|(simp;omega)|(simp;done)) (by first|exact yY (by omega)|rfl) rfl) rfl ⟨_,_,rfl,rfl,rfl⟩ ?_)|(refine Kj ?_;first|refine zR.ai (Xw rfl rfl rfl rfl rfl) rfl ⟨_,_,rfl,rfl,rfl⟩ ?_|refine zR.ai (Zl rfl rfl rfl rfl rfl rfl (by decide)) rfl ⟨_,_,rfl,rfl,rfl⟩ ?_)|refine zR.ai (Yc rfl rfl (by first|rfl|exact (xE (by omega)).symm) rfl rfl rfl (by first|omega|(simp;omega)|(simp;done))) rfl ⟨_,_,rfl,rfl,rfl⟩ ?_|(refine LB ?_;first|refine zR.ai (Is rfl rfl) rfl ⟨_,_,rfl,rfl,rfl⟩ ?_|refine zR.ai (Iu rfl rfl) rfl ⟨_,_,rfl,rfl,rfl⟩ ?_|refine zR.ai (It rfl rfl) rfl ⟨_,_,rfl,rfl,rfl⟩ ?_)|refine Qz rfl rfl rfl ⟨_,_,rfl,rfl,rfl⟩ ?_|refine zR.ai (wY rfl) rfl ⟨_,_,rfl,rfl,rfl⟩ ?_|refine zsY rfl rfl ⟨_,_,rfl,rfl,rfl⟩ ?_)));exact h.out):Q:=f ⟨h⟩
theorem Ua {P Q:Prop} (h:P) (f:IC P→Q:=by intro h;(repeat (first|refine zt.nil ?_|(refine Sv ?_;first|refine zt.ai (zD rfl) rfl rfl ?_|refine zt.ai (yj rfl) rfl rfl ?_|refine zt.ai (yX rfl rfl rfl (by first|omega|(simp;omega)|(simp;done)) (by first|exact yY (by omega)|rfl) rfl rfl) rfl rfl ?_|refine zt.dN (PA rfl rfl rfl rfl rfl rfl rfl rfl) rfl ?_|refine zt.ai (Yc rfl rfl (by first|rfl|exact (xE (by omega)).symm) rfl rfl rfl (by first|omega|(simp;omega)|(simp;done))) rfl rfl ?_|(refine RC ?_;first|refine zt.ai (It rfl rfl) rfl rfl ?_|refine zt.ai (Sd rfl rfl) rfl rfl ?_|refine zt.ai (Iv rfl rfl (by omega)) rfl rfl ?_)|refine zt.cL (Lv rfl rfl rfl rfl rfl) rfl rfl ?_|refine zt.ai (Kt rfl rfl rfl) rfl rfl ?_|refine zt.ai (XJ rfl rfl (by first|exact zj _|exact (zj _).symm|exact yT|rfl|(simp;done)|omega|(simp;omega))) rfl rfl ?_|refine zt.ai (Ma rfl) rfl rfl ?_)));exact h.out):Q:=f ⟨h⟩
theorem zt1 {P:Prop} (h:P:=by repeat (first|exact Ys.nil|refine Ys.cons (.plain rfl rfl) ?_|refine Ys.cons (.ptr (.head _) rfl) ?_|refine Ys.cons (.own (.head _) rfl rfl rfl) ?_|refine Ys.cons (.omap (.head _) rfl) ?_|refine Ys.cons (.ptr (.tail _ (.head _)) rfl) ?_|refine Ys.cons (.own (.tail _ (.head _)) rfl rfl rfl) ?_|refine Ys.cons (.omap (.tail _ (.head _)) rfl) ?_|refine Ys.cons (.ptr (.tail _ (.tail _ (.head _))) rfl) ?_|refine Ys.cons (.own (.tail _ (.tail _ (.head _))) rfl rfl rfl) ?_|refine Ys.cons (.omap (.tail _ (.tail _ (.head _))) rfl) ?_|refine Ys.cons (.ptr (.tail _ (.tail _ (.tail _ (.head _)))) rfl) ?_|refine Ys.cons (.own (.tail _ (.tail _ (.tail _ (.head _)))) rfl rfl rfl) ?_|refine Ys.cons (.omap (.tail _ (.tail _ (.tail _ (.head _)))) rfl) ?_|refine Ys.cons (.ptr (.tail _ (.tail _ (.tail _ (.tail _ (.head _))))) rfl) ?_|refine Ys.cons (.own (.tail _ (.tail _ (.tail _ (.tail _ (.head _))))) rfl rfl rfl) ?_|refine Ys.cons (.omap (.tail _ (.tail _ (.tail _ (.tail _ (.head _))))) rfl) ?_)):P:=h
theorem zt0 {P:Prop} (h:P:=by repeat (first|exact Ys.nil|refine Ys.cons (.plain rfl rfl) ?_|refine Ys.cons (.nil (.head _) rfl) ?_|refine Ys.cons (.own (.tail _ (.head _)) rfl (by first|rfl|(simp;done)|(congr 1;omega)|(simp;omega)|(simp [zS];done)|(refine congrArg (FV.int .i64) ?_;omega)) (by first|rfl|(simp;done)|(congr 1;omega)|(simp;omega)|(simp [zS];done)|(refine congrArg (FV.int .i64) ?_;omega))) ?_|refine Ys.cons (.nil (.tail _ (.head _)) rfl) ?_|refine Ys.cons (.own (.tail _ (.tail _ (.head _))) rfl (by first|rfl|(simp;done)|(congr 1;omega)|(simp;omega)|(simp [zS];done)|(refine congrArg (FV.int .i64) ?_;omega)) (by first|rfl|(simp;done)|(congr 1;omega)|(simp;omega)|(simp [zS];done)|(refine congrArg (FV.int .i64) ?_;omega))) ?_|refine Ys.cons (.nil (.tail _ (.tail _ (.head _))) rfl) ?_|refine Ys.cons (.omap (.tail _ (.tail _ (.head _))) rfl) ?_|refine Ys.cons (.own (.tail _ (.tail _ (.tail _ (.head _)))) rfl (by first|rfl|(simp;done)|(congr 1;omega)|(simp;omega)|(simp [zS];done)|(refine congrArg (FV.int .i64) ?_;omega)) (by first|rfl|(simp;done)|(congr 1;omega)|(simp;omega)|(simp [zS];done)|(refine congrArg (FV.int .i64) ?_;omega))) ?_)):P:=h
theorem zvI {P:Prop} (h:P:=by repeat (first|exact .nil|refine .cons (.nil (.head _) rfl) ?_|refine .cons (.own (.tail _ (.head _)) rfl (by first|rfl|(simp;done)|(congr 1;omega)|(simp;omega)|(simp [zS];done)|(refine congrArg (FV.int .i64) ?_;omega)) (by first|rfl|(simp;done)|(congr 1;omega)|(simp;omega)|(simp [zS];done)|(refine congrArg (FV.int .i64) ?_;omega))) ?_|refine .cons (.own (.tail _ (.tail _ (.head _))) rfl (by first|rfl|(simp;done)|(congr 1;omega)|(simp;omega)|(simp [zS];done)|(refine congrArg (FV.int .i64) ?_;omega)) (by first|rfl|(simp;done)|(congr 1;omega)|(simp;omega)|(simp [zS];done)|(refine congrArg (FV.int .i64) ?_;omega))) ?_|refine .cons (.ptr (.tail _ (.tail _ (.head _))) rfl) ?_|refine .cons (.own (.tail _ (.tail _ (.tail _ (.head _)))) rfl (by first|rfl|(simp;done)|(congr 1;omega)|(simp;omega)|(simp [zS];done)|(refine congrArg (FV.int .i64) ?_;omega)) (by first|rfl|(simp;done)|(congr 1;omega)|(simp;omega)|(simp [zS];done)|(refine congrArg (FV.int .i64) ?_;omega))) ?_|refine .cons (.ptr (.tail _ (.tail _ (.tail _ (.head _)))) rfl) ?_|refine .cons (.own (.tail _ (.tail _ (.tail _ (.tail _ (.head _))))) rfl (by first|rfl|(simp;done)|(congr 1;omega)|(simp;omega)|(simp [zS];done)|(refine congrArg (FV.int .i64) ?_;omega)) (by first|rfl|(simp;done)|(congr 1;omega)|(simp;omega)|(simp [zS];done)|(refine congrArg (FV.int .i64) ?_;omega))) ?_)):P:=h
theorem zf {P:Prop} (h:P:=by repeat (first|exact .nil|refine .cons (.plain rfl rfl (by first|rfl|(simp;done)|(congr 1;omega)|(simp;omega)|(simp [zS];done)|(refine congrArg (FV.int .i64) ?_;omega))) ?_|refine .cons (.own rfl (.head _) rfl (by first|rfl|(simp;done)|(congr 1;omega)|(simp;omega)|(simp [zS];done)|(refine congrArg (FV.int .i64) ?_;omega))) ?_|refine .cons (.nil rfl (.head _) rfl) ?_|refine .cons (.ptr rfl (.head _) rfl) ?_|refine .cons (.omap rfl (.head _) rfl) ?_|refine .cons (.own rfl (.tail _ (.head _)) rfl (by first|rfl|(simp;done)|(congr 1;omega)|(simp;omega)|(simp [zS];done)|(refine congrArg (FV.int .i64) ?_;omega))) ?_|refine .cons (.nil rfl (.tail _ (.head _)) rfl) ?_|refine .cons (.ptr rfl (.tail _ (.head _)) rfl) ?_|refine .cons (.omap rfl (.tail _ (.head _)) rfl) ?_|refine .cons (.own rfl (.tail _ (.tail _ (.head _))) rfl (by first|rfl|(simp;done)|(congr 1;omega)|(simp;omega)|(simp [zS];done)|(refine congrArg (FV.int .i64) ?_;omega))) ?_|refine .cons (.nil rfl (.tail _ (.tail _ (.head _))) rfl) ?_|refine .cons (.ptr rfl (.tail _ (.tail _ (.head _))) rfl) ?_|refine .cons (.omap rfl (.tail _ (.tail _ (.head _))) rfl) ?_|refine .cons (.omap rfl (.tail _ (.tail _ (.tail _ (.tail _ (.head _))))) rfl) ?_|refine .cons (.ptr rfl (.tail _ (.tail _ (.tail _ (.tail _ (.tail _ (.head _)))))) rfl) ?_|refine .cons (.ptr rfl (.tail _ (.tail _ (.tail _ (.tail _ (.tail _ (.tail _ (.head _))))))) rfl) ?_|refine .cons (.plain rfl (by assumption) rfl) ?_|refine .cons (.wrap rfl zt1) ?_)):P:=h
theorem zh {P:Prop} (h:P:=by repeat (first|exact .nil|refine .bL rfl (by decide) (by first|rfl|(simp;done)|(congr 1;omega)|(simp;omega)|(simp [zS];done)|(refine congrArg (FV.int .i64) ?_;omega)) ?_|refine .cP rfl zvI ?_|refine .eA rfl (eU.cons zt0 rfl eU.nil) ?_|refine .new ?_)):P:=h
theorem HY {P:Prop} (h:P:=by repeat (first|exact zH.nil|refine zH.cons (by first|exact o4.plain rfl rfl|exact o4.own rfl rfl (by decide) (by first|exact (fun _=>rfl)|(intro h;cases h)) (by first|rfl|(simp;done)|(congr 1;omega)|(simp;omega)|(simp [zS];done)|(refine congrArg (FV.int .i64) ?_;omega))|exact o4.nil rfl|exact o4.sub rfl rfl (by repeat (first|exact FV.le.refl _|exact FV.le.nil _|refine FV.le.agg ?_|refine FV.le.bd ?_|exact ud.nil|refine ud.cons ?_ ?_|exact FV.le.undef _))|exact o4.part rfl rfl (by decide) (by first|exact (fun _=>rfl)|(intro h;cases h))) ?_)):P:=h
theorem RL {P:Prop} (h:P:=by first|omega|(simp;omega)|(simp;done)):P:=h
theorem Vh {P:Prop} (h:P:=by first|exact yY (by omega)|rfl):P:=h
theorem DN {P:Prop} (h:P:=by first|(simp;omega)|(simp;done)):P:=h
theorem DO {P:Prop} (h:P:=by first|(simp;done)|(simp;omega)):P:=h
theorem xa {P:Prop} (h:P:=by simp [Op.operands,Call.operands]):P:=h
theorem xt {P:Prop} (h:P:=by exact zO rfl):P:=h
theorem xg {P:Prop} (h:P:=by first|omega|(simp;omega)):P:=h
theorem B5 {P:Prop} (h:P:=by first|omega|(simp;done)):P:=h
theorem xu {P:Prop} (h:P:=by repeat (first|exact .nil)):P:=h
theorem zB {P:Prop} (h:P:=by exact o4.plain rfl rfl):P:=h
theorem zy {P:Prop} (h:P:=by simp [Op.operands]):P:=h
theorem B6 {P:Prop} (h:P:=by simp <;> omega):P:=h
theorem zM {P:Prop} (h:P:=by simp;omega):P:=h
theorem zw {P:Prop} (h:P:=by kernel_rfl):P:=h
theorem Zp {P:Prop} (h:P:=by simp;done):P:=h
theorem zd {P:Prop} (h:P:=by decide):P:=h
theorem za {P:Prop} (h:P:=by omega):P:=h
theorem zc {P:Prop} (h:P:=by simp):P:=h
def flat {α:Type} (aE:α→List Value) (l:List α):List Value:=l.flatMap aE
def El {α:Type} (sz:Nat) (aE:α→List Value):Prop:=∀ a,(aE a).length=sz
section
variable {α:Type} {sz:Nat} {aE:α→List Value}
theorem Vq (l m:List α):flat aE (l++m)=flat aE l++flat aE m:=by simp [flat]
theorem H8 (a:α):flat aE [a]=aE a:=by simp [flat]
theorem Q8 (h:El sz aE):∀ (l:List α) (i j:Nat) (hi:i<l.length),j<sz→(flat aE l)[i * sz+j]? = (aE l[i])[j]?
 | [], i, _, hi, _ => by simp at hi
 | a :: l, 0, j, _, hj => by
  simp only [flat,WG,Ya,yh,List.getElem_cons_zero];rw [xO (by rw [h a];exact hj)]
 | a :: l, i+1, j, hi, hj => by
  have ih:=Q8 h l i j (by simpa using hi) hj;simp only [flat,WG,List.getElem_cons_succ] at *;rw [Zd (by rw [h a,yu];omega),h a,← ih];congr 1;rw [yu];omega
theorem zon (h:El sz aE):∀ (l:List α) (i j:Nat) (u:Value) (a' : α) (hi:i<l.length),j<sz→aE a'=(aE l[i]).set j u→(flat aE l).set (i * sz+j) u=flat aE (l.set i a')
 | [], i, _, _, _, hi, _, _ => by simp at hi
 | a :: l, 0, j, u, a', _, hj, ha => by
  simp only [flat,WG,Ya,yh,P5,List.getElem_cons_zero] at *;rw [List.set_append_left _ _ (by rw [h a];exact hj),ha]
 | a :: l, i+1, j, u, a', hi, hj, ha => by
  have ih:=zon h l i j u a' (by simpa using hi) hj (by simpa using ha);simp only [flat,WG,KA] at *;rw [P4 _ _ (by rw [h a,yu];omega),h a,← ih];congr 2;rw [yu];omega
def Sl (aE:α→List Value) (w:World) (B:Nat) (A:Option Addr) (l:List α):Prop:=
 l≠[]→∃ b off,A=some ⟨b,off,none⟩∧b<B∧∀ j u,(flat aE l)[j]? = some u→w.cell? ⟨b,off+j,none⟩=some u
variable {w w' : World} {B B' : Nat} {A:Option Addr} {l:List α}
theorem Sl.O9 (aE:α→List Value) (w:World) (B:Nat) (A:Option Addr):Sl aE w B A []:=fun h=>absurd rfl h
theorem Sl.keep (h:Sl aE w B A l) (hk:∀ p:Addr,p.block<B→w'.cell? p=w.cell? p):Sl aE w' B A l:=fun hl=>by
 obtain ⟨b,off,ha,hb,hc⟩:=h hl;exact ⟨b,off,ha,hb,fun j u hu=>(hk _ hb).trans (hc j u hu)⟩
theorem Sl.more (h:Sl aE w B A l) (hB:B≤B'):Sl aE w B' A l:=fun hl=>by
 obtain ⟨b,off,ha,hb,hc⟩:=h hl;exact ⟨b,off,ha,by omega,hc⟩
theorem Sl.below (h:Sl aE w B A l) (hb:Below B w w'):Sl aE w' B A l:=h.keep fun _ hp=>hb.cell hp
theorem Sl.get (h:Sl aE w B A l) (hs:El sz aE) {i:Nat} (hi:i<l.length):∃ b off,A=some ⟨b,off,none⟩∧b<B∧∀ j u,j<sz→(aE l[i])[j]? = some u→w.cell? ⟨b,off+i * sz+j,none⟩=some u:=by
 obtain ⟨b,off,ha,hb,hc⟩:=h (by rintro rfl;simp at hi);refine ⟨b,off,ha,hb,fun j u hj hu=>?_⟩;rw [KB];exact hc _ u (by rw [Q8 hs l i j hi hj];exact hu)
theorem Sl.jB {e:TypeId} {c:Nat} (h:w.ownsRow base e sz (.slice A n c) n (flat aE l)) (hl:n=l.length):Sl aE w w.heap.size A l:=fun aN=>by
 rcases h.2 with ⟨hv,h0⟩|⟨g,cap,cur,hv,hg,hh,hn,hm,hc,ht⟩
 ·subst h0;exact absurd (BX hl.symm) aN
 ·have hA:A=some ⟨g,0,none⟩:=by injection hv
  subst hA;have aA:g<w.heap.size:=(YL.1 hh).1;refine ⟨g,0,rfl,aA,fun j u hu=>?_⟩;rw [yh,cell_of_row w g j cur e (0,0) hh];rw [← ht,xG] at hu;split at hu
  ·simpa using hu
  ·cases hu
theorem zuN {e:TypeId} (h:w.ownsRow base e sz v n xs):∃ A c,v=.slice A n c:=by
 rcases h.2 with ⟨hv,h0⟩|⟨g,cap,cur,hv,_⟩
 ·subst h0;exact ⟨none,0,hv⟩
 ·exact ⟨_,_,hv⟩
theorem zuM {e:TypeId} {A:Option Addr} {c:Nat} (h:w.ownsRow base e sz (.slice A n c) n xs) (hn:0<n):∃ g,A=some ⟨g,0,none⟩∧base≤g∧g<w.heap.size:=by
 rcases h.2 with ⟨hv,h0⟩|⟨g,cap,cur,hv,hb,hg,_⟩
 ·omega
 ·injection hv with hA
  exact ⟨g,hA,hb,(YL.1 hg).1⟩
theorem zlR {e:TypeId} (h:w.ownsRow base e sz v n xs) (hb:Below w.heap.size w w'):w'.ownsRow base e sz v n xs:=by
 refine ⟨h.1,?_⟩;rcases h.2 with hn|⟨g,cap,cur,rfl,cb,ec,rest⟩
 ·exact .inl hn
 ·exact .inr ⟨g,cap,cur,rfl,cb,(hb.block g (YL.1 ec).1).trans ec,rest⟩
theorem Ic {e:TypeId} (h:w.ownsRow base e sz v n xs) (hb:qY≤base):w.ownsRow qY e sz v n xs:=by
 refine ⟨h.1,?_⟩;rcases h.2 with hn|⟨g,cap,cur,rfl,cb,r⟩
 ·exact .inl hn
 ·exact .inr ⟨g,cap,cur,rfl,by omega,r⟩
end
theorem Iy {a:World} (h:Below B a w) (n:Nat):Below B a (w.drewN n):=⟨h.os,h.tape,h.output,h.size,h.block⟩
theorem zwX {a:World} (h:Below B a w):Below B a w.drew:=⟨h.os,h.tape,h.output,h.size,h.block⟩
theorem zyb {w1 w2:World} (h:Below w.heap.size w w1) (k:Below w1.heap.size w1 w2):Below w.heap.size w w2:=h.trans (k.mono h.size)
theorem zwZ {e:TypeId} {sz:Nat} (h:w.ownsRow B e sz v n xs) (hB:B≤w.heap.size) (hg:w.grownBy w' v.ownBlock):Below B w w':=
 (Zc B w).grown hg hB fun k hk=>(h.lt k hk).1
def cI (w:World) (g:Nat) (t:TypeId) (cs:List Value):Prop:=w.heap[g]? = some (.cells cs.toArray t (0,0))
section
variable {w w' : World} {g:Nat} {t:TypeId} {cs:List Value}
theorem cI.lt (h:cI w g t cs):g<w.heap.size:=by
 rcases yg g w.heap.size with aA|il
 ·exact aA
 ·unfold cI at h;rw [RW il] at h;cases h
theorem cI.cell (h:cI w g t cs) (i:Nat):w.cell? ⟨g,i,none⟩=cs[i]?:=by rw [cell_of_row w g i cs.toArray t (0,0) h];simp
theorem cI.frozen (h:cI w g t cs) (i:Nat):w.frozen? ⟨g,i,none⟩=false:=by
 unfold cI at h;simp [World.frozen?,h]
theorem cI.new (w:World) (t:TypeId) (cs:List Value):cI (w.alloc (.cells cs.toArray t)) w.heap.size t cs:=heap_alloc_new w _
theorem cI.drew (h:cI w g t cs):cI w.drew g t cs:=h
theorem cI.drewN (h:cI w g t cs) (n:Nat):cI (w.drewN n) g t cs:=h
theorem cI.alloc (h:cI w g t cs) (o:Obj):cI (w.alloc o) g t cs:=(Lp w o g h.lt).trans h
theorem cI.su (h:cI w g t cs) (i:Nat) (u:Value):cI (w.setCell ⟨g,i,none⟩ u) g t (cs.set i u):=by
 unfold cI at h ⊢;simp [World.setCell,Cb,h]
theorem cI.iT (h:cI w g t cs) {p:Addr} (hp:g≠p.block) (u:Value):cI (w.setCell p u) g t cs:=(Below.heap_setCell w p u g hp).trans h
theorem cI.below (h:cI w g t cs) (hb:Below B w w') (hg:g<B):cI w' g t cs:=(hb.block g hg).trans h
theorem cI.grown {row:Option Nat} (h:cI w g t cs) (hb:w.grownBy w' row) (hg:some g≠row):cI w' g t cs:=(hb.block g h.lt hg).trans h
end
def nth {α:Type} [Inhabited α] (l:List α) (i:Nat):α:=l.getD i default
theorem ak [Inhabited α] {l:List α} {i:Nat} (h:i<l.length):nth l i=l[i]:=by simp [nth,h]
theorem xQ [Inhabited α] {l m:List α} {i:Nat} (h:i<l.length):nth (l++m) i=nth l i:=by
 rw [ak h,ak zM,DG h]
theorem zu [Inhabited α] {l:List α} {i:Nat} (h:i<l.length):nth l i∈l:=by rw [ak h];exact xH h
theorem ZA [Inhabited α] {l:List α} {a:α}:nth (l++[a]) l.length=a:=by rw [ak zc];simp
theorem yf [Inhabited α] {l:List α} {i:Nat} {a:α} (h:i<l.length):nth (l.set i a) i=a:=by rw [ak (by simpa using h),List.getElem_set_self]
theorem yn [Inhabited α] {l:List α} {i:Nat} {a:α} (h:i≠j):nth (l.set i a) j=nth l j:=by
 simp only [nth,yz,Rt h]
def sH {σ:Type} (f:Nat→σ→σ) (s:σ):Nat→σ
 | 0 => s
 | k+1 => f k (sH f s k)
def bU (x:Int):Prop:=-9223372036854775808≤x∧x≤9223372036854775807
theorem DR (x:Int) (h:bU x):IntKind.i64.wrap x=x:=by
 unfold bU at h;rw [IntKind.wrap_i64];omega
theorem zqN (x:Int) (h1:-1000000000000≤x) (h2:x≤1000000000000):IntKind.i64.wrap x=x:=DR x ⟨by omega,by omega⟩
structure L1 (P:Program) (T E sz c8:Nat):Prop where
 u:P.underlying T=some (.slice E)
 i:∃ i z,P.info? E=some i∧i.zero=some z∧i.size=sz∧i.bytes=c8∧z.cells.size=sz
 pos:0<sz
theorem VF {P:Program} {T E sz c8:Nat} (hT:L1 P T E sz c8) {W:World} {ops:Array Oper} {rest:List Oper} {o:Oper} {Q:Exit→Act→World→Prop}
(jw:W.ownsRow base E sz v n xs) {E' : TypeId}
  (hgd:o.guard=none) (s x:Operand) (ho:o.op=.call { callee:=.builtin .append,args:=#[s,x],argTypes:=#[T,T] })
  (hs:a.eval s=v) (hx:a.eval x=.slice (some ⟨W.heap.size,0,none⟩) 1 1) (hl:cs.length=sz) (h1:∀ u∈cs,u.oneCell'=true)
  (hn:n≤1000000000) (hby:c8≤100000) (rm:base≤W.heap.size)
  (h:∀ A' c' w',w'.ownsRow base E sz (.slice A' (n+1) c') (n+1) (xs++cs)→Below base W w'→W.grownBy w' v.ownBlock→((Value.slice A' (n+1) c').ownBlock=v.ownBlock∨(∃ g,(Value.slice A' (n+1) c').ownBlock=some g∧W.heap.size≤g))→
   wpList P ops Q rest (a.put o.dst (.slice A' (n+1) c')) w') :
  wpList P ops Q (o::rest) a (W.alloc (.cells cs.toArray E')):=by
 obtain ⟨i,z,hi,hz,aY,hbz,pR⟩:=hT.i;have Gm:=jw.alloc (.cells cs.toArray E');refine wpList_append_own_at _ hgd s x T ho base E i z sz c8 hT.u hi hz aY hbz pR hT.pos v n xs hs Gm ⟨W.heap.size,0,none⟩ 1 1 cs hx za ?_ h1 ?_ ?_ ?_ ?_
 ·intro j u hu;have e:(⟨W.heap.size,0,none⟩:Addr).add j=⟨W.heap.size,j,none⟩:=by unfold Addr.add;split <;> simp_all
  rw [e,cell_of_row _ _ j cs.toArray E' (0,0) (heap_alloc_new W _)];simpa using hu
 ·unfold maxLen;omega
 ·have:(n+1) * c8≤1000000001 * 100000:=YT za hby;omega
 ·simp;omega
 ·intro v' w' eJ hg _ rF;obtain ⟨A',c',rfl⟩:=zuN eJ;have cR:=(KQ W (.cells cs.toArray E') v.ownBlock).trans hg;refine h A' c' w' eJ (zwZ jw rm cR) cR (rF.imp id fun hh=>⟨_,hh,by simp⟩)
theorem ziN {t:TypeId} {e:TypeId} {size:Nat} (h:w.ownsRow base e size v n xs) (hg:cI w g t cs) (aN:e≠t):some g≠v.ownBlock:=by
 rcases h.2 with ⟨rfl,_⟩|⟨g',cap,cur,rfl,_,hh,_⟩
 ·simp [Value.ownBlock]
 ·intro he;have:g=g':=by simpa [Value.ownBlock] using he
  subst this;unfold cI at hg;rw [hg] at hh;injection hh with hh
  injection hh with _ ht
  exact aN ht.symm
theorem PN {e e' : TypeId} {sz sz' n' : Nat} {v' : Value} {xs' : List Value} (h:w.ownsRow base e sz v n xs) (h' : w.ownsRow qY e' sz' v' n' xs') (aN:e≠e'):v.ownBlock=none∨v.ownBlock≠v'.ownBlock:=by
 rcases h.2 with ⟨rfl,_⟩|⟨g,cap,cur,rfl,_,hh,_⟩
 ·exact .inl rfl
 ·rcases h'.2 with ⟨rfl,_⟩|⟨g',cap',dG,rfl,_,vU,_⟩
  ·right;simp [Value.ownBlock]
  ·right;intro he;have:g=g':=by simpa [Value.ownBlock] using he
   subst this;rw [hh] at vU;injection vU with vU
   injection vU with _ ht
   exact aN ht
theorem cI.int {t:TypeId} {l:List Int} (h:cI w g t (flat (fun x=>[Value.int .i64 x]) l)) {i:Nat} (hi:i<l.length):w.cell? ⟨g,i,none⟩=some (.int .i64 (nth l i)):=by
 rw [h.cell i];have:=Q8 (sz:=1) (aE:=fun x=>[Value.int .i64 x]) (fun _=>rfl) l i 0 hi za;rw [ak hi];simpa using this
inductive Wk where
 | fn (f:Nat)|bound (f:Nat)|agg|bd|mI (t:Nat)|agt (n:Nat)
 deriving Inhabited,DecidableEq
inductive FV where
 | undef
 | int (k:IntKind) (n:Int)
 | bool (b:Bool)
 | str (s:ByteArray)
 | nil
 | bR
 | list (sz:Nat) (es:List (List FV))
 | ax (sz:Nat) (es:List (List FV)) (i off:Nat)
 | agg (cs:List FV)
 | bd (vs:List FV)
 | own (id ae o n:Nat)
 | ptr (id ae i off:Nat)
 | omap (id ae:Nat)
 | smap (es:List (List FV))
 | fn (f:Nat) (aH:List FV)
 | iface (t:Nat) (f:FV)
 | wrap (k:Wk) (fs:List FV)
 | perm (sz:Nat) (es:List (List FV))
 | jQ (f:Nat) (aH:List FV)
 deriving Inhabited
def Wk.mk:Wk→List Value→Value
 | .fn f, us => .func (.func f) #[] us.toArray
 | .bound f, us => .func (.func f) us.toArray #[]
 | .agg, us => .agg us.toArray
 | .bd, us => .tuple us.toArray
 | .mI t, us => .iface t (us.headD .nilFunc)
 | .agt n, us => .tuple (.agg (us.take n).toArray :: us.drop n).toArray
def FV.one:FV→Bool
 | .int _ _|.bool _|.str _|.nil|.bR|.list _ _|.smap _|.fn _ _|.iface _ _|.jQ _ _|.ax _ _ _ _ => true
 | _ => false
def FV.dU:FV→Value
 | .int k n => .int k n
 | .bool b => .bool b
 | .str s => .string s
 | _ => .nilFunc
def FV.val:FV→Value
 | .agg cs => .agg (cs.map FV.dU).toArray
 | f => f.dU
def FV.aW:FV→Bool
 | .int _ _|.bool _|.str _ => true
 | _ => false
def FV.simple:FV→Bool
 | .agg cs => cs.all FV.aW
 | f => f.aW
inductive Rd (w:World) (I:Nat→Prop):Value→FV→Prop where
 | undef (v:Value):Rd w I v .undef
 | int (k:IntKind) (n:Int):Rd w I (.int k n) (.int k n)
 | bool (b:Bool):Rd w I (.bool b) (.bool b)
 | str (s:ByteArray):Rd w I (.string s) (.str s)
 | nil:Rd w I (.slice none 0 0) .nil
 | bR:Rd w I (.map none) .bR
 | list (A:Option Addr) (n c sz:Nat) (es:List (List FV)) (us:List Value) (hn:es.length=n) (hc:n≤c) (he:∀ e∈es,e.length=sz) (ho:∀ f∈es.flatten,f.one=true)
   (hA:n≠0→∃ b off,A=some ⟨b,off,none⟩∧I b∧∀ (j:Nat) u,us[j]? = some u→w.cell? ⟨b,off+j,none⟩=some u)
   (hl:us.length=es.flatten.length) (hr:∀ (j:Nat) u f,us[j]? = some u→es.flatten[j]? = some f→Rd w I u f):Rd w I (.slice A n c) (.list sz es)
 | ax (b off sz:Nat) (es:List (List FV)) (i o:Nat) (us:List Value) (hI:I b) (he:∀ e∈es,e.length=sz) (ho:∀ f∈es.flatten,f.one=true)
   (hA:∀ (j:Nat) u,us[j]? = some u→w.cell? ⟨b,off+j,none⟩=some u)
   (hl:us.length=es.flatten.length) (hr:∀ (j:Nat) u f,us[j]? = some u→es.flatten[j]? = some f→Rd w I u f):Rd w I (.pointer (some ⟨b,off+(i * sz+o),none⟩)) (.ax sz es i o)
 | smap (b clock:Nat) (aw:Array MapEntry) (es:List (List FV)) (hI:I b) (hb:w.heap[b]? = some (.map aw clock)) (aO:MapKept.Stamped aw clock) (hl:aw.size=es.length)
   (hk:∀ (j:Nat) e row,aw[j]? = some e→es[j]? = some row→∃ kf vf,row=[kf,vf]∧kf.simple=true∧e.key=kf.val)
   (hr:∀ (j:Nat) e row f,aw[j]? = some e→es[j]? = some row→row[1]? = some f→Rd w I e.val f):Rd w I (.map (some b)) (.smap es)
 | fn (f:Nat) (us:List Value) (fs:List FV) (hl:us.length=fs.length) (hr:∀ (j:Nat) u g, us[j]? = some u → fs[j]? = some g → Rd w I u g):Rd w I (.func (.func f) #[] us.toArray) (.fn f fs)
 | iface (t:Nat) (v:Value) (f:FV) (hr:Rd w I v f):Rd w I (.iface t v) (.iface t f)
 | agg (us:List Value) (fs:List FV) (hl:us.length=fs.length) (hr:∀ (j:Nat) u f, us[j]? = some u → fs[j]? = some f → Rd w I u f):Rd w I (.agg us.toArray) (.agg fs)
 | bd (us:List Value) (fs:List FV) (hl:us.length=fs.length) (hr:∀ (j:Nat) u f, us[j]? = some u → fs[j]? = some f → Rd w I u f):Rd w I (.tuple us.toArray) (.bd fs)
 | jQ (f:Nat) (us:List Value) (fs:List FV) (hl:us.length=fs.length) (hr:∀ (j:Nat) u g, us[j]? = some u → fs[j]? = some g → Rd w I u g):Rd w I (.func (.func f) us.toArray #[]) (.jQ f fs)
 | perm (v:Value) (sz:Nat) (es ba : List (List FV)) (hp:ba.Perm es) (hr:Rd w I v (.list sz ba)):Rd w I v (.perm sz es)
def aS (w:World) (I:Nat→Prop) (us:List Value) (fs:List FV):Prop:=us.length=fs.length∧∀ (j:Nat) u f,us[j]? = some u→fs[j]? = some f→Rd w I u f
theorem Rd.mono (hI:∀ b,I b→I' b∧w'.heap[b]? = w.heap[b]?) {f:FV} (h:Rd w I v f):Rd w' I' v f:=by
 induction h with
 | undef v => exact .undef v
 | int k n => exact .int k n
 | bool b => exact .bool b
 | str s => exact .str s
 | nil => exact .nil
 | bR => exact .bR
 | list A n c sz es us hn hc he ho hA hl hr ih =>
  refine .list A n c sz es us hn hc he ho (fun h0=>?_) hl ih;obtain ⟨b,off,ha,hb,aI⟩:=hA h0;exact ⟨b,off,ha,(hI b hb).1,fun j u hu=>(World.cell?_of_block (w:=w) (w':=w') (a:=⟨b,off+j,none⟩) (hI b hb).2).trans (aI j u hu)⟩
 | ax b off sz es i o us hb he ho hA hl hr ih =>
  exact .ax b off sz es i o us (hI b hb).1 he ho (fun j u hu=>(World.cell?_of_block (w:=w) (w':=w') (a:=⟨b,off+j,none⟩) (hI b hb).2).trans (hA j u hu)) hl ih
 | smap b clock aw es hb ij aO hl hk hr ih => exact .smap b clock aw es (hI b hb).1 ((hI b hb).2.trans ij) aO hl hk ih
 | agg us fs hl hr ih => exact .agg us fs hl ih
 | iface t v f hr ih => exact .iface t v f ih
 | fn f us fs hl hr ih => exact .fn f us fs hl ih
 | bd us fs hl hr ih => exact .bd us fs hl ih
 | jQ f us fs hl hr ih => exact .jQ f us fs hl ih
 | perm v sz es ba hp hr ih => exact .perm v sz es ba hp ih
theorem aS.mono (hI:∀ b,I b→I' b∧w'.heap[b]? = w.heap[b]?) {fs:List FV} (h:aS w I us fs):aS w' I' us fs:=
 ⟨h.1,fun j u f hu hf=>(h.2 j u f hu hf).mono hI⟩
theorem aS.nil {w:World} {I:Nat→Prop}:aS w I [] []:=⟨rfl,fun j u f hu=>by simp at hu⟩
theorem aS.append {vs:List Value} {fs gs:List FV} (h:aS w I us fs) (k:aS w I vs gs):aS w I (us++vs) (fs++gs):=by
 refine ⟨by simp [h.1,k.1],fun j u f hu hf=>?_⟩;rcases yg j us.length with hj|hj
 ·rw [xO hj] at hu;rw [xO (by rw [← h.1];exact hj)] at hf;exact h.2 j u f hu hf
 ·rw [Zd hj] at hu;rw [Zd (by rw [← h.1];exact hj),← h.1] at hf;exact k.2 _ u f hu hf
theorem aS.cons {w:World} {I:Nat→Prop} {u:Value} {us:List Value} {f:FV} {fs:List FV} (h:Rd w I u f) (k:aS w I us fs):aS w I (u::us) (f::fs):=by
 refine ⟨by simp [k.1],fun j u' f' hu hf=>?_⟩;cases j with
 | zero => simp at hu hf; subst hu; subst hf; exact h
 | succ j => simp at hu hf; exact k.2 j u' f' hu hf
theorem aS.take {fs:List FV} (h:aS w I us fs) (n:Nat):aS w I (us.take n) (fs.take n):=by
 refine ⟨by simp [h.1],fun j u f hu hf=>?_⟩;rw [xG] at hu hf;split at hu
 ·rename_i hj;rw [if_pos hj] at hf;exact h.2 j u f hu hf
 ·cases hu
theorem aS.drop {fs:List FV} (h:aS w I us fs) (n:Nat):aS w I (us.drop n) (fs.drop n):=by
 refine ⟨by simp [h.1],fun j u f hu hf=>?_⟩;rw [YE] at hu hf;exact h.2 _ u f hu hf
inductive Zn where
 | dead|own|shut|aC|maps|aj|roomy|full|bh
 deriving DecidableEq,Inhabited
def Zn.row:Zn→Bool
 | .own|.shut|.roomy|.full => true
 | _ => false
def Zn.bC:Zn→Bool
 | .own|.shut|.roomy|.full|.aj => true
 | _ => false
def Zn.cT:Zn→Bool
 | .own|.aC|.roomy|.full|.aj|.bh => true
 | _ => false
theorem Zn.fW {l:Zn} (h:l.row=true):l≠.dead:=by rintro rfl;cases h
theorem Zn.jE {l:Zn} (h:l.row=true):l.bC=true:=by cases l <;> first|rfl|cases h
theorem Zn.bc {l:Zn} (h:l.cT=true):l≠.dead:=by rintro rfl;cases h
structure zE where
 ae:Nat:=0
 ao:Zn:=.dead
 E:TypeId:=0
 sz:Nat:=0
 es:List (List FV):=[]
 deriving Inhabited
def look {α:Type} (d:α):List (Nat×α)→Nat→α
 | [], _ => d
 | (i, a) :: l, k => bif Nat.beq i k then a else look d l k
theorem zI (d:α) (i:Nat) (a:α) (l:List (Nat×α)) (k:Nat):look d ((i,a)::l) k=if i=k then a else look d l k:=by
 show (bif Nat.beq i k then a else look d l k)=_;by_cases h:i=k
 ·subst h;simp
 ·have hb:Nat.beq i k=false:=by
   cases hb:Nat.beq i k with
   | true => exact absurd (ZF hb) h
   | false => rfl
  rw [hb,if_neg h];rfl
structure ah where
 t:List (Nat×FV)
 o:List (Nat×zE)
def ah.get (s:ah) (d:Nat):FV:=look .undef s.t d
def ah.ob (s:ah) (id:Nat):zE:=look {} s.o id
def ah.put (s:ah) (d:Nat) (v:FV):ah:=⟨(d,v)::s.t,s.o⟩
def ah.set (s:ah) (id:Nat) (b:zE):ah:=⟨s.t,(id,b)::s.o⟩
theorem ah.get_put (s:ah) (d:Nat) (v:FV) (k:Nat):(s.put d v).get k=if d=k then v else s.get k:=zI _ _ _ _ _
theorem ah.ay (s:ah) (d:Nat) (b:zE) (k:Nat):(s.set d b).ob k=if d=k then b else s.ob k:=zI _ _ _ _ _
structure fh (w:World) (aZ:Option Nat) (ob:zE) (v:Value) (o n:Nat):Prop where
 row:ob.ao.bC=true
 ex:∃ A c,v=.slice A n c∧n≤c∧o+n≤ob.es.length∧(aZ=none→A=none∧c=0)∧
  ∀ b,aZ=some b→∃ o',A=some ⟨b,o',none⟩∧(c≠0∨o=0→o'=o * ob.sz)∧∀ cur,w.heap[b]? = some (.cells cur ob.E (0,0))→cur.size=(o+c) * ob.sz
def oB (w:World) (I:Nat→Prop) (β:Nat→Option Nat) (s:ah) (v:Value):FV→Prop
 | .own id ae o n => (s.ob id).ao ≠ .dead → (s.ob id).ae=ae → fh w (β id) (s.ob id) v o n
 | .ptr id ae i off => (s.ob id).ao ≠ .dead → (s.ob id).ae=ae → (s.ob id).ao.bC=true ∧ ∃ b, β id=some b ∧ v=.pointer (some ⟨b, i * (s.ob id).sz+off, none⟩)
 | .omap id ae => (s.ob id).ao ≠ .dead → (s.ob id).ae=ae → (s.ob id).ao.bC=false ∧ ∃ b, β id=some b ∧ v=.map (some b)
 | f => Rd w I v f
def VR (w:World) (I:Nat→Prop) (β:Nat→Option Nat) (s:ah) (v:Value):FV→Prop
 | .own id ae o n => (s.ob id).ao ≠ .dead → (s.ob id).ae=ae → fh w (β id) (s.ob id) v o n
 | .ptr id ae i off => (s.ob id).ao ≠ .dead → (s.ob id).ae=ae → (s.ob id).ao.bC=true ∧ ∃ b, β id=some b ∧ v=.pointer (some ⟨b, i * (s.ob id).sz+off, none⟩)
 | .omap id ae => (s.ob id).ao ≠ .dead → (s.ob id).ae=ae → (s.ob id).ao.bC=false ∧ ∃ b, β id=some b ∧ v=.map (some b)
 | .wrap k fs => ∃ us:List Value, v=k.mk us ∧ us.length=fs.length ∧ ∀ (j:Nat) u f, us[j]? = some u → fs[j]? = some f → oB w I β s u f
 | f => Rd w I v f
def FV.hand:FV→Option (Nat×Nat)
 | .own id ae _ _ => some (id, ae)
 | .ptr id ae _ _ => some (id, ae)
 | .omap id ae => some (id, ae)
 | .wrap _ _ => some (0, 0)
 | _ => none
def FV.hands:FV→List (Nat×Nat)
 | .own id ae _ _ => [(id, ae)]
 | .ptr id ae _ _ => [(id, ae)]
 | .omap id ae => [(id, ae)]
 | .wrap _ fs => fs.filterMap FV.hand
 | _ => []
theorem FV.nG {f:FV} (h:f.hand=none):f.hands=[]:=by cases f <;> first|rfl|(simp [FV.hand] at h)
theorem FV.aV {f:FV} (h:f.hand=none) {p:Nat×Nat} (hp:p∈f.hands):False:=by rw [FV.nG h] at hp;cases hp
structure CE (w:World) (base:Nat) (I:Nat→Prop) (aZ:Option Nat) (ob:zE):Prop where
 wide:∀ e∈ob.es,e.length=ob.sz
 one:∀ f∈ob.es.flatten,f.one=true
 row:∃ v us,w.ownsRow base ob.E ob.sz v ob.es.length us∧v.ownBlock=aZ∧aS w I us ob.es.flatten
structure Ej (w:World) (base:Nat) (I:Nat→Prop) (aZ:Option Nat) (ob:zE):Prop where
 ex:∃ b clock aw,aZ=some b∧base≤b∧w.heap[b]? = some (.map aw clock)∧MapKept.Stamped aw clock∧aw.size=ob.es.length∧
  (∀ (j:Nat) e row,aw[j]? = some e→ob.es[j]? = some row→∃ kf vf,row=[kf,vf]∧kf.simple=true∧e.key=kf.val)∧
  ∀ (j:Nat) e row f,aw[j]? = some e→ob.es[j]? = some row→row[1]? = some f→Rd w I e.val f
structure Ek (w:World) (base:Nat) (I:Nat→Prop) (β:Nat→Option Nat) (s:ah) (aZ:Option Nat) (ob:zE):Prop where
 wide:∀ e∈ob.es,e.length=ob.sz
 bE:∀ f∈ob.es.flatten,∀ id ae,(id,ae)∈f.hands→ae≤(s.ob id).ae
 row:∃ v us,w.ownsRow base ob.E ob.sz v ob.es.length us∧v.ownBlock=aZ∧us.length=ob.es.flatten.length∧∀ (j:Nat) u f,us[j]? = some u→ob.es.flatten[j]? = some f→VR w I β s u f
structure Ei (w:World) (base:Nat) (I:Nat→Prop) (β:Nat→Option Nat) (s:ah) (aZ:Option Nat) (ob:zE):Prop where
 bE:∀ f∈ob.es.flatten,∀ id ae,(id,ae)∈f.hands→ae≤(s.ob id).ae
 ex:∃ b clock aw,aZ=some b∧base≤b∧w.heap[b]? = some (.map aw clock)∧MapKept.Stamped aw clock∧aw.size=ob.es.length∧
  (∀ (j:Nat) e row,aw[j]? = some e→ob.es[j]? = some row→∃ kf vf,row=[kf,vf]∧kf.simple=true∧e.key=kf.val)∧
  ∀ (j:Nat) e row f,aw[j]? = some e→ob.es[j]? = some row→row[1]? = some f→VR w I β s e.val f
def nn (w:World) (aZ:Option Nat) (ob:zE):Prop:=
 match ob.ao with
 | .roomy => ∃ b cur, aZ=some b ∧ w.heap[b]? = some (.cells cur ob.E (0, 0)) ∧ (ob.es.length+1) * ob.sz ≤ cur.size
 | .full => ∀ b cur, aZ=some b → w.heap[b]? = some (.cells cur ob.E (0, 0)) → cur.size=ob.es.length * ob.sz
 | _ => True
def dL (w:World) (base:Nat) (I:Nat→Prop) (β:Nat→Option Nat) (s:ah) (aZ:Option Nat) (ob:zE):Prop:=
 if ob.ao.row=true then CE w base I aZ ob∧nn w aZ ob else if ob.ao.bC=true then Ek w base I β s aZ ob else if ob.ao=.bh then Ei w base I β s aZ ob else Ej w base I aZ ob
section
variable {w:World} {base:Nat} {I:Nat→Prop} {β:Nat→Option Nat} {s:ah} {aZ:Option Nat} {ob:zE}
theorem dL.bM (h:dL w base I β s aZ ob) (hr:ob.ao.row=true):CE w base I aZ ob:=by unfold dL at h;rw [if_pos hr] at h;exact h.1
theorem dL.kA (h:dL w base I β s aZ ob) (hr:ob.ao.row=true):nn w aZ ob:=by unfold dL at h;rw [if_pos hr] at h;exact h.2
theorem dL.eB (h:dL w base I β s aZ ob) (hr:ob.ao.row=false) (hs:ob.ao.bC=true):Ek w base I β s aZ ob:=by unfold dL at h;rwa [if_neg (by rw [hr];decide),if_pos hs] at h
theorem dL.jZ (h:dL w base I β s aZ ob) (hr:ob.ao.bC=false) (hm:ob.ao≠.bh):Ej w base I aZ ob:=by
 unfold dL at h;rwa [if_neg (fun e=>by rw [Zn.jE e] at hr;cases hr),if_neg (by rw [hr];decide),if_neg hm] at h
theorem dL.sb (h:dL w base I β s aZ ob) (hm:ob.ao=.bh):Ei w base I β s aZ ob:=by
 unfold dL at h;rwa [if_neg (by rw [hm];decide),if_neg (by rw [hm];decide),if_pos hm] at h
theorem dL.BK (h:dL w base I β s aZ ob) (hr:ob.ao.bC=false):∃ b clock aw,aZ=some b∧base≤b∧w.heap[b]? = some (.map aw clock):=by
 by_cases hm:ob.ao=.bh
 ·obtain ⟨b,clock,aw,h1,h2,h3,_⟩:=(h.sb hm).ex;exact ⟨b,clock,aw,h1,h2,h3⟩
 ·obtain ⟨b,clock,aw,h1,h2,h3,_⟩:=(h.jZ hr hm).ex;exact ⟨b,clock,aw,h1,h2,h3⟩
theorem dL.ofRow (h:CE w base I aZ ob) (hm:nn w aZ ob) (hr:ob.ao.row=true):dL w base I β s aZ ob:=by unfold dL;rw [if_pos hr];exact ⟨h,hm⟩
theorem dL.ld (h:Ek w base I β s aZ ob) (hr:ob.ao=.aj):dL w base I β s aZ ob:=by unfold dL;rw [if_neg (by rw [hr];decide),if_pos (by rw [hr];rfl)];exact h
theorem dL.ofMap (h:Ej w base I aZ ob) (hr:ob.ao.bC=false) (hm:ob.ao≠.bh):dL w base I β s aZ ob:=by
 unfold dL;rwa [if_neg (fun e=>by rw [Zn.jE e] at hr;cases hr),if_neg (by rw [hr];decide),if_neg hm]
theorem dL.uP (h:Ei w base I β s aZ ob) (hm:ob.ao=.bh):dL w base I β s aZ ob:=by
 unfold dL;rwa [if_neg (by rw [hm];decide),if_neg (by rw [hm];decide),if_pos hm]
theorem nn.own (hl:ob.ao=.own):nn w aZ ob:=by unfold nn;rw [hl];trivial
theorem nn.shut (hl:ob.ao=.shut):nn w aZ ob:=by unfold nn;rw [hl];trivial
end
structure JJ where
 ok:Nat→Prop
 K:Nat→Prop:=fun _=>False
 h0:Nat→Option Obj:=fun _=>none
 gh:Value→FV→Prop:=fun _ _=>False
 ds:List Deferred:=[]
instance:CoeFun JJ fun _=>Nat→Prop:=⟨JJ.ok⟩
def zm:Nat:=5000
def aF (J:JJ) (w:World) (β:Nat→Option Nat) (s:ah) (b:Nat):Prop:=b<w.heap.size∧J b∧∀ id,(s.ob id).ao.cT=true→β id≠some b
structure FR (N:Nat) (w0:World) (J:JJ) (s:ah) (a:Act) (w:World) (β:Nat→Option Nat):Prop where
 size:a.tmps.size=N
 defers:a.defers=J.ds
 bB:Below w0.heap.size w0 w
 bP:∀ b,w0.heap.size≤b→J b∨J.K b
 slot:∀ d,VR w (aF J w β s) β s (a.tmps.getD d undef) (s.get d)
 bE:∀ d id ae,(id,ae)∈(s.get d).hands→ae≤(s.ob id).ae
 obj:∀ id,(s.ob id).ao≠.dead→dL w w0.heap.size (aF J w β s) β s (β id) (s.ob id)
 inj:∀ id aL b,(s.ob id).ao≠.dead→(s.ob aL).ao≠.dead→β id=some b→β aL=some b→id=aL
 kept:∀ b,J.K b→b<w.heap.size∧(∀ id,(s.ob id).ao≠.dead→β id≠some b)∧w.heap[b]? = J.h0 b
 gh:∀ v f,J.gh v f→VR w (aF J w β s) β s v f∧∀ id ae,(id,ae)∈f.hands→zm≤id∧ae≤(s.ob id).ae
theorem FR.fresh {N:Nat} {J:JJ} {s:ah} (h:FR N w0 J s a w β) (b:Nat) (hb:w0.heap.size≤b) (hx:w.heap.size≤b∨∃ id,(s.ob id).ao≠.dead∧β id=some b):J b:=by
 rcases h.bP b hb with h1|h1
 ·exact h1
 ·obtain ⟨k1,k2,_⟩:=h.kept b h1;rcases hx with hx|⟨id,hl,e⟩
  ·omega
  ·exact absurd e (k2 id hl)
theorem fh.mono {ob:zE} {o:Nat} (h:fh w aZ ob v o n) (hb:∀ b,aZ=some b→w'.heap[b]? = w.heap[b]?):fh w' aZ ob v o n:=by
 obtain ⟨A,c,h1,h2,h3,h4,h5⟩:=h.ex;refine ⟨h.row,A,c,h1,h2,h3,h4,fun b aU=>?_⟩;obtain ⟨o',k1,k2,k3⟩:=h5 b aU;exact ⟨o',k1,k2,fun cur hc=>k3 cur (by rw [← hb b aU];exact hc)⟩
theorem zlS {e:TypeId} {sz:Nat} (h:w.ownsRow base e sz v n xs) (hb:∀ b,v.ownBlock=some b→w'.heap[b]? = w.heap[b]?):w'.ownsRow base e sz v n xs:=by
 refine ⟨h.1,?_⟩;rcases h.2 with hn|⟨g,cap,cur,rfl,cb,ec,rest⟩
 ·exact .inl hn
 ·exact .inr ⟨g,cap,cur,rfl,cb,(hb g rfl).trans ec,rest⟩
theorem CE.mono {ob:zE} (h:CE w base I aZ ob) (hI:∀ b,I b→I' b∧w'.heap[b]? = w.heap[b]?) (hb:∀ b,aZ=some b→w'.heap[b]? = w.heap[b]?) :
  CE w' base I' aZ ob:=by
 obtain ⟨v,us,h1,h2,h3⟩:=h.row;exact ⟨h.wide,h.one,v,us,zlS h1 (fun b hv=>hb b (h2▸hv)),h2,h3.mono hI⟩
theorem Ej.mono {ob:zE} (h:Ej w base I aZ ob) (hI:∀ b,I b→I' b∧w'.heap[b]? = w.heap[b]?) (hb:∀ b,aZ=some b→w'.heap[b]? = w.heap[b]?) :
  Ej w' base I' aZ ob:=by
 obtain ⟨b,clock,aw,h1,h2,h3,h4,h5,h6,h7⟩:=h.ex;exact ⟨b,clock,aw,h1,h2,(hb b h1).trans h3,h4,h5,h6,fun j e row f a b c=>(h7 j e row f a b c).mono hI⟩
theorem nn.mono {ob:zE} (h:nn w aZ ob) (hb:∀ b,aZ=some b→w'.heap[b]? = w.heap[b]?):nn w' aZ ob:=by
 unfold nn at h ⊢;cases hl:ob.ao with
 | roomy =>
  rw [hl] at h;obtain ⟨b,cur,h1,h2,h3⟩:=h;exact ⟨b,cur,h1,(hb b h1).trans h2,h3⟩
 | full =>
  rw [hl] at h;exact fun b cur h1 h2=>h b cur h1 ((hb b h1).symm.trans h2)
 | _ => trivial
theorem Ek.mono {s s' : ah} {ob:zE} (h:Ek w base I β s aZ ob) (hb:∀ b,aZ=some b→w'.heap[b]? = w.heap[b]?)
  (T:∀ v f,VR w I β s v f→(∀ id ae,(id,ae)∈f.hands→ae≤(s.ob id).ae)→VR w' I' aJ s' v f) (hv:∀ id,(s.ob id).ae≤(s'.ob id).ae):Ek w' base I' aJ s' aZ ob:=by
 obtain ⟨v,us,h1,h2,h3,h4⟩:=h.row;exact ⟨h.wide,fun f hf id ae e=>yc (h.bE f hf id ae e) (hv id),v,us,zlS h1 (fun b hv=>hb b (h2▸hv)),h2,h3,fun j u f hu hf=>T u f (h4 j u f hu hf) (h.bE f (zG hf))⟩
theorem Ei.mono {s s' : ah} {ob:zE} (h:Ei w base I β s aZ ob) (hb:∀ b,aZ=some b→w'.heap[b]? = w.heap[b]?)
  (T:∀ v f,VR w I β s v f→(∀ id ae,(id,ae)∈f.hands→ae≤(s.ob id).ae)→VR w' I' aJ s' v f) (hv:∀ id,(s.ob id).ae≤(s'.ob id).ae):Ei w' base I' aJ s' aZ ob:=by
 obtain ⟨b,clock,aw,h1,h2,h3,h4,h5,h6,h7⟩:=h.ex;exact ⟨fun f hf id ae e=>yc (h.bE f hf id ae e) (hv id),b,clock,aw,h1,h2,by rw [hb b h1];exact h3,h4,h5,h6,fun j e row f he hr hf=>T _ f (h7 j e row f he hr hf) (h.bE f (yJ.2 ⟨row,zG hr,zG hf⟩))⟩
theorem dL.mono {s s' : ah} {ob:zE} (h:dL w base I β s aZ ob) (hI:∀ b,I b→I' b∧w'.heap[b]? = w.heap[b]?) (hb:∀ b,aZ=some b→w'.heap[b]? = w.heap[b]?)
  (T:∀ v f,VR w I β s v f→(∀ id ae,(id,ae)∈f.hands→ae≤(s.ob id).ae)→VR w' I' aJ s' v f) (hv:∀ id,(s.ob id).ae≤(s'.ob id).ae):dL w' base I' aJ s' aZ ob:=by
 cases hr:ob.ao.row with
 | true => exact .ofRow ((h.bM hr).mono hI hb) ((h.kA hr).mono hb) hr
 | false=>
  cases hs:ob.ao.bC with
  | true =>
   refine .ld ((h.eB hr hs).mono hb T hv) ?_;cases hl:ob.ao <;> rw [hl] at hr hs <;> first|rfl|(simp [Zn.row,Zn.bC] at hr hs;done)
  | false =>
   by_cases hm:ob.ao=.bh
   ·exact .uP ((h.sb hm).mono hb T hv) hm
   ·exact .ofMap ((h.jZ hs hm).mono hI hb) hs hm
theorem dL.lt {s:ah} {ob:zE} (h:dL w base I β s aZ ob) {b:Nat} (hb:aZ=some b):base≤b∧b<w.heap.size:=by
 cases hr:ob.ao.row with
 | true =>
  obtain ⟨v,us,h1,h2,h3⟩:=(h.bM hr).row;exact h1.lt b (h2.trans hb)
 | false=>
  cases hs:ob.ao.bC with
  | true =>
   obtain ⟨v,us,h1,h2,h3⟩:=(h.eB hr hs).row;exact h1.lt b (h2.trans hb)
  | false =>
   obtain ⟨b',clock,aw,h1,h2,h3⟩:=h.BK hs;rw [hb] at h1;injection h1 with h1
   subst h1;exact ⟨h2,(YL.1 h3).1⟩
theorem oB.mono {s s' : ah} {f:FV} (h:oB w I β s v f) (hI:∀ b,I b→I' b∧w'.heap[b]? = w.heap[b]?)
  (hh:∀ id ae,f.hand=some (id,ae)→(s'.ob id).ao≠.dead→(s'.ob id).ae=ae→(s.ob id).ao≠.dead∧(s.ob id).ae=ae∧aJ id=β id∧(s'.ob id).sz=(s.ob id).sz∧(s'.ob id).ao.bC=(s.ob id).ao.bC∧
   ∀ v o n,fh w (β id) (s.ob id) v o n→fh w' (aJ id) (s'.ob id) v o n):oB w' I' aJ s' v f:=by
 cases f with
 | own id ae o n =>
  intro h1 h2;obtain ⟨k1,k2,_,_,_,k3⟩:=hh id ae rfl h1 h2;exact k3 v o n (h k1 k2)
 | ptr id ae i off =>
  intro h1 h2;obtain ⟨k1,k2,k3,k4,k5,_⟩:=hh id ae rfl h1 h2;obtain ⟨aj,b,hb,hv⟩:=h k1 k2;exact ⟨by rw [k5];exact aj,b,by rw [k3];exact hb,by rw [k4];exact hv⟩
 | omap id ae =>
  intro h1 h2;obtain ⟨k1,k2,k3,k4,k5,_⟩:=hh id ae rfl h1 h2;obtain ⟨aj,b,hb,hv⟩:=h k1 k2;exact ⟨by rw [k5];exact aj,b,by rw [k3];exact hb,hv⟩
 | _ => exact Rd.mono hI h
theorem VR.wM {s:ah} {f:FV} (h:oB w I β s v f):VR w I β s v f:=by
 cases f with
 | wrap k fs => have h' : Rd w I v (.wrap k fs) := h; cases h'
 | _ => exact h
theorem VR.om {s:ah} {f:FV} (h:VR w I β s v f) (hw:∀ k fs,f≠.wrap k fs):oB w I β s v f:=by
 cases f with
 | wrap k fs => exact absurd rfl (hw k fs)
 | _ => exact h
theorem VR.mono {s s' : ah} {f:FV} (h:VR w I β s v f) (hI:∀ b,I b→I' b∧w'.heap[b]? = w.heap[b]?)
  (hh:∀ id ae,(id,ae)∈f.hands→(s'.ob id).ao≠.dead→(s'.ob id).ae=ae→(s.ob id).ao≠.dead∧(s.ob id).ae=ae∧aJ id=β id∧(s'.ob id).sz=(s.ob id).sz∧(s'.ob id).ao.bC=(s.ob id).ao.bC∧
   ∀ v o n,fh w (β id) (s.ob id) v o n→fh w' (aJ id) (s'.ob id) v o n):VR w' I' aJ s' v f:=by
 have key:∀ g:FV,(∀ k fs,g≠.wrap k fs)→∀ id ae,g.hand=some (id,ae)→(id,ae)∈g.hands:=fun g hg id ae e=>by
  cases g with
  | wrap k fs => exact absurd rfl (hg k fs)
  | own|ptr|omap => simp only [FV.hand, yw] at e; rw [← e]; exact zq.2 rfl
  | _ => cases e
 by_cases hw:∃ k fs,f=.wrap k fs
 ·obtain ⟨k,fs,rfl⟩:=hw;obtain ⟨us,e,hl,hr⟩:=h;refine ⟨us,e,hl,fun j u g hu hg=>(hr j u g hu hg).mono hI fun id ae hf=>hh id ae ?_⟩;exact yU.2 ⟨g,zG hg,hf⟩
 ·have hw' : ∀ k fs,f≠.wrap k fs:=fun k fs e=>hw ⟨k,fs,e⟩;exact VR.wM ((h.om hw').mono hI fun id ae hf=>hh id ae (key f hw' id ae hf))
theorem VR.aX {s:ah} {f:FV} (h:Rd w I v f) (hf:f.hand=none):VR w I β s v f:=by
 cases f <;> first|exact h|(simp [FV.hand] at hf)
theorem VR.rd {s:ah} {f:FV} (h:VR w I β s v f) (hf:f.hand=none):Rd w I v f:=by
 cases f <;> first|exact h|(simp [FV.hand] at hf)
theorem FR.step {N:Nat} {w0 w w' : World} {J:JJ} {s s' : ah} {a a' : Act} {β aJ : Nat→Option Nat} (h:FR N w0 J s a w β) (C:Nat→Prop)
  (size:a'.tmps.size=N) (defers:a'.defers=J.ds) (bB:Below w0.heap.size w0 w')
  (hI:∀ b,aF J w β s b→aF J w' aJ s' b∧w'.heap[b]? = w.heap[b]?)
  (jy:∀ k,(a'.tmps.getD k undef=a.tmps.getD k undef∧s'.get k=s.get k)∨
   (VR w' (aF J w' aJ s') aJ s' (a'.tmps.getD k undef) (s'.get k)∧∀ id ae,(id,ae)∈(s'.get k).hands→ae≤(s'.ob id).ae))
  (aR:∀ id,¬ C id→s'.ob id=s.ob id∧aJ id=β id∧((s.ob id).ao≠.dead→∀ b,β id=some b→w'.heap[b]? = w.heap[b]?))
  (aK:∀ id,C id→(s.ob id).ae≤(s'.ob id).ae)
  (bI:∀ id,C id→(s'.ob id).ao≠.dead→(s'.ob id).ae=(s.ob id).ae→(s.ob id).ao≠.dead∧aJ id=β id∧(s'.ob id).sz=(s.ob id).sz∧(s'.ob id).ao.bC=(s.ob id).ao.bC∧∀ v o n,fh w (β id) (s.ob id) v o n→fh w' (aJ id) (s'.ob id) v o n)
  (pG:∀ id,C id→(s'.ob id).ao≠.dead→(∀ v f,VR w (aF J w β s) β s v f→(∀ id ae,(id,ae)∈f.hands→ae≤(s.ob id).ae)→VR w' (aF J w' aJ s') aJ s' v f)→dL w' w0.heap.size (aF J w' aJ s') aJ s' (aJ id) (s'.ob id))
  (inj:∀ id aL b,(s'.ob id).ao≠.dead→(s'.ob aL).ao≠.dead→aJ id=some b→aJ aL=some b→id=aL)
  (hH:∀ b,b<w.heap.size→(∀ id,(s.ob id).ao≠.dead→β id≠some b)→w'.heap[b]? = w.heap[b]?∧∀ id,(s'.ob id).ao≠.dead→aJ id≠some b):FR N w0 J s' a' w' aJ:=by
 have T:∀ v f,VR w (aF J w β s) β s v f→(∀ id ae,(id,ae)∈f.hands→ae≤(s.ob id).ae)→VR w' (aF J w' aJ s') aJ s' v f:=fun v f hv hle=>by
  refine hv.mono hI fun id ae hf h1 h2=>?_;have hle:=hle id ae hf;by_cases hC:C id
  ·have:=aK id hC;have hv:(s'.ob id).ae=(s.ob id).ae:=by omega
   obtain ⟨k1,k2,k3,k4,k5⟩:=bI id hC h1 hv;exact ⟨k1,by omega,k2,k3,k4,k5⟩
  ·obtain ⟨e,e',hb⟩:=aR id hC;rw [e] at h1 h2;refine ⟨h1,h2,e',by rw [e],by rw [e],fun v o n hv=>?_⟩;rw [e,e'];exact hv.mono (hb h1)
 have hv:∀ id,(s.ob id).ae≤(s'.ob id).ae:=fun id=>by
  by_cases hC:C id
  ·exact aK id hC
  ·rw [(aR id hC).1];exact zg _
 refine { size:=size,defers:=defers,bB:=bB,bP:=h.bP,slot:=fun k=>?_,bE:=fun k id ae hf=>?_,obj:=fun id hl=>?_,inj:=inj,
          kept:=fun b hb=>by
           obtain ⟨k1,k2,k3⟩:=h.kept b hb;obtain ⟨q1,q2⟩:=hH b k1 k2;have:w'.heap[b]? = some w.heap[b]:=q1.trans (by simp [k1]);exact ⟨(YL.1 this).1,q2,q1.trans k3⟩,
          gh:=fun v f hg=>⟨T v f (h.gh v f hg).1 fun id ae hf=>((h.gh v f hg).2 id ae hf).2,fun id ae hf=>⟨((h.gh v f hg).2 id ae hf).1,yc ((h.gh v f hg).2 id ae hf).2 (hv id)⟩⟩ }
 ·rcases jy k with ⟨e1,e2⟩|⟨hv,_⟩
  ·rw [e1,e2];exact T _ _ (h.slot k) (h.bE k)
  ·exact hv
 ·rcases jy k with ⟨e1,e2⟩|⟨_,nh⟩
  ·rw [e2] at hf;exact yc (h.bE k id ae hf) (hv id)
  ·exact nh id ae hf
 ·by_cases hC:C id
  ·exact pG id hC hl T
  ·obtain ⟨e,e',hb⟩:=aR id hC;rw [e] at hl ⊢;rw [e'];exact (h.obj id hl).mono hI (hb hl) T hv
theorem xI (a:Act) (d:Nat) (v:Value) (k:Nat) (hd:d<a.tmps.size):(a.put (some d) v).tmps.getD k undef=if d=k then v else a.tmps.getD k undef:=by
 simp only [Act.put,Xo,Array.getElem?_setIfInBounds];split
 ·rename_i h;subst h;simp
 ·rfl
theorem FR.put {N:Nat} {J:JJ} {s:ah} (h:FR N w0 J s a w β) {d:Nat} {f:FV} (hd:d<N) (hv:VR w (aF J w β s) β s v f)
  (aK:∀ id ae,(id,ae)∈f.hands→ae≤(s.ob id).ae):FR N w0 J (s.put d f) (a.put (some d) v) w β:=by
 refine h.step (C:=fun _=>False) (by simp [Act.put,h.size]) h.defers h.bB (fun b hb=>⟨hb,rfl⟩) (fun k=>?_) (fun id _=>⟨rfl,rfl,fun _ _ _=>rfl⟩) (fun _ h=>h.elim) (fun _ h=>h.elim) (fun _ h=>h.elim) h.inj (fun b _ hn=>⟨rfl,hn⟩);rw [xI a d v k (h.size▸hd),ah.get_put];split
 ·exact .inr ⟨hv.mono (fun b hb=>⟨hb,rfl⟩) (fun id ae _ h1 h2=>⟨h1,h2,rfl,rfl,rfl,fun _ _ _ h=>h⟩),fun id ae hf=>aK id ae hf⟩
 ·exact .inl ⟨rfl,rfl⟩
theorem aF.grow {J:JJ} {s:ah} {b:Nat} (h:aF J w β s b) (hb:Below w.heap.size w w'):aF J w' β s b∧w'.heap[b]? = w.heap[b]?:=
 ⟨⟨xx h.1 hb.size,h.2⟩,hb.block b h.1⟩
theorem FR.grow {N:Nat} {J:JJ} {s:ah} (h:FR N w0 J s a w β) (hb:Below w.heap.size w w'):FR N w0 J s a w' β:=by
 refine h.step (C:=fun _=>False) h.size h.defers (h.bB.trans (hb.mono h.bB.size)) (fun b aU=>aU.grow hb) (fun k=>.inl ⟨rfl,rfl⟩) (fun id _=>⟨rfl,rfl,fun hl b e=>?_⟩) (fun _ h=>h.elim) (fun _ h=>h.elim) (fun _ h=>h.elim) h.inj (fun b aA hn=>⟨hb.block b aA,hn⟩);exact hb.block b ((h.obj id hl).lt e).2
def WX (β:Nat→Option Nat) (j:Nat) (x:Option Nat):Nat→Option Nat:=fun k=>if k=j then x else β k
theorem FR.make {N:Nat} {J:JJ} {s:ah} (h:FR N w0 J s a w β) (i:Option Nat) (j:Nat) {E sz:Nat} {es:List (List FV)}
  (hi:∀ k,i=some k→(s.ob k).ao.cT=true) (hg:w.grownBy w' (i.bind β)) (hw:∀ e∈es,e.length=sz) (ho:∀ f∈es.flatten,f.one=true) (hv:w'.ownsRow w0.heap.size E sz v es.length xs) (hr:aS w (aF J w β s) xs es.flatten)
  (hb:(v.ownBlock=i.bind β)∨v.ownBlock=none∨∃ b,v.ownBlock=some b∧w.heap.size≤b) {s' : ah}
  (hs:∀ k,s'.ob k=if j=k then ⟨(s.ob j).ae+1,.own,E,sz,es⟩ else if i=some k then { s.ob k with ao:=.dead } else s.ob k) (aO:∀ k,s'.get k=s.get k) :
  FR N w0 J s' a w' (WX β j v.ownBlock):=by
 have cE:∀ k,i.bind β=some k→w0.heap.size≤k:=fun k hk=>by
  cases i with
  | none => simp at hk
  | some i => exact ((h.obj i (Zn.bc (hi i rfl))).lt (by simpa using hk)).1
 have aN:∀ b,aF J w β s b→some b≠i.bind β:=fun b aU e=>by
  cases i with
  | none => simp at e
  | some i => exact aU.2.2 i (hi i rfl) (by simpa using e.symm)
 have hI:∀ b,aF J w β s b→aF J w' (WX β j v.ownBlock) s' b∧w'.heap[b]? = w.heap[b]?:=fun b aU=>by
  refine ⟨⟨xx aU.1 hg.size,aU.2.1,fun id hl=>?_⟩,hg.block b aU.1 (aN b aU)⟩;rw [hs] at hl;unfold WX;by_cases hj:j=id
  ·rw [if_pos hj.symm];rcases hb with e|e|⟨b',e,il⟩
   ·rw [e];exact fun e2=>aN b aU e2.symm
   ·rw [e];simp
   ·rw [e];intro e2;injection e2 with e2;have:=aU.1;omega
  ·rw [if_neg hj] at hl;rw [if_neg (fun e=>hj e.symm)];by_cases cy:i=some id
   ·rw [if_pos cy] at hl;cases hl
   ·rw [if_neg cy] at hl;exact aU.2.2 id hl
 have bp:∀ id b,id≠j→i≠some id→(s.ob id).ao≠.dead→β id=some b→b<w.heap.size∧w'.heap[b]? = w.heap[b]?∧v.ownBlock≠some b:=fun id b hj cy hl aU=>by
  have aA:=((h.obj id hl).lt aU).2;have na:some b≠i.bind β:=fun e=>by
   cases i with
   | none => simp at e
   | some i =>
    have:=h.inj id i b hl (Zn.bc (hi i rfl)) aU (by simpa using e.symm);exact cy (by rw [this])
  refine ⟨aA,hg.block b aA na,?_⟩;rcases hb with e|e|⟨b',e,il⟩
  ·rw [e];exact fun e2=>na e2.symm
  ·rw [e];simp
  ·rw [e];intro e2;injection e2 with e2;omega
 refine h.step (C:=fun id=>id=j∨i=some id) h.size h.defers (h.bB.grown hg h.bB.size cE) hI (fun k=>.inl ⟨rfl,aO k⟩) (fun id hC=>?_) (fun id hC=>?_) (fun id hC hl eu=>?_) (fun id hC hl _=>?_) ?_ ?_
 ·have hj:¬ id=j:=fun e=>hC (.inl e);have cy:¬ i=some id:=fun e=>hC (.inr e);refine ⟨by rw [hs,if_neg (fun e=>hj e.symm),if_neg cy],by unfold WX;rw [if_neg hj],fun hl b aU=>(bp id b hj cy hl aU).2.1⟩
 ·rw [hs];split
  ·rename_i e;subst e;simp
  ·split <;> simp
 ·rw [hs] at hl eu;split at hl
  ·rename_i e;rw [if_pos e] at eu;subst e;simp at eu
  ·rename_i e;rcases hC with hC|hC
   ·exact absurd hC.symm e
   ·rw [if_pos hC] at hl;simp at hl
 ·rw [hs] at hl ⊢;split at hl
  ·rename_i e;subst e;rw [if_pos rfl];unfold WX;rw [if_pos rfl];exact .ofRow ⟨hw,ho,v,xs,hv,rfl,hr.mono hI⟩ (.own rfl) rfl
  ·rename_i e;rcases hC with hC|hC
   ·exact absurd hC.symm e
   ·rw [if_pos hC] at hl;simp at hl
 ·intro id aL b hl bn e e';unfold WX at e e';rw [hs] at hl bn;by_cases hj:id=j
  ·by_cases dT : aL=j
   ·rw [hj,dT]
   ·rw [if_pos hj] at e;rw [if_neg dT] at e';rw [if_neg (fun e=>dT e.symm)] at bn;by_cases cy:i=some aL
    ·rw [if_pos cy] at bn;simp at bn
    ·rw [if_neg cy] at bn;exact absurd e (bp aL b dT cy bn e').2.2
  ·rw [if_neg hj] at e;rw [if_neg (fun e=>hj e.symm)] at hl;have cy:¬ i=some id:=fun cy=>by rw [if_pos cy] at hl;simp at hl
   rw [if_neg cy] at hl;by_cases dT : aL=j
   ·rw [if_pos dT] at e';exact absurd e' (bp id b hj cy hl e).2.2
   ·rw [if_neg dT] at e';rw [if_neg (fun e=>dT e.symm)] at bn;have Bd : ¬ i=some aL:=fun cy=>by rw [if_pos cy] at bn;simp at bn
    rw [if_neg Bd] at bn;exact h.inj id aL b hl bn e e'
 ·intro b aA hn;have na:some b≠i.bind β:=fun e=>by
   cases i with
   | none => simp at e
   | some i => exact hn i (Zn.bc (hi i rfl)) (by simpa using e.symm)
  refine ⟨hg.block b aA na,fun id hl e=>?_⟩;unfold WX at e;rw [hs] at hl;by_cases hj:id=j
  ·rw [if_pos hj] at e;rcases hb with e2|e2|⟨b',e2,il⟩
   ·rw [e2] at e;exact na e.symm
   ·rw [e2] at e;simp at e
   ·rw [e2] at e;injection e with e;omega
  ·rw [if_neg hj] at e;rw [if_neg (fun e=>hj e.symm)] at hl;have cy:¬ i=some id:=fun cy=>by rw [if_pos cy] at hl;simp at hl
   rw [if_neg cy] at hl;exact hn id hl e
theorem FR.write {N:Nat} {J:JJ} {s:ah} (h:FR N w0 J s a w β) (i:Nat) {es:List (List FV)}
  (hi:(s.ob i).ao=.own) (hg:w.grownBy w' (β i)) (hw:∀ e∈es,e.length=(s.ob i).sz) (ho:∀ f∈es.flatten,f.one=true) (hv:w'.ownsRow w0.heap.size (s.ob i).E (s.ob i).sz v es.length xs) (BC:v.ownBlock=β i)
  (hr:aS w (aF J w β s) xs es.flatten) (hl:es.length=(s.ob i).es.length) (aY:∀ b cur dG,β i=some b→w.heap[b]? = some (.cells cur (s.ob i).E (0,0))→w'.heap[b]? = some (.cells dG (s.ob i).E (0,0))→dG.size=cur.size)
  {s' : ah} (hs:∀ k,s'.ob k=if i=k then { s.ob i with es:=es } else s.ob k) (aO:∀ k,s'.get k=s.get k):FR N w0 J s' a w' β:=by
 have vY:(s.ob i).ao≠.dead:=by rw [hi];decide
 have hI:∀ b,aF J w β s b→aF J w' β s' b∧w'.heap[b]? = w.heap[b]?:=fun b aU=>by
  refine ⟨⟨xx aU.1 hg.size,aU.2.1,fun id hl=>?_⟩,hg.block b aU.1 (fun e=>aU.2.2 i (by rw [hi];rfl) e.symm)⟩;rw [hs] at hl;split at hl
  ·rename_i e;subst e;exact aU.2.2 i (by rw [hi];rfl)
  ·exact aU.2.2 id hl
 refine h.step (C:=fun id=>id=i) h.size h.defers (h.bB.grown hg h.bB.size fun k hk=>((h.obj i vY).lt hk).1) hI (fun k=>.inl ⟨rfl,aO k⟩) (fun id hC=>?_) (fun id hC=>?_) (fun id hC bA eu=>?_) (fun id hC bA T=>?_) ?_ ?_
 ·refine ⟨by rw [hs,if_neg (fun e=>hC e.symm)],rfl,fun bA b aU=>hg.block b ((h.obj id bA).lt aU).2 (fun e=>hC (h.inj id i b bA vY aU e.symm))⟩
 ·subst hC;rw [hs,if_pos rfl];exact zg _
 ·subst hC;refine ⟨vY,rfl,by rw [hs,if_pos rfl],by rw [hs,if_pos rfl],fun v2 o n pN=>?_⟩;rw [hs,if_pos rfl];obtain ⟨A,c,h1,h2,h3,h4,h5⟩:=pN.ex;refine ⟨pN.row,A,c,h1,h2,by dsimp only;omega,h4,fun b aU=>?_⟩;obtain ⟨o',k1,k2,k3⟩:=h5 b aU;refine ⟨o',k1,k2,fun dG fK=>?_⟩;obtain ⟨v0,us0,r1,r2,r3⟩:=((h.obj id vY).bM (by rw [hi];rfl)).row;rcases r1.2 with ⟨rfl,_⟩|⟨g,cap,cur,rfl,_,ec,_⟩
  ·rw [← r2] at aU;simp [Value.ownBlock] at aU
  ·have qy:g=b:=by rw [← r2] at aU;simpa [Value.ownBlock] using aU
   subst qy;rw [aY g cur dG aU ec fK];exact k3 cur ec
 ·subst hC;rw [hs,if_pos rfl];exact .ofRow ⟨hw,ho,v,xs,hv,BC,hr.mono hI⟩ (.own hi) (by show (s.ob id).ao.row=true;rw [hi];rfl)
 ·intro id aL b bA ep e e';refine h.inj id aL b ?_ ?_ e e'
  ·rw [hs] at bA;split at bA
   ·rename_i e;subst e;exact vY
   ·exact bA
  ·rw [hs] at ep;split at ep
   ·rename_i e;subst e;exact vY
   ·exact ep
 ·intro b aA hn;refine ⟨hg.block b aA (fun e=>hn i vY e.symm),fun id bA=>hn id ?_⟩;rw [hs] at bA;split at bA
  ·rename_i e;subst e;exact vY
  ·exact bA
theorem FR.mK {N:Nat} {J:JJ} {s:ah} (h:FR N w0 J s a w β) (i:Nat) (l:Zn) (fS:l.cT=true→(s.ob i).ao.cT=true) (hd:(s.ob i).ao=.dead→l=.dead) (wD:l≠.dead→l.bC=(s.ob i).ao.bC)
  {s' : ah} (hs:∀ k,s'.ob k=if i=k then { s.ob i with ao:=l } else s.ob k) (aO:∀ k,s'.get k=s.get k)
  (ON:l≠.dead→dL w w0.heap.size (aF J w β s') β s' (β i) (s.ob i)→dL w w0.heap.size (aF J w β s') β s' (β i) { s.ob i with ao:=l }):FR N w0 J s' a w β:=by
 have df:∀ id,(s'.ob id).ao≠.dead→(s.ob id).ao≠.dead:=fun id hl=>by
  rw [hs] at hl;split at hl
  ·rename_i e;subst e;exact fun e=>hl (hd e)
  ·exact hl
 have hI:∀ b,aF J w β s b→aF J w β s' b∧w.heap[b]? = w.heap[b]?:=fun b aU=>by
  refine ⟨⟨aU.1,aU.2.1,fun id hl=>?_⟩,rfl⟩;rw [hs] at hl;split at hl
  ·rename_i e;subst e;exact aU.2.2 i (fS hl)
  ·exact aU.2.2 id hl
 have hv:∀ id,(s.ob id).ae≤(s'.ob id).ae:=fun id=>by
  rw [hs];split
  ·rename_i e;subst e;exact zg _
  ·exact zg _
 refine h.step (C:=fun id=>id=i) h.size h.defers h.bB hI (fun k=>.inl ⟨rfl,aO k⟩) (fun id hC=>?_) (fun id hC=>hv id) (fun id hC bA eu=>?_) (fun id hC bA T=>?_) ?_ (fun b _ hn=>⟨rfl,fun id bA=>hn id (df id bA)⟩)
 ·exact ⟨by rw [hs,if_neg (fun e=>hC e.symm)],rfl,fun _ _ _=>rfl⟩
 ·have uF:=df id bA;subst hC;rw [hs,if_pos rfl] at bA;have bK:=wD bA;refine ⟨uF,rfl,by rw [hs,if_pos rfl],by rw [hs,if_pos rfl];exact bK,fun v2 o n pN=>?_⟩;rw [hs,if_pos rfl];exact ⟨bK.trans pN.row,pN.ex⟩
 ·have uF:=df id bA;subst hC;have ho:=(h.obj id uF).mono hI (fun _ _=>rfl) T hv;rw [hs,if_pos rfl] at bA ⊢;exact ON bA ho
 ·intro id aL b bA ep e e';exact h.inj id aL b (df id bA) (df aL ep) e e'
inductive TK where
 | other|any|int (k:IntKind)|bool|str|slice (e:Nat)|aQ (fs:List (Nat × Nat))|arr (n e:Nat)|map (k e:Nat)
 deriving Inhabited
def TK.bD:TK→Option Bool
 | .aQ _|.arr _ _ => some true
 | .int _|.bool|.str|.slice _|.map _ _|.any => some false
 | .other => none
structure TS where
 k:TK:=.other
 size:Nat:=0
 bytes:Nat:=0
 zero:List FV:=[]
 deriving Inhabited
def WC:Value→FV→Bool
 | .int k n, .int k' n' => decide (k=k') && decide (n=n')
 | .bool a, .bool b => a == b
 | .string s, .str s' => s.size == 0 && s'.size == 0
 | .slice none 0 0, .nil => true
 | .map none, .bR => true
 | _, .undef => true
 | _, _ => false
def VY:List Value→List FV→Bool
 | [], [] => true
 | v :: vs, f :: fs => WC v f && VY vs fs
 | _, _ => false
def Wr (P:Program) (d:TypeDesc) (k:TK):Bool:=
 match k,d with
 | .other, _ => true
 | .any, .struct _ => false
 | .any, .array _ _ => false
 | .any, _ => true
 | .int k, .int k' => decide (k=k')
 | .bool, .bool => true
 | .str, .string => true
 | .slice e, .slice e' => decide (e=e')
 | .aQ fs, .struct gs => decide (fs=gs.toList.map fun f => (f.offset, f.type)) && gs.toList.all fun f => decide (f.name ≠ "_")
 | .arr n e, .array n' e' => decide (n=n') && decide (e=e')
 | .map k e, .map k' e' => decide (k=k') && decide (e=e')
 | _, _ => false
def Su (k:TK) (z:Value):Bool:=
 match k.bD with
 | some true => match z with|.agg _ => true|_ => false
 | some false => match z with|.agg _ => false|_ => true
 | none => true
def Cj (P:Program) (T:Nat) (ts:TS):Bool:=
 match P.underlying T,P.info? T with
 | some d,some i=>
  Wr P d ts.k && decide (i.size=ts.size) && decide (i.bytes=ts.bytes) && decide (ts.zero.length=ts.size) &&
   (match i.zero with|some z=>VY z.cells.toList ts.zero && Su ts.k z|none=>false)
 | _, _ => false
structure zya (P:Program) (T:Nat) (ts:TS) (d:TypeDesc) (i:TypeInfo) (z:Value):Prop where
 u:P.underlying T=some d
 k:Wr P d ts.k=true
 info:P.info? T=some i
 size:i.size=ts.size
 bytes:i.bytes=ts.bytes
 zo:i.zero=some z
 zl:ts.zero.length=ts.size
 zr:VY z.cells.toList ts.zero=true
 zk:Su ts.k z=true
theorem zqI {P:Program} {T:Nat} {ts:TS} (h:Cj P T ts=true):∃ d i z,zya P T ts d i z:=by
 unfold Cj at h;cases hu:P.underlying T with
 | none => rw [hu] at h; cases h
 | some d=>
  cases hi:P.info? T with
  | none => rw [hu, hi] at h; cases h
  | some i=>
   rw [hu,hi] at h;simp only [zx,decide_eq_true_eq] at h;obtain ⟨⟨⟨⟨h1,h2⟩,h3⟩,h4⟩,h5⟩:=h;cases hz:i.zero with
   | none => rw [hz] at h5; cases h5
   | some z =>
    rw [hz] at h5;simp only [zx] at h5;exact ⟨d,i,z,hu,h1,hi,h2,h3,hz,h4,h5.1,h5.2⟩
structure Ctx where
 P:Program
 N:Nat
 ty:Nat→TS
 ok:∀ T,(match (ty T).k with|.other=>true|_=>Cj P T (ty T))=true
 mixed:P.follows .mixedOrders=true
theorem Ctx.get (c:Ctx) {T:Nat} {k:TK} (h:(c.ty T).k=k) (hk:k≠.other):∃ d i z,zya c.P T (c.ty T) d i z:=by
 refine zqI ?_;have:=c.ok T;cases k <;> first|exact absurd rfl hk|(rw [h] at this;exact this)
theorem Rd.zero {f:FV} (h:WC v f=true):Rd w I v f:=by
 cases f with
 | undef => exact .undef v
 | int k n =>
  cases v <;> simp [WC] at h
  obtain ⟨rfl,rfl⟩:=h;exact .int _ _
 | bool b =>
  cases v <;> simp [WC] at h
  subst h;exact .bool _
 | str s =>
  cases v <;> simp [WC] at h
  rename_i t;have e:t=s:=by rw [h.1,h.2]
  subst e;exact .str _
 | nil=>
  cases v with
  | slice a n c =>
   cases a with
   | none => cases n <;> cases c <;> first|exact .nil|(simp [WC] at h)
   | some a => simp [WC] at h
  | _ => simp [WC] at h
 | bR=>
  cases v with
  | map a =>
   cases a with
   | none => exact .bR
   | some a => simp [WC] at h
  | _ => simp [WC] at h
 | _ => cases v <;> first|(simp [WC] at h; done)|(rename_i a n c; cases a <;> cases n <;> cases c <;> simp [WC] at h)
theorem aS.zeros {w:World} {I:Nat→Prop}:∀ {vs:List Value} {fs:List FV},VY vs fs=true→aS w I vs fs
 | [], [], _ => aS.nil
 | [], _ :: _, h => by simp [VY] at h
 | _ :: _, [], h => by simp [VY] at h
 | v :: vs, f :: fs, h => by
  simp only [VY,zx] at h;exact aS.cons (Rd.zero h.1) (aS.zeros h.2)
def gu:Value→FV
 | .int k n => .int k n
 | .bool b => .bool b
 | .string s => .str s
 | .slice none 0 0 => .nil
 | .map none => .bR
 | _ => .undef
def kJ:Value→FV
 | .agg cs => .agg (cs.toList.map gu)
 | v => gu v
theorem Rd.gu (v:Value):Rd w I v (gu v):=by
 unfold YtphidhljdcledaaGreat.gu;split <;> first|exact .int _ _|exact .bool _|exact .str _|exact .nil|exact .bR|exact .undef _
theorem Rd.kJ (v:Value):Rd w I v (kJ v):=by
 unfold YtphidhljdcledaaGreat.kJ;split
 ·rename_i cs;have:=Rd.agg (w:=w) (I:=I) cs.toList (cs.toList.map YtphidhljdcledaaGreat.gu) zc (fun j u f hu hf=>by
   rw [ye,hu] at hf;simp only [Za,yw] at hf;subst hf;exact Rd.gu u)
  simpa using this
 ·exact Rd.gu v
theorem zkV (v:Value):(kJ v).hand=none:=by
 unfold kJ;split
 ·rfl
 ·unfold gu;split <;> rfl
def ah.ev (s:ah):Operand→FV
 | .tmp t => s.get t
 | .const v => kJ v
 | .func f => .fn f []
 | _ => .undef
section
variable {N:Nat} {w0 w:World} {J:JJ} {s:ah} {a:Act} {β:Nat→Option Nat}
theorem FR.ev (h:FR N w0 J s a w β) (x:Operand):VR w (aF J w β s) β s (a.eval x) (s.ev x):=by
 cases x with
 | tmp t => exact h.slot t
 | const v =>
  exact VR.aX (Rd.kJ v) (zkV v)
 | global g => exact Rd.undef _
 | func f => exact VR.aX (Rd.fn f [] [] rfl zc) rfl
theorem FR.cg (h:FR N w0 J s a w β) (x:Operand) {id ae:Nat} (hf:(id,ae)∈(s.ev x).hands):ae≤(s.ob id).ae:=by
 cases x with
 | tmp t => exact h.bE t id ae hf
 | const v =>
  rw [ah.ev] at hf;exact (FV.aV (zkV _) hf).elim
 | global g => simp [ah.ev, FV.hands] at hf
 | func f => simp [ah.ev, FV.hands] at hf
theorem FR.bV (h:FR N w0 J s a w β) {k:IntKind} {n:Int} (e:s.ev x=.int k n):a.eval x=.int k n:=by
 have:=h.ev x;rw [e] at this;have:=VR.rd this rfl;generalize a.eval x=v at this;cases this;rfl
theorem FR.dX (h:FR N w0 J s a w β) (e:s.ev x=.bool b):a.eval x=.bool b:=by
 have:=h.ev x;rw [e] at this;have:=VR.rd this rfl;generalize a.eval x=v at this;cases this;rfl
theorem FR.fp (h:FR N w0 J s a w β) (e:s.ev x=.nil):a.eval x=.slice none 0 0:=by
 have:=h.ev x;rw [e] at this;have:=VR.rd this rfl;generalize a.eval x=v at this;cases this;rfl
theorem FR.bY (h:FR N w0 J s a w β) {f:FV} (e:s.ev x=f) (hf:f.hand=none):Rd w (aF J w β s) (a.eval x) f:=by
 have:=h.ev x;rw [e] at this;exact VR.rd this hf
theorem FR.cj (h:FR N w0 J s a w β) {id ae o:Nat} (e:s.ev x=.own id ae o n) (hl:(s.ob id).ao≠.dead) (hv:(s.ob id).ae=ae):fh w (β id) (s.ob id) (a.eval x) o n:=by
 have:=h.ev x;rw [e] at this;exact this hl hv
theorem FR.dA (h:FR N w0 J s a w β) {id ae i:Nat} (e:s.ev x=.ptr id ae i off) (hl:(s.ob id).ao≠.dead) (hv:(s.ob id).ae=ae):(s.ob id).ao.bC=true∧∃ b,β id=some b∧a.eval x=.pointer (some ⟨b,i * (s.ob id).sz+off,none⟩):=by
 have:=h.ev x;rw [e] at this;exact this hl hv
theorem FR.iR (h:FR N w0 J s a w β) {id ae:Nat} (e:s.ev x=.omap id ae) (hl:(s.ob id).ao≠.dead) (hv:(s.ob id).ae=ae):(s.ob id).ao.bC=false∧∃ b,β id=some b∧a.eval x=.map (some b):=by
 have:=h.ev x;rw [e] at this;exact this hl hv
end
def dC:BinOp→IntKind→Int→Int→Option FV
 | .add, k, a, b => some (.int k (k.wrap (a+b)))
 | .sub, k, a, b => some (.int k (k.wrap (a - b)))
 | .mul, k, a, b => some (.int k (k.wrap (a * b)))
 | .eql, _, a, b => some (.bool (a == b))
 | .neq, _, a, b => some (.bool (a != b))
 | .lss, _, a, b => some (.bool (decide (a<b)))
 | .leq, _, a, b => some (.bool (decide (a ≤ b)))
 | .gtr, _, a, b => some (.bool (decide (a > b)))
 | .geq, _, a, b => some (.bool (decide (a ≥ b)))
 | .and, k, a, b => some (.int k (k.wrap (BitVec.ofInt k.bits a &&& BitVec.ofInt k.bits b).toNat))
 | .or, k, a, b => some (.int k (k.wrap (BitVec.ofInt k.bits a ||| BitVec.ofInt k.bits b).toNat))
 | _, _, _, _ => none
section
variable {N:Nat} {w0 w:World} {J:JJ} {s:ah} {a:Act} {β:Nat→Option Nat} {P:Program}
theorem zu4 (op:BinOp) (T T2:TypeId) (x y:Operand) {k:IntKind} {n:Int} {f:FV} (ex:a.eval x=.int k m) (ey:a.eval y=.int k n) (hf:dC op k m n=some f) (dst:Option Nat) (ty:TypeId) (pos:String) (after:Array Edge) (g:Option (Nat×Bool)) (I:Nat→Prop) :
  ∃ v,(execOp a.eval ⟨dst,.binOp op T x y T2,ty,pos,after,g⟩).run P w=.ok (.value v) w∧Rd w I v f∧f.hand=none:=by
 cases op <;> simp only [dC,yw,reduceCtorEq] at hf <;> subst hf <;>
  simp [execOp,eqGuard,binOp,ex,ey,Op.intArith,Op.intCmp,Op.intBits,FV.hand] <;> first|exact .int _ _|exact .bool _
theorem zto (op:BinOp) (T T2:TypeId) (x y:Operand) {k yk:IntKind} {n:Int} (ex:a.eval x=.int k m) (ey:a.eval y=.int yk n) (hn:0≤n) (dK:op=.shl∨op=.shr) (dst:Option Nat) (ty:TypeId) (pos:String) (after:Array Edge) (g:Option (Nat×Bool)) :
  (execOp a.eval ⟨dst,.binOp op T x y T2,ty,pos,after,g⟩).run P w=.ok (.value (.int k (if op=.shl then k.wrap (m * 2 ^ (min n.toNat k.bits)) else m.fdiv (2 ^ (min n.toNat k.bits))))) w:=by
 have Oa : ¬ n<0:=by omega
 rcases dK with rfl|rfl <;> simp [execOp,eqGuard,binOp,ex,ey,Op.shift,Oa]
theorem zu5 (op:BinOp) (T T2:TypeId) (x y:Operand) {k:IntKind} {n:Int} (ex:a.eval x=.int k m) (ey:a.eval y=.int k n) (hn:n≠0) (dK:op=.quo∨op=.rem) (dst:Option Nat) (ty:TypeId) (pos:String) (after:Array Edge) (g:Option (Nat×Bool)) :
  (execOp a.eval ⟨dst,.binOp op T x y T2,ty,pos,after,g⟩).run P w=.ok (.value (.int k (if op=.quo then k.wrap (m.tdiv n) else m.tmod n))) w:=by
 rcases dK with rfl|rfl <;> simp [execOp,eqGuard,binOp,ex,ey,Op.intDiv,hn]
theorem zu3 (op:BinOp) {T:TypeId} (x y:Operand) {m n:Bool} (hT:P.underlying T=some .bool) (ex:a.eval x=.bool m) (ey:a.eval y=.bool n) (dK:op=.eql∨op=.neq) (dst:Option Nat) (ty:TypeId) (pos:String) (after:Array Edge) (g:Option (Nat×Bool)) :
  (execOp a.eval ⟨dst,.binOp op T x y T2,ty,pos,after,g⟩).run P w=.ok (.value (.bool (if op=.eql then m == n else m != n))) w:=by
 have h1:∀ op:BinOp,(eqGuard op T x y (.bool m) (.bool n)).run P w=.ok () w:=fun op=>by cases op <;> simp [eqGuard]
 have h2:=run_equal_bool (P:=P) w T m n hT;rcases dK with rfl|rfl
 ·have e:binOp .eql T (.bool m) (.bool n)=(do pure (.bool (← Op.equal T (.bool m) (.bool n)))):=rfl;simp only [execOp,ex,ey,e,xy,Result.andThen,h1,h2,Xs,if_true]
 ·have e:binOp .neq T (.bool m) (.bool n)=(do pure (.bool (!(← Op.equal T (.bool m) (.bool n))))):=rfl;simp only [execOp,ex,ey,e,xy,Result.andThen,h1,h2,Xs,bne];rfl
end
theorem ZD (b o n:Nat):(⟨b,o,none⟩:Addr).add n=⟨b,o+n,none⟩:=by
 unfold Addr.add;split
 ·rename_i h;subst h;rfl
 ·rfl
def UG (ts:TS) (cs:List FV):FV:=
 match ts.k.bD with
 | some true => .agg (cs.take ts.size)
 | _ => cs.headD .undef
theorem xJ {P:Program} {e:Nat} (h:Wr P d (.slice e)=true):d=.slice e:=by
 cases d <;> simp [Wr] at h
 subst h;rfl
theorem Rc {P:Program} {e:Nat} (h:Wr P d (.arr n e)=true):d=.array n e:=by
 cases d <;> simp [Wr] at h
 obtain ⟨rfl,rfl⟩:=h;rfl
theorem Ca {P:Program} {e:Nat} (h:Wr P d (.map n e)=true):d=.map n e:=by
 cases d <;> simp [Wr] at h
 obtain ⟨rfl,rfl⟩:=h;rfl
theorem zoy {P:Program} {k:IntKind} (h:Wr P d (.int k)=true):d=.int k:=by
 cases d <;> simp [Wr] at h
 subst h;rfl
theorem zlA {P:Program} (h:Wr P d .bool=true):d=.bool:=by
 cases d <;> first|rfl|(simp [Wr] at h)
theorem zuy {P:Program} (h:Wr P d .str=true):d=.string:=by
 cases d <;> first|rfl|(simp [Wr] at h)
theorem WV {P:Program} (h:Wr P d (.aQ fs)=true):∃ gs,d=.struct gs∧fs=gs.toList.map (fun f=>(f.offset,f.type))∧∀ f∈gs.toList,f.name≠"_":=by
 cases d <;> simp [Wr] at h
 rename_i gs;refine ⟨gs,rfl,h.1,fun f hf=>?_⟩;obtain ⟨i,hi,rfl⟩:=zU hf;have:=h.2 i (by simpa using hi);simpa using this
theorem HJ {c:Ctx} {T:Nat} (hk:(c.ty T).k.bD = some b) (w:World):(isAgg T).run c.P w=.ok b w:=by
 cases eH:(c.ty T).k with
 | other => rw [eH] at hk; cases hk
 | any =>
  obtain ⟨d,i,z,h⟩:=c.get eH zc;have hd:=h.k;rw [eH] at hd hk;simp only [TK.bD,yw] at hk;subst hk;cases d <;> first|(simp [Wr] at hd;done)|simp [isAgg,run_underlying h.u]
 | _=>
  obtain ⟨d,i,z,h⟩:=c.get eH zc;have hd:=h.k;rw [eH] at hd hk
  first
   | (obtain ⟨gs, rfl, _⟩ := WV hd; simp only [TK.bD, yw] at hk; subst hk; simp [isAgg, run_underlying h.u])
   | (obtain rfl := Rc hd; simp only [TK.bD, yw] at hk; subst hk; simp [isAgg, run_underlying h.u])
   | (obtain rfl := zoy hd; simp only [TK.bD, yw] at hk; subst hk; simp [isAgg, run_underlying h.u])
   | (obtain rfl := zlA hd; simp only [TK.bD, yw] at hk; subst hk; simp [isAgg, run_underlying h.u])
   | (obtain rfl := zuy hd; simp only [TK.bD, yw] at hk; subst hk; simp [isAgg, run_underlying h.u])
   | (obtain rfl := xJ hd; simp only [TK.bD, yw] at hk; subst hk; simp [isAgg, run_underlying h.u])
   | (obtain rfl := Ca hd; simp only [TK.bD, yw] at hk; subst hk; simp [isAgg, run_underlying h.u])
theorem Sa {k:TK} (h:k.bD = some b):k≠.other:=by rintro rfl;cases h
theorem ZK {c:Ctx} {T:Nat} (hk:(c.ty T).k≠.other) (w:World):(sizeOf T).run c.P w=.ok (c.ty T).size w:=by
 obtain ⟨d,i,z,h⟩:=c.get rfl hk;simp [sizeOf,typeInfo,h.info,h.size]
theorem ZX {c:Ctx} {T:Nat} (hk:(c.ty T).k≠.other) (w:World):∃ z,(zeroValue T).run c.P w=.ok z w∧VY z.cells.toList (c.ty T).zero=true∧z.cells.size=(c.ty T).size:=by
 obtain ⟨d,i,z,h⟩:=c.get rfl hk;refine ⟨z,by simp [zeroValue,typeInfo,h.info,h.zo],h.zr,?_⟩;have:=(aS.zeros (w:=w) (I:=fun _=>True) h.zr).1;rw [h.zl] at this;simpa using this
theorem Py {c:Ctx} {T:Nat} (hk:(c.ty T).k.bD = some bb) (w:World) (b o:Nat) (us:List Value) (hl:(c.ty T).size≤us.length) (h1:bb=false→0<us.length)
  (hc:∀ (j:Nat) u,us[j]? = some u→w.cell? ⟨b,o+j,none⟩=some u) {fs:List FV} (hr:aS w I us fs) :
  ∃ v,(loadVar T ⟨b,o,none⟩).run c.P w=.ok v w∧Rd w I v (UG (c.ty T) fs):=by
 cases bb with
 | true=>
  refine ⟨.agg (us.take (c.ty T).size).toArray,?_,?_⟩
  ·have hs:=ZK (Sa hk) w;have NY:=run_loadCells_list (P:=c.P) (w:=w) ⟨b,o,none⟩ (us.take (c.ty T).size) (fun j v hv=>by
    rw [ZD];rw [xG] at hv;split at hv
    ·exact hc j v hv
    ·cases hv)
   rw [zW,Yx hl] at NY;simp [loadVar,HJ hk,hs,NY]
  ·unfold UG;rw [hk];have:=hr.take (c.ty T).size;exact .agg _ _ this.1 this.2
 | false=>
  have h0:=h1 rfl;obtain ⟨u,rest,rfl⟩:∃ u rest,us=u::rest:=by cases us with|nil=>simp at h0|cons u r=>exact ⟨u,r,rfl⟩
  obtain ⟨f,gs,rfl⟩:∃ f gs,fs=f::gs:=by cases fs with|nil=>have:=hr.1;simp at this|cons f r=>exact ⟨f,r,rfl⟩
  refine ⟨u,?_,?_⟩
  ·have:=hc 0 u rfl;rw [ZZ] at this;simp [loadVar,HJ hk,load,Sem.run,this]
  ·unfold UG;rw [hk];exact hr.2 0 u f rfl rfl
def FV.cells:FV→List FV
 | .agg cs => cs
 | f => [f]
theorem Rd.gH {f:FV} (h:Rd w I v f) (hf:f.one=true):v.oneCell'=true:=by
 cases h <;> first|rfl|(simp [FV.one] at hf)
theorem Rd.cells {f:FV} (h:Rd w I v f) (hf:f.cells.all FV.one=true):aS w I v.cells.toList f.cells∧(∀ u∈v.cells.toList,u.oneCell'=true):=by
 have key:aS w I v.cells.toList f.cells:=by
  cases h with
  | agg us fs hl hr => exact ⟨by simpa [Value.cells, FV.cells] using hl, by simpa [Value.cells, FV.cells] using hr⟩
  | undef v => simp [FV.cells, FV.one] at hf
  | bd us fs hl hr => simp [FV.cells, FV.one] at hf
  | ax b off sz es i o us hI he ho hA hl hr => exact aS.cons (.ax b off sz es i o us hI he ho hA hl hr) aS.nil
  | jQ f us fs hl hr => exact aS.cons (.jQ f us fs hl hr) aS.nil
  | perm v sz es ba hp hr => simp [FV.cells, FV.one] at hf
  | int k n => exact aS.cons (.int k n) .nil
  | bool b => exact aS.cons (.bool b) .nil
  | str s => exact aS.cons (.str s) .nil
  | nil => exact aS.cons .nil aS.nil
  | bR => exact aS.cons .bR aS.nil
  | list A n c sz es us hn hc he ho hA hl hr => exact aS.cons (.list A n c sz es us hn hc he ho hA hl hr) aS.nil
  | smap b clock aw es hI hb aO hl hk hr => exact aS.cons (.smap b clock aw es hI hb aO hl hk hr) aS.nil
  | fn f us fs hl hr => exact aS.cons (.fn f us fs hl hr) aS.nil
  | iface t v f hr => exact aS.cons (.iface t v f hr) aS.nil
 refine ⟨key,fun u hu=>?_⟩;obtain ⟨j,hj,rfl⟩:=zU hu;have gT:j<f.cells.length:=by rw [← key.1];exact hj
 refine (key.2 j _ f.cells[j] zc (by simp [gT])).gH ?_;rw [zL] at hf;exact hf _ (xH gT)
theorem Rd.oc {f:FV} (hf:f.cells.all FV.one=true):f.hand=none:=by
 cases f <;> first|rfl|(simp [FV.cells,FV.one] at hf)
def ah.wr (s:ah) (l:List (Nat×zE)):ah:=l.foldl (fun s p=>s.set p.1 p.2) s
theorem ah.eO (l:List (Nat×zE)):∀ (s:ah) (k:Nat),(s.wr l).get k=s.get k:=by
 induction l with
 | nil => exact fun _ _ => rfl
 | cons p l ih => exact fun s k => ih (s.set p.1 p.2) k
def ah.live (s:ah) (id ae:Nat):Prop:=(s.ob id).ao≠.dead∧(s.ob id).ae=ae
def ZO (c:Ctx) (w0:World) (J:JJ) (s:ah) (a:Act) (o:Oper) (w:World) (f:FV) (wr:List (Nat×zE)):Prop:=
 ∃ v w' aJ,(execOp a.eval o).run c.P w=.ok (.value v) w'∧FR c.N w0 J (s.wr wr) a w' aJ∧VR w' (aF J w' aJ (s.wr wr)) aJ (s.wr wr) v f∧∀ id ae,(id,ae)∈f.hands→ae≤((s.wr wr).ob id).ae
section
variable {c:Ctx} {w0 w:World} {J:JJ} {s:ah} {a:Act} {β:Nat→Option Nat} {dst:Option Nat} {ty:TypeId} {pos:String} {after:Array Edge} {g:Option (Nat×Bool)}
theorem ZO.pure {o:Oper} {f:FV} (h:FR c.N w0 J s a w β) (hr:(execOp a.eval o).run c.P w=.ok (.value v) w) (hf:VR w (aF J w β s) β s v f) (hv:∀ id ae,(id,ae)∈f.hands→ae≤(s.ob id).ae):ZO c w0 J s a o w f []:=
 ⟨v,w,β,hr,h,hf,hv⟩
theorem ZO.rd {o:Oper} {f:FV} (h:FR c.N w0 J s a w β) (hr:(execOp a.eval o).run c.P w=.ok (.value v) w) (hf:Rd w (aF J w β s) v f) (hn:f.hand=none):ZO c w0 J s a o w f []:=
 .pure h hr (VR.aX hf hn) (fun id ae e=>(FV.aV hn e).elim)
theorem zr1 (h:FR c.N w0 J s a w β) (x:Operand):ZO c w0 J s a ⟨dst,.move x,ty,pos,after,g⟩ w (s.ev x) []:=
 .pure h (v:=a.eval x) (by simp [execOp]) (h.ev x) (fun id ae e=>h.cg x e)
theorem zm6 (h:FR c.N w0 J s a w β) (x:Operand):ZO c w0 J s a ⟨dst,.assign x,ty,pos,after,g⟩ w (s.ev x) []:=
 .pure h (v:=a.eval x) (by simp [execOp]) (h.ev x) (fun id ae e=>h.cg x e)
theorem zr2 (h:FR c.N w0 J s a w β) (kn x y:Operand) (hb:s.ev kn=.bool b):ZO c w0 J s a ⟨dst,.pick kn x y,ty,pos,after,g⟩ w (if b then s.ev x else s.ev y) []:=by
 have e:=h.dX hb;cases b
 ·exact .pure h (v:=a.eval y) (by simp [execOp,e,asBool]) (h.ev y) (fun id ae e=>h.cg y e)
 ·exact .pure h (v:=a.eval x) (by simp [execOp,e,asBool]) (h.ev x) (fun id ae e=>h.cg x e)
theorem zrX (h:FR c.N w0 J s a w β) (op:BinOp) (T T2:TypeId) (x y:Operand) {k:IntKind} {n:Int} {f:FV} (ex:s.ev x=.int k m) (ey:s.ev y=.int k n) (hf:dC op k m n=some f) :
  ZO c w0 J s a ⟨dst,.binOp op T x y T2,ty,pos,after,g⟩ w f []:=by
 obtain ⟨v,h1,h2,h3⟩:=zu4 (P:=c.P) (w:=w) op T T2 x y (h.bV ex) (h.bV ey) hf dst ty pos after g (aF J w β s);exact .rd h h1 h2 h3
theorem zrY (h:FR c.N w0 J s a w β) (op:BinOp) (T T2:TypeId) (x y:Operand) {k:IntKind} {n:Int} (ex:s.ev x=.int k m) (ey:s.ev y=.int k n) (hn:n≠0) (dK:op=.quo∨op=.rem) :
  ZO c w0 J s a ⟨dst,.binOp op T x y T2,ty,pos,after,g⟩ w (.int k (if op=.quo then k.wrap (m.tdiv n) else m.tmod n)) []:=
 .rd h (zu5 (P:=c.P) (w:=w) op T T2 x y (h.bV ex) (h.bV ey) hn dK dst ty pos after g) (.int _ _) rfl
theorem zpV (h:FR c.N w0 J s a w β) (op:BinOp) (T T2:TypeId) (x y:Operand) {k yk:IntKind} {n:Int} (ex:s.ev x=.int k m) (ey:s.ev y=.int yk n) (hn:0≤n) (dK:op=.shl∨op=.shr) :
  ZO c w0 J s a ⟨dst,.binOp op T x y T2,ty,pos,after,g⟩ w (.int k (if op=.shl then k.wrap (m * 2 ^ (min n.toNat k.bits)) else m.fdiv (2 ^ (min n.toNat k.bits)))) []:=
 .rd h (zto (P:=c.P) (w:=w) op T T2 x y (h.bV ex) (h.bV ey) hn dK dst ty pos after g) (.int _ _) rfl
theorem zrV (h:FR c.N w0 J s a w β) {T:TypeId} (hT:(c.ty T).k≠.other) (ri:(c.ty T2).k=.int k2) (x:Operand) {k:IntKind} {n:Int} (ex:s.ev x=.int k n) :
  ZO c w0 J s a ⟨dst,.convert T T2 x,ty,pos,after,g⟩ w (.int k2 (k2.wrap n)) []:=by
 obtain ⟨d1,i1,z1,h1⟩:=c.get (T:=T) rfl hT;obtain ⟨d2,i2,z2,h2⟩:=c.get ri zc;have CZ:=h2.k;rw [ri] at CZ;obtain rfl:=zoy CZ;refine .rd h (v:=.int k2 (k2.wrap n)) ?_ (.int _ _) rfl;have hc:(convert T T2 (.int k n)).run c.P w=.ok (.int k2 (k2.wrap n)) w:=by
  unfold convert;simp [run_underlying h1.u,run_underlying h2.u,Conv.intToInt]
 simp [execOp,h.bV ex,hc]
theorem zrT (h:FR c.N w0 J s a w β) (op:BinOp) {T:TypeId} (x y:Operand) {m n:Bool} (hT:(c.ty T).k=.bool) (ex:s.ev x=.bool m) (ey:s.ev y=.bool n) (dK:op=.eql∨op=.neq) :
  ZO c w0 J s a ⟨dst,.binOp op T x y T2,ty,pos,after,g⟩ w (.bool (if op=.eql then m == n else m != n)) []:=by
 obtain ⟨d,i,z,ht⟩:=c.get hT zc;have hd:=ht.k;rw [hT] at hd;obtain rfl:=zlA hd;exact .rd h (zu3 (P:=c.P) (w:=w) op x y ht.u (h.dX ex) (h.dX ey) dK dst ty pos after g) (.bool _) rfl
theorem zus (h:FR c.N w0 J s a w β) (T:TypeId) (x:Operand) (ex:s.ev x=.bool b):ZO c w0 J s a ⟨dst,.unOp .not T x,ty,pos,after,g⟩ w (.bool (!b)) []:=
 .rd h (v:=.bool (!b)) (by simp [execOp,h.dX ex,Op.unary]) (.bool _) rfl
theorem zur (h:FR c.N w0 J s a w β) (T:TypeId) (x:Operand) {k:IntKind} {n:Int} (ex:s.ev x=.int k n):ZO c w0 J s a ⟨dst,.unOp .neg T x,ty,pos,after,g⟩ w (.int k (k.wrap (-n))) []:=
 .rd h (v:=.int k (k.wrap (-n))) (by simp [execOp,h.bV ex,Op.unary,Op.intArith]) (.int _ _) rfl
theorem zr0 (h:FR c.N w0 J s a w β) (bi:Builtin) (T T2:TypeId) (x y:Operand) {k:IntKind} {n:Int} (ex:s.ev x=.int k m) (ey:s.ev y=.int k n) (ff:bi=.min∨bi=.max) :
  ZO c w0 J s a ⟨dst,.call { callee:=.builtin bi,args:=#[x,y],argTypes:=#[T,T2] },ty,pos,after,g⟩ w (.int k (if bi=.min then (if n<m then n else m) else (if m<n then n else m))) []:=by
 rcases ff with rfl|rfl
 ·refine .rd h (v:=.int k (if n<m then n else m)) ?_ (.int _ _) rfl;simp [execOp,resolve,invoke,builtin,Builtin.min_,Builtin.min2,h.bV ex,h.bV ey]
 ·refine .rd h (v:=.int k (if m<n then n else m)) ?_ (.int _ _) rfl;simp [execOp,resolve,invoke,builtin,Builtin.max_,Builtin.max2,h.bV ex,h.bV ey]
theorem RY {T e:TypeId} (hT:(c.ty T).k=.slice e) (x:Operand) (ex:a.eval x=.slice A n cc) :
  (execOp a.eval ⟨dst,.call { callee:=.builtin .len,args:=#[x],argTypes:=#[T] },ty,pos,after,g⟩).run c.P w=.ok (.value (.int .i64 n)) w:=by
 obtain ⟨d,i,z,ht⟩:=c.get hT zc;have hd:=ht.k;rw [hT] at hd;obtain rfl:=xJ hd;simp [execOp,resolve,invoke,builtin,Builtin.len_,ex,run_underlying ht.u,goInt]
theorem zlm (h:FR c.N w0 J s a w β) {T e:TypeId} (hT:(c.ty T).k=.slice e) (x:Operand) {id ae o:Nat} (ex:s.ev x=.own id ae o n) (hl:s.live id ae) :
  ZO c w0 J s a ⟨dst,.call { callee:=.builtin .len,args:=#[x],argTypes:=#[T] },ty,pos,after,g⟩ w (.int .i64 n) []:=by
 obtain ⟨A,cc,h1,_⟩:=(h.cj ex hl.1 hl.2).ex;exact .rd h (RY hT x h1) (.int _ _) rfl
theorem zjP (h:FR c.N w0 J s a w β) {T e:TypeId} (hT:(c.ty T).k=.slice e) (x:Operand) {sz:Nat} {es:List (List FV)} (ex:s.ev x=.list sz es) :
  ZO c w0 J s a ⟨dst,.call { callee:=.builtin .len,args:=#[x],argTypes:=#[T] },ty,pos,after,g⟩ w (.int .i64 es.length) []:=by
 have hr:=h.bY ex rfl;generalize hx:a.eval x=v at hr;cases hr with
 | list A n cc sz es us hn => subst hn; exact .rd h (RY hT x hx) (.int _ _) rfl
theorem zll (h:FR c.N w0 J s a w β) {T e:TypeId} (hT:(c.ty T).k=.slice e) (x:Operand) (ex:s.ev x=.nil) :
  ZO c w0 J s a ⟨dst,.call { callee:=.builtin .len,args:=#[x],argTypes:=#[T] },ty,pos,after,g⟩ w (.int .i64 0) []:=
 .rd h (by have:=RY (c:=c) (w:=w) (dst:=dst) (ty:=ty) (pos:=pos) (after:=after) (g:=g) hT x (h.fp ex);simpa using this) (.int _ _) rfl
theorem FR.iQ (h:FR c.N w0 J s a w β) {sz i o:Nat} {es:List (List FV)} (e:s.ev x=.ax sz es i o) :
  ∃ b off us,a.eval x=.pointer (some ⟨b,off+(i * sz+o),none⟩)∧aF J w β s b∧(∀ e∈es,e.length=sz)∧(∀ f∈es.flatten,f.one=true)∧(∀ (j:Nat) u,us[j]? = some u→w.cell? ⟨b,off+j,none⟩=some u)∧aS w (aF J w β s) us es.flatten:=by
 have hr:=h.bY e rfl;generalize a.eval x=v at hr;cases hr with
 | ax b off sz es i o us hI he ho hA hl hr => exact ⟨b, off, us, rfl, hI, he, ho, hA, hl, hr⟩
theorem zmc {T i:Nat} (hT:(c.ty T).k=.aQ fs) (hf:fs[i]? = some (off,ft)) (ml:(c.ty ft).k≠.other) (aY:(c.ty ft).size≠0) (x:Operand) {b o:Nat} (ex:a.eval x=.pointer (some ⟨b,o,none⟩)) :
  (execOp a.eval ⟨dst,.fieldAddr T x i,ty,pos,after,g⟩).run c.P w=.ok (.value (.pointer (some ⟨b,o+off,none⟩))) w:=by
 obtain ⟨d,ii,z,ht⟩:=c.get hT zc;have hd:=ht.k;rw [hT] at hd;obtain ⟨gs,rfl,iY,_⟩:=WV hd;rw [iY,ye] at hf;cases hg:gs.toList[i]? with
 | none => rw [hg] at hf; cases hf
 | some fl =>
  rw [hg] at hf;simp only [Za,yw,xf] at hf;obtain ⟨rfl,rfl⟩:=hf;have hg' : gs[i]? = some fl:=by simpa using hg
  have hs:=ZK (c:=c) ml w;simp [execOp,Instr.fieldAt,run_underlying ht.u,hg',ex,Instr.sureAddr,fieldPlace,hs,aY,ZD]
theorem zhL (h:FR c.N w0 J s a w β) {T i:Nat} (hT:(c.ty T).k=.aQ fs) (hf:fs[i]? = some (off,ft)) (ml:(c.ty ft).k≠.other) (aY:(c.ty ft).size≠0) (x:Operand)
  {id ae o:Nat} (ex:s.ev x=.ptr id ae j o) (hl:s.live id ae):ZO c w0 J s a ⟨dst,.fieldAddr T x i,ty,pos,after,g⟩ w (.ptr id ae j (o+off)) []:=by
 obtain ⟨aj,b,hb,hv⟩:=h.dA ex hl.1 hl.2;refine .pure h (zmc hT hf ml aY x hv) (fun _ _=>⟨aj,b,hb,by rw [KB]⟩) (fun aL br e=>h.cg x (by rw [ex];exact e))
theorem zgm (h:FR c.N w0 J s a w β) {T i:Nat} (hT:(c.ty T).k=.aQ fs) (hf:fs[i]? = some (off,ft)) (ml:(c.ty ft).k≠.other) (aY:(c.ty ft).size≠0) (x:Operand)
  {sz o:Nat} {es:List (List FV)} (ex:s.ev x=.ax sz es j o):ZO c w0 J s a ⟨dst,.fieldAddr T x i,ty,pos,after,g⟩ w (.ax sz es j (o+off)) []:=by
 obtain ⟨b,iG,us,hv,hI,he,ho,hA,hr⟩:=h.iQ ex;refine .rd h (zmc hT hf ml aY x hv) ?_ rfl;have:=Rd.ax (w:=w) (I:=aF J w β s) b iG sz es j (o+off) us hI he ho hA hr.1 hr.2;rwa [show iG+(j * sz+(o+off))=iG+(j * sz+o)+off by omega] at this
theorem zmd {T e:Nat} (hT:(c.ty T).k=.slice e) (he:(c.ty e).k≠.other) (x y:Operand) {b o m:Nat} {k:IntKind} {n:Int} (ex:a.eval x=.slice (some ⟨b,o,none⟩) m cc) (ey:a.eval y=.int k n) (h0:0≤n) (h1:n<m) :
  (execOp a.eval ⟨dst,.indexAddr T x y,ty,pos,after,g⟩).run c.P w=.ok (.value (.pointer (some ⟨b,o+n.toNat * (c.ty e).size,none⟩))) w:=by
 obtain ⟨d,ii,z,ht⟩:=c.get hT zc;have hd:=ht.k;rw [hT] at hd;obtain rfl:=xJ hd;have hs:=ZK (c:=c) he w;simp [execOp,Instr.indexAt,run_underlying ht.u,ex,ey,asIntOf,hs,h0,h1,ZD]
theorem zgo (h:FR c.N w0 J s a w β) {T e:Nat} (hT:(c.ty T).k=.slice e) (he:(c.ty e).k≠.other) (x y:Operand) {sz:Nat} {es:List (List FV)} {k:IntKind} (ex:s.ev x=.list sz es) (aY:(c.ty e).size=sz)
  (ey:s.ev y=.int k n) (h1:n<es.length):ZO c w0 J s a ⟨dst,.indexAddr T x y,ty,pos,after,g⟩ w (.ax sz es n 0) []:=by
 have hr:=h.bY ex rfl;generalize hx:a.eval x=v at hr;cases hr with
 | list A m cc sz es us hn hc hw ho hA hl hr =>
  subst hn;obtain ⟨b,off,rfl,hI,aI⟩:=hA za;refine .rd h (zmd hT he x y hx (h.bV ey) za za) ?_ rfl;have:=Rd.ax (w:=w) (I:=aF J w β s) b off sz es n 0 us hI hw ho aI hl hr;rw [aY];simpa using this
theorem zhM (h:FR c.N w0 J s a w β) {T e:Nat} (hT:(c.ty T).k=.slice e) (he:(c.ty e).k≠.other) (x y:Operand) {id ae o m:Nat} {k:IntKind} (ex:s.ev x=.own id ae o m) (hl:s.live id ae) (aY:(c.ty e).size=(s.ob id).sz)
  (ey:s.ev y=.int k n) (h1:n<m):ZO c w0 J s a ⟨dst,.indexAddr T x y,ty,pos,after,g⟩ w (.ptr id ae (o+n) 0) []:=by
 have aj:=(h.cj ex hl.1 hl.2).row;obtain ⟨A,cc,e1,e2,e3,e4,e5⟩:=(h.cj ex hl.1 hl.2).ex;cases hb:β id with
 | none => have := (e4 hb).2; omega
 | some b =>
  obtain ⟨o',rfl,k2,k3⟩:=e5 b hb;have eJ:=k2 (.inl za);subst eJ;refine .pure h (zmd hT he x y e1 (h.bV ey) za za) (fun _ _=>⟨aj,b,hb,?_⟩) (fun aL br e=>h.cg x (by rw [ex];exact e));rw [aY];simp [yu]
theorem zi1 {T e:Nat} (hT:(c.ty T).k=.arr n e) (he:(c.ty e).k≠.other) (x y:Operand) {b o:Nat} {k:IntKind} {i:Int} (ex:a.eval x=.pointer (some ⟨b,o,none⟩)) (ey:a.eval y=.int k i) (h0:0≤i) (h1:i<n) :
  (execOp a.eval ⟨dst,.indexAddr T x y,ty,pos,after,g⟩).run c.P w=.ok (.value (.pointer (some ⟨b,o+i.toNat * (c.ty e).size,none⟩))) w:=by
 obtain ⟨d,ii,z,ht⟩:=c.get hT zc;have hd:=ht.k;rw [hT] at hd;obtain rfl:=Rc hd;have hs:=ZK (c:=c) he w;simp [execOp,Instr.indexAt,run_underlying ht.u,ex,ey,asIntOf,hs,h0,h1,ZD,Instr.sureAddr]
theorem zgn (h:FR c.N w0 J s a w β) {T m e:Nat} (hT:(c.ty T).k=.arr m e) (he:(c.ty e).k≠.other) (x y:Operand) {id ae o:Nat} {k:IntKind} (ex:s.ev x=.ptr id ae j o) (hl:s.live id ae)
  (ey:s.ev y=.int k n) (h1:n<m):ZO c w0 J s a ⟨dst,.indexAddr T x y,ty,pos,after,g⟩ w (.ptr id ae j (o+n * (c.ty e).size)) []:=by
 obtain ⟨aj,b,hb,hv⟩:=h.dA ex hl.1 hl.2;refine .pure h (zi1 hT he x y hv (h.bV ey) za za) (fun _ _=>⟨aj,b,hb,by simp [KB]⟩) (fun aL br e=>h.cg x (by rw [ex];exact e))
theorem zeM (h:FR c.N w0 J s a w β) {T m e:Nat} (hT:(c.ty T).k=.arr m e) (he:(c.ty e).k≠.other) (x y:Operand) {sz o:Nat} {es:List (List FV)} {k:IntKind} (ex:s.ev x=.ax sz es j o)
  (ey:s.ev y=.int k n) (h1:n<m):ZO c w0 J s a ⟨dst,.indexAddr T x y,ty,pos,after,g⟩ w (.ax sz es j (o+n * (c.ty e).size)) []:=by
 obtain ⟨b,iG,us,hv,hI,hw,ho,hA,hr⟩:=h.iQ ex;refine .rd h (zi1 hT he x y hv (h.bV ey) za za) ?_ rfl;have:=Rd.ax (w:=w) (I:=aF J w β s) b iG sz es j (o+n * (c.ty e).size) us hI hw ho hA hr.1 hr.2;simp only [zK];rwa [show iG+(j * sz+(o+n * (c.ty e).size))=iG+(j * sz+o)+n * (c.ty e).size by omega] at this
theorem HI {α:Type} {sz:Nat}:∀ (es:List (List α)),(∀ e∈es,e.length=sz)→∀ (i o:Nat),i<es.length→o≤sz→es.flatten.drop (i * sz+o)=(es.getD i []).drop o++(es.drop (i+1)).flatten
 | [], _, i, _, hi, _ => by simp at hi
 | e :: es, he, 0, o, _, ho => by
  have h1:=he e zc;simp only [Ya,yh,xF,DF,List.drop_one,List.tail_cons];rw [Rq,h1,Nat.sub_eq_zero_of_le ho,Yl]
 | e :: es, he, i+1, o, hi, ho => by
  have h1:=he e zc;have ih:=HI es (fun x hx=>he x (by simp [hx])) i o (by simpa using hi) ho;rw [show (i+1) * sz+o=sz+(i * sz+o) by rw [yu];omega,xF,← List.drop_drop,← h1,List.drop_left,h1,ih];simp
theorem xD {sz:Nat} {es:List (List α)} (he:∀ e∈es,e.length=sz):es.flatten.length=es.length * sz:=by
 induction es with
 | nil => simp
 | cons e es ih => rw [xF, zN, ih (fun x hx => he x (by simp [hx])), he e zc, yS, yu]; omega
theorem Lw {sz:Nat} {es:List (List α)} (he:∀ e∈es,e.length=sz) {i:Nat} (hi:i<es.length):(es.getD i []).length=sz:=by
 rw [yz,xz hi];exact he _ (xH hi)
theorem Pk {ts:TS} {cs ds:List FV} (h:ts.size≤cs.length) (h1:cs≠[]):UG ts (cs++ds)=UG ts cs:=by
 unfold UG;split
 ·rw [YS h]
 ·cases cs with
  | nil => exact absurd rfl h1
  | cons x xs => rfl
theorem zhN (h:FR c.N w0 J s a w β) {T:Nat} (hk:(c.ty T).k.bD = some bb) (x:Operand) {sz o:Nat} {es:List (List FV)} (ex:s.ev x=.ax sz es j o) (hj:j<es.length) (ho:o+(c.ty T).size≤sz) (eJ : o<sz) :
  ZO c w0 J s a ⟨dst,.load T x,ty,pos,after,g⟩ w (UG (c.ty T) ((es.getD j []).drop o)) []:=by
 obtain ⟨b,iG,us,hv,hI,hw,bQ,hA,hr⟩:=h.iQ ex;have hd:=hr.drop (j * sz+o);rw [HI es hw j o hj za] at hd;have hlen:((es.getD j []).drop o).length=sz - o:=by rw [XZ,Lw hw hj]
 have im:=hd.1;rw [zN,hlen] at im;obtain ⟨v,r1,r2⟩:=Py hk w b (iG+(j * sz+o)) (us.drop (j * sz+o)) za (fun _=>by omega) (fun i u hu=>by
  rw [YE] at hu;have:=hA _ u hu;rwa [show iG+(j * sz+o)+i=iG+(j * sz+o+i) by omega]) hd
 rw [Pk za (fun e=>by rw [e] at hlen;simp at hlen;omega)] at r2;have wm:(UG (c.ty T) ((es.getD j []).drop o)).hand=none:=by
  unfold UG;split
  ·rfl
  ·have hm:((es.getD j []).drop o).headD .undef∈es.flatten:=by
    cases bk:(es.getD j []).drop o with
    | nil => rw [bk] at hlen; simp at hlen; omega
    | cons y ys =>
     have hy:y∈es.getD j []:=Zv (i:=o) (by rw [bk];simp);rw [yz,xz hj] at hy;exact yJ.2 ⟨es[j],xH hj,hy⟩
   have:=bQ _ hm;generalize ((es.getD j []).drop o).headD .undef=f at this;cases f <;> first|rfl|(simp [FV.one] at this)
 exact .rd h (by simp [execOp,Instr.loadAt,hv,Instr.sureAddr,r1]) r2 wm
theorem FR.block (h:FR c.N w0 J s a w β) {id:Nat} (hl:(s.ob id).ao≠.dead) (bK:(s.ob id).ao.row=true) {b:Nat} (hb:β id=some b) :
  ∃ cur cap,w.heap[b]? = some (.cells cur (s.ob id).E (0,0))∧(s.ob id).es.length≤cap∧cap≤maxLen∧cur.size=cap * (s.ob id).sz∧
   aS w (aF J w β s) (cur.toList.take ((s.ob id).es.length * (s.ob id).sz)) (s.ob id).es.flatten∧w.ownsRow w0.heap.size (s.ob id).E (s.ob id).sz (.slice (some ⟨b,0,none⟩) (s.ob id).es.length cap) (s.ob id).es.length (cur.toList.take ((s.ob id).es.length * (s.ob id).sz)):=by
 obtain ⟨v,us,r1,r2,r3⟩:=((h.obj id hl).bM bK).row;have r1':=r1;rcases r1.2 with ⟨rfl,_⟩|⟨g',cap,cur,rfl,_,ec,hn,hm,bk,fz⟩
 ·rw [← r2] at hb;simp [Value.ownBlock] at hb
 ·have qy:g'=b:=by rw [← r2] at hb;simpa [Value.ownBlock] using hb
  subst qy;subst fz;exact ⟨cur,cap,ec,hn,hm,bk,r3,r1'⟩
theorem W8 (h:FR c.N w0 J s a w β) {T:Nat} (hk:(c.ty T).k.bD = some bb) (x:Operand) {id ae o:Nat} (ex:s.ev x=.ptr id ae j o) (hl:s.live id ae) (bK:(s.ob id).ao.row=true) (hj:j<(s.ob id).es.length) (ho:o+(c.ty T).size≤(s.ob id).sz) (eJ : o<(s.ob id).sz) :
  ZO c w0 J s a ⟨dst,.load T x,ty,pos,after,g⟩ w (UG (c.ty T) (((s.ob id).es.getD j []).drop o)) []:=by
 obtain ⟨_,b,hb,hv⟩:=h.dA ex hl.1 hl.2;obtain ⟨cur,cap,bp,hn,hm,bk,hr,aj⟩:=h.block hl.1 bK hb;have hw:=((h.obj id hl.1).bM bK).wide;have bQ:=((h.obj id hl.1).bM bK).one;generalize (s.ob id).es=es at hj hn hr aj hw bQ ⊢;generalize (s.ob id).sz=sz at ho eJ bk hr aj hw hv ⊢;have hd:=hr.drop (j * sz+o);rw [HI es hw j o hj za] at hd;have hlen:((es.getD j []).drop o).length=sz - o:=by rw [XZ,Lw hw hj]
 have im:=hd.1;rw [zN,hlen] at im;obtain ⟨v,r1,r2⟩:=Py hk w b (j * sz+o) ((cur.toList.take (es.length * sz)).drop (j * sz+o)) za (fun _=>by omega) (fun i u hu=>by
  rw [YE,xG] at hu;rw [cell_of_row w b _ cur (s.ob id).E (0,0) bp];split at hu
  ·simpa using hu
  ·cases hu) hd
 rw [Pk za (fun e=>by rw [e] at hlen;simp at hlen;omega)] at r2;have wm:(UG (c.ty T) ((es.getD j []).drop o)).hand=none:=by
  unfold UG;split
  ·rfl
  ·have hm:((es.getD j []).drop o).headD .undef∈es.flatten:=by
    cases bk:(es.getD j []).drop o with
    | nil => rw [bk] at hlen; simp at hlen; omega
    | cons y ys =>
     have hy:y∈es.getD j []:=Zv (i:=o) (by rw [bk];simp);rw [yz,xz hj] at hy;exact yJ.2 ⟨es[j],xH hj,hy⟩
   have:=bQ _ hm;generalize ((es.getD j []).drop o).headD .undef=f at this;cases f <;> first|rfl|(simp [FV.one] at this)
 exact .rd h (by simp [execOp,Instr.loadAt,hv,Instr.sureAddr,r1]) r2 wm
end
def av {α:Type} (cs:List α) (o:Nat) (ds:List α):List α:=cs.take o++ds++cs.drop (o+ds.length)
theorem Zk {cs ds:List α} {o:Nat} (h:o+ds.length≤cs.length):(av cs o ds).length=cs.length:=by
 unfold av;simp;omega
theorem aS.av {vs:List Value} {fs gs:List FV} (h:aS w I us fs) (k:aS w I vs gs) (o:Nat):aS w I (av us o vs) (av fs o gs):=by
 unfold YtphidhljdcledaaGreat.av;rw [k.1];exact ((h.take o).append k).append (h.drop _)
theorem zgd {α:Type} {sz:Nat}:∀ (es:List (List α)),(∀ e∈es,e.length=sz)→∀ (i o:Nat) (ds:List α),i<es.length→o+ds.length≤sz→
  (es.set i (av (es.getD i []) o ds)).flatten=av es.flatten (i * sz+o) ds
 | [], _, i, _, _, hi, _ => by simp at hi
 | e :: es, he, 0, o, ds, _, ho => by
  have h1:=he e zc;simp only [P5,DF,xF,Ya,yh];unfold av;rw [YS za,List.drop_append_of_le_length za];simp []
 | e :: es, he, i+1, o, ds, hi, ho => by
  have h1:=he e zc;have ih:=zgd es (fun x hx=>he x (by simp [hx])) i o ds (by simpa using hi) ho;simp only [KA,DE,xF];rw [ih];unfold av;have e1:(i+1) * sz+o=e.length+(i * sz+o):=by rw [yu,h1];omega
  rw [e1,zkJ,show e.length+(i * sz+o)+ds.length=e.length+(i * sz+o+ds.length) by omega,znV];simp []
theorem zu7 {sz:Nat} {es:List (List α)} (he:∀ e∈es,e.length=sz) {i o:Nat} {ds:List α} (hi:i<es.length) (ho:o+ds.length≤sz):∀ e∈es.set i (av (es.getD i []) o ds),e.length=sz:=by
 intro e hm;rcases ZE hm with h|h
 ·exact he e h
 ·subst h;have:=Lw he hi;rw [Zk za,this]
theorem UH {cs ds:List α} {o:Nat} {x:α} (h:x∈av cs o ds):x∈cs∨x∈ds:=by
 unfold av at h;simp only [zC] at h;rcases h with (h|h)|h
 ·exact .inl (xn h)
 ·exact .inr h
 ·exact .inl (Zv h)
section
variable {c:Ctx} {w0 w:World} {J:JJ} {s:ah} {a:Act} {β:Nat→Option Nat} {dst:Option Nat} {ty:TypeId} {pos:String} {after:Array Edge} {g:Option (Nat×Bool)}
theorem Yg (w:World) (g k:Nat) (cs:Array Value) (h:k≠g):(w.setRow g cs).heap[k]? = w.heap[k]?:=by
 simp only [World.setRow,Cb];rw [if_neg (fun e=>h e.symm)]
theorem Zt (w:World) (g:Nat) (cs cur:Array Value) (E:TypeId) (h:w.heap[g]? = some (.cells cur E (0,0))):(w.setRow g cs).heap[g]? = some (.cells cs E (0,0)):=by
 simp [World.setRow,Cb,h]
theorem zpW (h:FR c.N w0 J s a w β) {T:Nat} (hk:(c.ty T).k≠.other) (x y:Operand) {id ae o:Nat} (ex:s.ev x=.ptr id ae j o) (hl:(s.ob id).ao=.own) (hv:(s.ob id).ae=ae) {f:FV} (ey:s.ev y=f)
  (hf:f.cells.all FV.one=true) (cu:f.cells.length=(c.ty T).size) (hj:j<(s.ob id).es.length) (ho:o+(c.ty T).size≤(s.ob id).sz) :
  ∃ w',(execOp a.eval ⟨dst,.store T x y,ty,pos,after,g⟩).run c.P w=.ok .skip w'∧
   FR c.N w0 J (s.wr [(id,{ s.ob id with es:=(s.ob id).es.set j (av ((s.ob id).es.getD j []) o f.cells) })]) a w' β:=by
 have au:(s.ob id).ao≠.dead:=by rw [hl];decide
 have bK:(s.ob id).ao.row=true:=by rw [hl];rfl
 obtain ⟨_,b,hb,rW⟩:=h.dA ex au hv;obtain ⟨cur,cap,bp,hn,hm,bk,hr,aj⟩:=h.block au bK hb;have hw:=((h.obj id au).bM bK).wide;have bQ:=((h.obj id au).bM bK).one;have gC:=h.bY ey (Rd.oc hf);obtain ⟨kP,nH⟩:=gC.cells hf;generalize hy:a.eval y=v at kP nH;generalize lC:(s.ob id).es=es at hj hn hr aj hw bQ ⊢;generalize aY:(s.ob id).sz=sz at ho bk hr aj hw rW ⊢;have mH:v.cells.toList.length=(c.ty T).size:=by rw [kP.1,cu]
 have hle:j * sz+sz≤es.length * sz:=by
  have:(j+1) * sz≤es.length * sz:=ZG sz za;rw [yu] at this;omega
 have hle2:es.length * sz≤cap * sz:=ZG sz hn;have aO:=run_storeCells_at c.P b (j * sz+o) (s.ob id).E v.cells.toList 0 cur w bp za nH;simp only [ZZ] at aO;have ch:cur.toList.length=cap * sz:=by simpa using bk
 have hvl2:v.cells.toList.length=f.cells.length:=kP.1;have nW:(cur.toList.take (es.length * sz)).length=es.length * sz:=by rw [zW,ch];omega
 obtain ⟨W,hW⟩:∃ W,W=w.setRow b (av cur.toList (j * sz+o) v.cells.toList).toArray:=⟨_,rfl⟩
 have l7:W.heap[b]? = some (.cells (av cur.toList (j * sz+o) v.cells.toList).toArray (s.ob id).E (0,0)):=by rw [hW];exact Zt w b _ cur _ bp
 have jv:w.grownBy W (β id):=by
  subst hW;refine ⟨rfl,rfl,rfl,by simp [World.setRow],fun k hk aN=>Yg w b k _ (fun e=>aN (by rw [e,hb]))⟩
 have c7 : W.ownsRow w0.heap.size (s.ob id).E sz (.slice (some ⟨b,0,none⟩) es.length cap) es.length (av (cur.toList.take (es.length * sz)) (j * sz+o) v.cells.toList):=by
  refine ⟨?_,.inr ⟨b,cap,_,rfl,((h.obj id au).lt hb).1,l7,hn,hm,?_,?_⟩⟩
  ·rw [Zk za,nW]
  ·simp only [Ve];rw [Zk za,ch]
  ·have key:∀ (L p:Nat) (cs ds:List Value),p+ds.length≤L→L≤cs.length→(av cs p ds).take L=av (cs.take L) p ds:=by
    intro L p cs ds h1 h2;unfold av;rw [yV,yV,We,zW,Yx za,We,Wf,Wf,KL za,Yx za,zS (by omega:ds.length≤L - p),Rr];congr 3;omega
   exact key _ _ _ _ za za
 have mA : ∀ f'∈(es.set j (av (es.getD j []) o f.cells)).flatten,f'.one=true:=by
  intro f' bS;obtain ⟨e,he,th⟩:=yJ.1 bS;rcases ZE he with h'|h'
  ·exact bQ f' (yJ.2 ⟨e,h',th⟩)
  ·subst h';rcases UH th with h'|h'
   ·rw [yz,xz hj] at h';exact bQ f' (yJ.2 ⟨_,xH hj,h'⟩)
   ·exact zL.1 hf f' h'
 refine ⟨W,?_,?_⟩
 ·have hs:=ZK (c:=c) hk w;have OI : v.cells.size=(c.ty T).size:=by simpa using mH
  have nV : (storeCells ⟨b,j * sz+o,none⟩ v.cells.toList).run c.P w=.ok () W:=by rw [hW];exact aO
  simp [execOp,Instr.storeAt,storeVar,rW,hy,Instr.sureAddr,hs,OI,nV]
 ·refine h.write id (es:=es.set j (av (es.getD j []) o f.cells)) (v:=.slice (some ⟨b,0,none⟩) es.length cap) (xs:=av (cur.toList.take (es.length * sz)) (j * sz+o) v.cells.toList) hl jv ?_ mA ?_ hb.symm ?_ ?_ ?_ (fun k=>?_) (fun k=>rfl)
  ·rw [aY];exact zu7 hw hj za
  ·rw [aY,yA];exact c7
  ·rw [zgd es hw j o f.cells hj za];exact hr.av kP _
  ·rw [lC,yA]
  ·intro b' EG ui cb h1 h2;rw [hb] at cb;injection cb with cb
   subst cb;rw [bp] at h1;injection h1 with h1
   injection h1 with h1 _ _
   subst h1;rw [l7] at h2;injection h2 with h2
   injection h2 with h2 _ _
   rw [← h2];simp only [Ve];rw [Zk za,ch,bk]
  ·exact ah.ay s id _ k
end
theorem fh.gX {E sz:Nat} {ob:zE} (h:w.ownsRow base E sz v n xs) (hn:ob.es.length=n) (hE:ob.E=E) (hs:ob.sz=sz) (bK:ob.ao.bC=true):fh w v.ownBlock ob v 0 n:=by
 rcases h.2 with ⟨rfl,rfl⟩|⟨g,cap,cur,rfl,_,ec,h1,h2,h3,_⟩
 ·exact ⟨bK,none,0,rfl,zg _,by omega,fun _=>⟨rfl,rfl⟩,fun b hb=>by simp [Value.ownBlock] at hb⟩
 ·refine ⟨bK,some ⟨g,0,none⟩,cap,rfl,h1,by omega,fun hb=>by simp [Value.ownBlock] at hb,fun b hb=>?_⟩;obtain rfl:g=b:=by simpa [Value.ownBlock] using hb
  refine ⟨0,rfl,fun _=>by simp,fun dG hc=>?_⟩;rw [hE,ec] at hc;injection hc with hc
  injection hc with hc _ _
  rw [← hc,hs];simpa using h3
section
variable {c:Ctx} {w0 w:World} {J:JJ} {s:ah} {a:Act} {β:Nat→Option Nat} {ty:TypeId} {pos:String} {after:Array Edge} {g:Option (Nat×Bool)}
theorem Vj (w:World) (o:Obj):Below w.heap.size w (w.alloc o):=(Zc _ _).alloc (zg _) o
theorem FR.newRow (h:FR c.N w0 J s a w β) (d E sz:Nat) (es:List (List FV)) (cur:Array Value) (hw:∀ e∈es,e.length=sz) (ho:∀ f∈es.flatten,f.one=true) (hr:aS w (aF J w β s) cur.toList es.flatten) (hm:es.length≤maxLen) :
  FR c.N w0 J (s.set d ⟨(s.ob d).ae+1,.own,E,sz,es⟩) a (w.alloc (.cells cur E)) (WX β d (some w.heap.size))∧
   (w.alloc (.cells cur E)).ownsRow w0.heap.size E sz (.slice (some ⟨w.heap.size,0,none⟩) es.length es.length) es.length cur.toList:=by
 have hlen:cur.size=es.length * sz:=by have:=hr.1;rw [xD hw] at this;simpa using this
 have aj:(w.alloc (.cells cur E)).ownsRow w0.heap.size E sz (.slice (some ⟨w.heap.size,0,none⟩) es.length es.length) es.length cur.toList:=
  ⟨by simpa using hlen,.inr ⟨w.heap.size,es.length,cur,rfl,h.bB.size,heap_alloc_new w _,zg _,hm,hlen,by rw [zS (by simp [hlen])]⟩⟩
 refine ⟨h.make none d (v:=.slice (some ⟨w.heap.size,0,none⟩) es.length es.length) (fun k e=>by cases e) (KQ w _ _) hw ho aj hr (.inr (.inr ⟨_,rfl,zg _⟩)) (fun k=>?_) (fun k=>rfl),aj⟩;rw [ah.ay];split
 ·rfl
 ·simp
theorem yM (β:Nat→Option Nat) (j:Nat) (x:Option Nat):WX β j x j=x:=by simp [WX]
theorem zgq (h:FR c.N w0 J s a w β) {o:Oper} (d E:Nat) (f:FV) (cur:Array Value) (hf:f.cells.all FV.one=true) (hr:aS w (aF J w β s) cur.toList f.cells)
  (bg:(execOp a.eval o).run c.P w=.ok (.value (.pointer (some ⟨w.heap.size,0,none⟩))) (w.alloc (.cells cur E))) :
  ZO c w0 J s a o w (.ptr d ((s.ob d).ae+1) 0 0) [(d,⟨(s.ob d).ae+1,.own,E,f.cells.length,[f.cells]⟩)]:=by
 obtain ⟨h1,_⟩:=h.newRow d E f.cells.length [f.cells] cur zc (by simpa using hf) (by simpa using hr) (by simp [maxLen]);refine ⟨_,_,_,bg,h1,fun _ _=>⟨by rw [show (s.wr [(d,(⟨(s.ob d).ae+1,.own,E,f.cells.length,[f.cells]⟩:zE))]).ob d=⟨(s.ob d).ae+1,.own,E,f.cells.length,[f.cells]⟩ from (ah.ay s d _ d).trans (if_pos rfl)];rfl,w.heap.size,yM _ _ _,by simp⟩,fun id ae e=>?_⟩;simp only [FV.hands,zq,xf] at e;obtain ⟨e1,e2⟩:=e;replace e1:=e1.symm;replace e2:=e2.symm;subst e1;subst e2;show _≤(ah.ob (ah.set s d _) d).ae;rw [ah.ay,if_pos rfl];exact zg _
theorem zpM (h:FR c.N w0 J s a w β) (d:Nat) {T:Nat} (hk:(c.ty T).k≠.other) (hz:(c.ty T).zero.all FV.one=true) :
  ZO c w0 J s a ⟨some d,.alloc T,ty,pos,after,g⟩ w (.ptr d ((s.ob d).ae+1) 0 0) [(d,⟨(s.ob d).ae+1,.own,T,(c.ty T).zero.length,[(c.ty T).zero]⟩)]:=by
 obtain ⟨z,h1,h2,h3⟩:=ZX hk w;refine zgq h d T (.agg (c.ty T).zero) z.cells hz (aS.zeros h2) ?_;simp [execOp,Instr.alloc,h1,newVar,newRow]
theorem zuq (h:FR c.N w0 J s a w β) (d:Nat) {T:Nat} (x:Operand) {f:FV} (ex:s.ev x=f) (hf:f.cells.all FV.one=true) :
  ZO c w0 J s a ⟨some d,.box T x,ty,pos,after,g⟩ w (.ptr d ((s.ob d).ae+1) 0 0) [(d,⟨(s.ob d).ae+1,.own,T,f.cells.length,[f.cells]⟩)]:=by
 obtain ⟨h1,h2⟩:=(h.bY ex (Rd.oc hf)).cells hf;refine zgq h d T f (a.eval x).cells hf h1 ?_;simp [execOp,Instr.box,newVar,newRow]
def Vo (place:Nat→Option (Nat×Nat)):List FV→List (Nat×FV)→Option (List FV)
 | cs, [] => some cs
 | cs, (i, f) :: rest =>
  match place i with
  | none => none
  | some (off, size) => if f.cells.all FV.one=true ∧ f.cells.length=size ∧ off+size ≤ cs.length then Vo place (av cs off f.cells) rest else none
theorem QF:∀ (vs:List Value) (k off:Nat) (A:Array Value),off+k+vs.length≤A.size→(List.foldl (fun (cs:Array Value) (p:Value×Nat)=>cs.setIfInBounds (off+p.2) p.1) A (vs.zipIdx k)).toList=av A.toList (off+k) vs
 | [], k, off, A, _ => by simp [av]
 | v :: vs, k, off, A, h => by
  have h' : off+k<A.size:=by simp at h;omega
  rw [List.zipIdx_cons,XT,QF vs (k+1) off _ (by simp at h ⊢;omega)];unfold av;simp only [Array.toList_setIfInBounds,yS];rw [show off+(k+1)=off+k+1 by omega,xe (by simpa using h'),List.take_set,List.getElem_set_self,List.set_eq_of_length_le zM,List.drop_set_of_lt za];simp [Uo,Nat.add_left_comm]
theorem zom {w:World} {I:Nat→Prop} (place:Nat→Option (Nat×Nat)):∀ (ps:List (Nat×FV)) (vs:List (Nat×Value)) (A:Array Value) (cs eV : List FV),aS w I A.toList cs→vs.length=ps.length→
  (∀ (j:Nat) v p,vs[j]? = some v→ps[j]? = some p→v.1=p.1∧Rd w I v.2 p.2)→Vo place cs ps=some eV→∃ A',Instr.fill place A vs=some A'∧aS w I A'.toList eV
 | [], [], A, cs, eV, hA, _, _, h => by
  simp only [Vo,yw] at h;subst h;exact ⟨A,rfl,hA⟩
 | [], _ :: _, _, _, _, _, hl, _, _ => by simp at hl
 | _ :: _, [], _, _, _, _, hl, _, _ => by simp at hl
 | (i,f)::ps,(i',v)::vs,A,cs,eV,hA,hl,hp,h=>by
  obtain ⟨e1,e2⟩:=hp 0 _ _ rfl rfl;dsimp only at e1 e2;subst e1;unfold Vo at h;cases gB:place i' with
  | none => rw [gB] at h; cases h
  | some q=>
   obtain ⟨off,size⟩:=q;rw [gB] at h;dsimp only at h;split at h
   ·rename_i hc;obtain ⟨c1,c2,c3⟩:=hc;obtain ⟨k1,k2⟩:=e2.cells c1;have dR:v.cells.size=size:=by have:=k1.1;rw [c2] at this;simpa using this
    have hAs:A.size=cs.length:=by have:=hA.1;simpa using this
    have hz:A.size=A.toList.length:=by simp
    have FB:(v.cells.zipIdx.foldl (fun cs (c,j)=>cs.setIfInBounds (off+j) c) A).toList=av A.toList off v.cells.toList:=by
     have:=QF v.cells.toList 0 off A zM;rw [← Array.foldl_toList];simpa using this
    obtain ⟨A',r1,r2⟩:=zom place ps vs _ _ _ (by rw [FB];exact hA.av k1 off) (by simpa using hl) (fun j v p hv hq=>hp (j+1) v p hv hq) h;refine ⟨A',?_,r2⟩;unfold Instr.fill;simp only [gB];rw [if_neg (by simp [dR];omega)];exact r1
   ·cases h
def ah.parts (s:ah) (ps:Array (Nat×Operand)):List (Nat×FV):=ps.toList.map fun p=>(p.1,s.ev p.2)
theorem FR.parts (h:FR c.N w0 J s a w β) (ps:Array (Nat×Operand)) {place:Nat→Option (Nat×Nat)} {cs eV : List FV} {A:Array Value} (hA:aS w (aF J w β s) A.toList cs) (hf:Vo place cs (s.parts ps)=some eV) :
  ∃ A',Instr.fill place A (ps.map fun (i,x)=>(i,a.eval x)).toList=some A'∧aS w (aF J w β s) A'.toList eV:=by
 have bQ:∀ (l:List (Nat×FV)) (cs eV : List FV),Vo place cs l=some eV→∀ p∈l,p.2.hand=none:=by
  intro l
  induction l with
  | nil => intro _ _ _ p hp; simp at hp
  | cons q l ih=>
   intro cs eV hq p hp;obtain ⟨i,f⟩:=q;unfold Vo at hq;cases gB:place i with
   | none => rw [gB] at hq; cases hq
   | some z=>
    rw [gB] at hq;dsimp only at hq;split at hq
    ·rename_i hc;rcases zA.1 hp with e|e
     ·subst e;exact Rd.oc hc.1
     ·exact ih _ _ hq p e
    ·cases hq
 refine zom place (s.parts ps) _ A cs eV hA (by simp [ah.parts]) (fun j v p hv hp=>?_) hf;have Bp:=zG hp;simp only [ah.parts,ye,Option.map_eq_some_iff] at hp;obtain ⟨q,hq,rfl⟩:=hp;have nh : (ps.toList.map fun p=>(p.1,a.eval p.2))[j]? = some v:=by simpa using hv
 simp only [ye,hq,Za,yw] at nh;subst nh;exact ⟨rfl,h.bY rfl (bQ _ _ _ hf _ Bp)⟩
theorem zpP (h:FR c.N w0 J s a w β) {T:Nat} (hT:(c.ty T).k=.aQ fs) (iY:∀ p∈fs,(c.ty p.2).k≠.other) (ps:Array (Nat×Operand)) {cs:List FV}
  (hf:Vo (fun i=>(fs[i]?).map fun p=>(p.1,(c.ty p.2).size)) (c.ty T).zero (s.parts ps)=some cs):ZO c w0 J s a ⟨dst,.build T ps,ty,pos,after,g⟩ w (.agg cs) []:=by
 obtain ⟨d,i,z,ht⟩:=c.get hT zc;have hd:=ht.k;rw [hT] at hd;obtain ⟨gs,rfl,pz,_⟩:=WV hd;obtain ⟨A',h1,h2⟩:=h.parts ps (A:=z.cells) (aS.zeros ht.zr) hf;have hp:gs.toList.mapM (fun f=>(c.P.info? f.type).map fun i=>(f.offset,i.size))=some (gs.toList.map fun f=>(f.offset,(c.ty f.type).size)):=by
  have key:∀ (l:List Field),(∀ f∈l,(c.ty f.type).k≠.other)→l.mapM (fun f=>(c.P.info? f.type).map fun i=>(f.offset,i.size))=some (l.map fun f=>(f.offset,(c.ty f.type).size)):=by
   intro l
   induction l with
   | nil => intro _; rfl
   | cons f l ih =>
    intro hl;obtain ⟨d',i',z',cS⟩:=c.get rfl (hl f zc);simp only [HB,cS.info,Za,KN,Yb,ih (fun f hf=>hl f (by simp [hf])),KO,cS.size,zZ]
  refine key _ (fun f hf=>iY (f.offset,f.type) ?_);rw [pz];exact zi.2 ⟨f,hf,rfl⟩
 have hb:c.P.built T (ps.map fun (i,x)=>(i,a.eval x)).toList=some A':=by
  unfold Program.built;simp only [ht.info,ht.u,ht.zo,hp];rw [← h1];congr 1;funext i;rw [pz];simp [Function.comp_def]
 refine .rd h (v:=.agg A') (by simp only [execOp,xy,run_build w T _ A' hb,Vg,Xs]) ?_ rfl;have:=Rd.agg (w:=w) (I:=aF J w β s) A'.toList cs h2.1 h2.2;simpa using this
theorem zm8 (h:FR c.N w0 J s a w β) {T e:Nat} (hT:(c.ty T).k=.arr n e) (he:(c.ty e).k≠.other) (ps:Array (Nat×Operand)) {cs:List FV}
  (hf:Vo (fun i=>some (i * (c.ty e).size,(c.ty e).size)) (c.ty T).zero (s.parts ps)=some cs):ZO c w0 J s a ⟨dst,.build T ps,ty,pos,after,g⟩ w (.agg cs) []:=by
 obtain ⟨d,i,z,ht⟩:=c.get hT zc;have hd:=ht.k;rw [hT] at hd;obtain rfl:=Rc hd;obtain ⟨A',h1,h2⟩:=h.parts ps (A:=z.cells) (aS.zeros ht.zr) hf;obtain ⟨d',i',z',cS⟩:=c.get rfl he;have hb:c.P.built T (ps.map fun (i,x)=>(i,a.eval x)).toList=some A':=by
  unfold Program.built;simp only [ht.info,ht.u,ht.zo,cS.info,cS.size];exact h1
 refine .rd h (v:=.agg A') (by simp only [execOp,xy,run_build w T _ A' hb,Vg,Xs]) ?_ rfl;have:=Rd.agg (w:=w) (I:=aF J w β s) A'.toList cs h2.1 h2.2;simpa using this
theorem aS.sv {w:World} (us:List Value):aS w I us (List.replicate us.length .undef):=by
 refine ⟨by simp,fun j u f hu hf=>?_⟩;rw [List.getElem?_replicate] at hf;split at hf
 ·injection hf with hf;subst hf;exact .undef u
 ·cases hf
theorem W9 (h:FR c.N w0 J s a w β) {o:Oper} (d E sz:Nat) (es:List (List FV)) (cur:Array Value) (hw:∀ e∈es,e.length=sz) (ho:∀ f∈es.flatten,f.one=true) (hr:aS w (aF J w β s) cur.toList es.flatten) (hm:es.length≤maxLen)
  (bg:(execOp a.eval o).run c.P w=.ok (.value (.slice (some ⟨w.heap.size,0,none⟩) es.length es.length)) (w.alloc (.cells cur E))) :
  ZO c w0 J s a o w (.own d ((s.ob d).ae+1) 0 es.length) [(d,⟨(s.ob d).ae+1,.own,E,sz,es⟩)]:=by
 obtain ⟨h1,h2⟩:=h.newRow d E sz es cur hw ho hr hm;refine ⟨_,_,_,bg,h1,fun _ _=>?_,fun id ae e=>?_⟩
 ·show fh _ (WX β d (some w.heap.size) d) (ah.ob (ah.set s d _) d) _ _ _;rw [yM,ah.ay,if_pos rfl];exact fh.gX h2 rfl rfl rfl rfl
 ·simp only [FV.hands,zq,xf] at e;obtain ⟨e1,e2⟩:=e;replace e1:=e1.symm;replace e2:=e2.symm;subst e1;subst e2;show _≤(ah.ob (ah.set s d _) d).ae;rw [ah.ay,if_pos rfl];exact zg _
theorem zgl (h:FR c.N w0 J s a w β) (d:Nat) {T e:Nat} (hT:(c.ty T).k=.slice e) (he:(c.ty e).k≠.other) (ps:Array (Nat×Operand)) (es:List (List FV)) (hn:es.length=n) (hw:∀ x∈es,x.length=(c.ty e).size) (ho:∀ f∈es.flatten,f.one=true)
  (dB:n * (c.ty e).size≤16777216) (kW:n≤16777216)
  (hf:Vo (fun i=>some (i * (c.ty e).size,(c.ty e).size)) (List.replicate (n * (c.ty e).size) .undef) (s.parts ps)=some es.flatten) :
  ZO c w0 J s a ⟨some d,.buildSlice T n ps,ty,pos,after,g⟩ w (.own d ((s.ob d).ae+1) 0 n) [(d,⟨(s.ob d).ae+1,.own,e,(c.ty e).size,es⟩)]:=by
 obtain ⟨dd,i,z,ht⟩:=c.get hT zc;have hd:=ht.k;rw [hT] at hd;obtain rfl:=xJ hd;have hs:=ZK (c:=c) he w;obtain ⟨zz,hz,_,_⟩:=ZX he w;obtain ⟨A0,iU⟩:∃ A0:Array Value,(if n * (c.ty e).size=0 then (Array.range (n * (c.ty e).size)).map (fun x=>(#[]:Array Value)[x % (#[]:Array Value).size]!) else (Array.range (n * (c.ty e).size)).map (fun x=>zz.cells[x % zz.cells.size]!))=A0:=⟨_,rfl⟩
 have aY:A0.size=n * (c.ty e).size:=by rw [← iU];split <;> simp
 have hu:=aS.sv (w:=w) (I:=aF J w β s) A0.toList;rw [LS,aY] at hu;obtain ⟨A',h1,h2⟩:=h.parts ps hu hf;subst hn;refine W9 h d e (c.ty e).size es A' hw ho h2 (by unfold maxLen;omega) ?_;have oH : ¬ (16777216<es.length * (c.ty e).size):=by omega
 by_cases h0:es.length * (c.ty e).size=0
 ·rw [if_pos h0] at iU;simp [execOp,Instr.buildSlice,run_underlying ht.u,hs,h0,newRow] at iU h1 ⊢;rw [iU,h1];simp
 ·rw [if_neg h0] at iU;simp [execOp,Instr.buildSlice,run_underlying ht.u,hs,oH,h0,hz,newRow,iU] at h1 ⊢;rw [h1];simp
theorem zhP (h:FR c.N w0 J s a w β) {o:Oper} (E sz:Nat) (es:List (List FV)) (cur:Array Value) (hw:∀ e∈es,e.length=sz) (ho:∀ f∈es.flatten,f.one=true) (hr:aS w (aF J w β s) cur.toList es.flatten)
  (bg:(execOp a.eval o).run c.P w=.ok (.value (.slice (some ⟨w.heap.size,0,none⟩) es.length es.length)) (w.alloc (.cells cur E))):ZO c w0 J s a o w (.list sz es) []:=by
 have hb:Below w.heap.size w (w.alloc (.cells cur E)):=(Zc _ _).alloc (zg _) _;have hG:=h.grow hb;refine ⟨_,_,β,bg,hG,?_,fun _ _ e=>(FV.aV rfl e).elim⟩;refine VR.aX (Rd.list (some ⟨w.heap.size,0,none⟩) es.length es.length sz es cur.toList rfl (zg _) hw ho (fun _=>⟨w.heap.size,0,rfl,⟨?_,h.fresh _ h.bB.size (.inl (zg _)),fun id hl e=>?_⟩,fun j u hu=>?_⟩) hr.1 (fun j u f hu hf=>(hr.2 j u f hu hf).mono fun b aU=>aU.grow hb)) rfl
 ·show w.heap.size<(w.heap.push _).size;simp
 ·have:=((h.obj id (Zn.bc hl)).lt e).2;omega
 ·have bp:(w.alloc (.cells cur E)).heap[w.heap.size]? = some (.cells cur E (0,0)):=by show (w.heap.push _)[w.heap.size]? = _;simp
  rw [cell_of_row _ w.heap.size _ cur E (0,0) bp];simpa using hu
theorem zeL (h:FR c.N w0 J s a w β) (d:Nat) {T e:Nat} (hT:(c.ty T).k=.slice e) (he:(c.ty e).k≠.other) (ps:Array (Nat×Operand)) (es:List (List FV)) (hn:es.length=n) (hw:∀ x∈es,x.length=(c.ty e).size) (ho:∀ f∈es.flatten,f.one=true)
  (dB:n * (c.ty e).size≤16777216) (kW:n≤16777216)
  (hf:Vo (fun i=>some (i * (c.ty e).size,(c.ty e).size)) (List.replicate (n * (c.ty e).size) .undef) (s.parts ps)=some es.flatten) :
  ZO c w0 J s a ⟨some d,.buildSlice T n ps,ty,pos,after,g⟩ w (.list (c.ty e).size es) []:=by
 obtain ⟨dd,i,z,ht⟩:=c.get hT zc;have hd:=ht.k;rw [hT] at hd;obtain rfl:=xJ hd;have hs:=ZK (c:=c) he w;obtain ⟨zz,hz,_,_⟩:=ZX he w;obtain ⟨A0,iU⟩:∃ A0:Array Value,(if n * (c.ty e).size=0 then (Array.range (n * (c.ty e).size)).map (fun x=>(#[]:Array Value)[x % (#[]:Array Value).size]!) else (Array.range (n * (c.ty e).size)).map (fun x=>zz.cells[x % zz.cells.size]!))=A0:=⟨_,rfl⟩
 have aY:A0.size=n * (c.ty e).size:=by rw [← iU];split <;> simp
 have hu:=aS.sv (w:=w) (I:=aF J w β s) A0.toList;rw [LS,aY] at hu;obtain ⟨A',h1,h2⟩:=h.parts ps hu hf;subst hn;refine zhP h e (c.ty e).size es A' hw ho h2 ?_;have oH : ¬ (16777216<es.length * (c.ty e).size):=by omega
 by_cases h0:es.length * (c.ty e).size=0
 ·rw [if_pos h0] at iU;simp [execOp,Instr.buildSlice,run_underlying ht.u,hs,h0,newRow] at iU h1 ⊢;rw [iU,h1];simp
 ·rw [if_neg h0] at iU;simp [execOp,Instr.buildSlice,run_underlying ht.u,hs,oH,h0,hz,newRow,iU] at h1 ⊢;rw [h1];simp
theorem Wq {α:Type} {sz:Nat}:∀ (es:List (List α)),(∀ e∈es,e.length=sz)→∀ k,(es.take k).flatten=es.flatten.take (k * sz)
 | [], _, k => by simp
 | e :: es, he, 0 => by simp
 | e :: es, he, k+1 => by
  have h1:=he e zc;rw [List.take_succ_cons,xF,xF,Wq es (fun x hx=>he x (by simp [hx])) k,yu,Ut,Uo,← h1,zkJ]
theorem Xl {α:Type} {sz:Nat}:∀ (es:List (List α)),(∀ e∈es,e.length=sz)→∀ k,(es.drop k).flatten=es.flatten.drop (k * sz)
 | [], _, k => by simp
 | e :: es, he, 0 => by simp
 | e :: es, he, k+1 => by
  have h1:=he e zc;rw [List.drop_succ_cons,xF,Xl es (fun x hx=>he x (by simp [hx])) k,yu,Ut,Uo,← h1,znV]
theorem zhO (h:FR c.N w0 J s a w β) (d:Nat) {T e:Nat} (hT:(c.ty T).k=.slice e) (he:(c.ty e).k≠.other) (x y:Operand) {k1:IntKind} (ex:s.ev x=.int k1 n) (ey:s.ev y=.int k2 n) (ho:(c.ty e).zero.all FV.one=true)
  (hb:(c.ty e).bytes * n≤281474976710656) (hn:n≤281474976710656) :
  ZO c w0 J s a ⟨some d,.makeSlice T x y,ty,pos,after,g⟩ w (.own d ((s.ob d).ae+1) 0 n) [(d,⟨(s.ob d).ae+1,.own,e,(c.ty e).size,List.replicate n (c.ty e).zero⟩)]:=by
 obtain ⟨dd,i,z,ht⟩:=c.get hT zc;have hd:=ht.k;rw [hT] at hd;obtain rfl:=xJ hd;obtain ⟨d',i',z',cS⟩:=c.get rfl he;have ff:(i'.bytes:Int) * (n:Int)≤281474976710656:=by
  have:((i'.bytes * n:Nat):Int)≤281474976710656:=by rw [cS.bytes];omega
  rwa [Int.natCast_mul] at this
 have hr:=run_make (P:=c.P) w T e i' z' ht.u cS.info cS.zo k1 k2 n n za (XR _) ff za;simp only [zK] at hr;have lH:=(aS.zeros (w:=w) (I:=aF J w β s) cS.zr)
 have nZ:z'.cells.size=(c.ty e).size:=by have:=lH.1;rw [cS.zl] at this;simpa using this
 have hlen:(List.replicate n (c.ty e).zero).length=n:=by simp
 have hg:=W9 h (o:=⟨some d,.makeSlice T x y,ty,pos,after,g⟩) d e (c.ty e).size (List.replicate n (c.ty e).zero) (madeCells z'.cells (n * i'.size)) (fun x hx=>by rw [Xt hx,cS.zl]) (fun f hf=>by
   obtain ⟨q,hq,vS⟩:=yJ.1 hf;rw [Xt hq] at vS;exact zL.1 ho f vS) ⟨?_,?_⟩ (by rw [hlen];unfold maxLen;omega) (by
    rw [hlen];simp only [execOp,h.bV ex,h.bV ey,xy,hr,Vg,Xs])
 ·rwa [hlen] at hg
 ·rw [xD (sz:=(c.ty e).size) (fun x hx=>by rw [Xt hx,cS.zl]),hlen];simp [madeCells,cS.size]
 ·intro j u f hu hf;rw [cS.size] at hu;have hj:j<n * (c.ty e).size:=by
   have:=(yq.1 hu).1;simpa [madeCells] using this
  have T4:0<(c.ty e).size:=by
   rcases Yv (c.ty e).size with h0|h0
   ·rw [h0] at hj;simp at hj
   ·exact h0
  have N8:=Xr j T4;have OO : z'.cells.toList[j % (c.ty e).size]? = some u:=by
   have e1:(madeCells z'.cells (n * (c.ty e).size)).toList[j]? = some (z'.cells[j % z'.cells.size]!):=by
    simp [madeCells,hj]
   rw [e1] at hu;injection hu with hu
   rw [nZ] at hu;rw [← hu];have aA:j % (c.ty e).size<z'.cells.size:=by omega
   simp [aA]
  have bS : (c.ty e).zero[j % (c.ty e).size]? = some f:=by
   have key:∀ (m q r:Nat),r<(c.ty e).size→q<m→(List.replicate m (c.ty e).zero).flatten[q * (c.ty e).size+r]? = (c.ty e).zero[r]?:=by
    intro m q r hr hq;have hw:∀ x∈List.replicate m (c.ty e).zero,x.length=(c.ty e).size:=fun x hx=>by rw [Xt hx,cS.zl]
    have:=HI _ hw q r (by simpa using hq) za;have h2:((List.replicate m (c.ty e).zero).flatten.drop (q * (c.ty e).size+r))[0]? = (c.ty e).zero[r]?:=by
     rw [this,yz,List.getElem?_replicate,if_pos hq,Zy,xO (by rw [XZ,cS.zl];omega),YE,ZZ]
    rwa [YE,ZZ] at h2
   have qu:=P9 j (c.ty e).size;rw [Nat.mul_comm] at qu;rw [← key n (j / (c.ty e).size) (j % (c.ty e).size) N8 (by rw [Nat.div_lt_iff_lt_mul T4];exact hj),qu];exact hf
  exact lH.2 _ u f OO bS
def zx9 (a:Act):Option Operand→Nat→Prop
 | none, l => l=0
 | some y, l => ∃ k, a.eval y=.int k (l:Nat)
def zx7 (a:Act):Option Operand→Nat→Nat→Prop
 | none, m, u => u=m
 | some y, _, u => ∃ k, a.eval y=.int k (u:Nat)
theorem QR {T e:Nat} (hT:(c.ty T).k=.slice e) (he:(c.ty e).k≠.other) (x:Operand) (lo hi:Option Operand) {m u:Nat} (ex:a.eval x=.slice A m cc)
  (gA:zx9 a lo l) (gz:zx7 a hi m u) (h1:l≤u) (h2:u≤cc) :
  (execOp a.eval ⟨dst,.slice T x lo hi none,ty,pos,after,g⟩).run c.P w=.ok (.value (.slice (if cc=l then A else A.map (·.add (l * (c.ty e).size))) (u - l) (cc - l))) w:=by
 obtain ⟨dd,i,z,ht⟩:=c.get hT zc;have hd:=ht.k;rw [hT] at hd;obtain rfl:=xJ hd;have hs:=ZK (c:=c) he w;cases lo with
 | none=>
  change l=0 at gA;subst gA;cases hi with
  | none =>
   change u=m at gz;subst gz;simp [execOp,Instr.sliceAt,Instr.slice,Instr.sliceBounds,run_underlying ht.u,ex,hs]
  | some y =>
   obtain ⟨k,hk⟩:=gz;simp [execOp,Instr.sliceAt,Instr.slice,Instr.sliceBounds,Instr.sliceBound,asIntOf,run_underlying ht.u,ex,hs,hk,h2]
 | some z=>
  obtain ⟨k',ee⟩:=gA;cases hi with
  | none =>
   change u=m at gz;subst gz;simp [execOp,Instr.sliceAt,Instr.slice,Instr.sliceBounds,Instr.sliceBound,asIntOf,run_underlying ht.u,ex,hs,ee,h1]
  | some y =>
   obtain ⟨k,hk⟩:=gz;simp [execOp,Instr.sliceAt,Instr.slice,Instr.sliceBounds,Instr.sliceBound,asIntOf,run_underlying ht.u,ex,hs,hk,ee,h1,h2]
end
section
variable {c:Ctx} {w0 w:World} {J:JJ} {s:ah} {a:Act} {β:Nat→Option Nat} {dst:Option Nat} {ty:TypeId} {pos:String} {after:Array Edge} {g:Option (Nat×Bool)}
def ah.lo (s:ah):Option Operand→Nat→Prop
 | none, l => l=0
 | some y, l => ∃ k, s.ev y=.int k (l:Nat)
def ah.hi (s:ah):Option Operand→Nat→Nat→Prop
 | none, m, u => u=m
 | some y, _, u => ∃ k, s.ev y=.int k (u:Nat)
theorem FR.lo (h:FR c.N w0 J s a w β) {lo:Option Operand} (hl:s.lo lo l):zx9 a lo l:=by
 cases lo with
 | none => exact hl
 | some y => obtain ⟨k, hk⟩ := hl; exact ⟨k, h.bV hk⟩
theorem FR.hi (h:FR c.N w0 J s a w β) {hi:Option Operand} {m u:Nat} (hl:s.hi hi m u):zx7 a hi m u:=by
 cases hi with
 | none => exact hl
 | some y => obtain ⟨k, hk⟩ := hl; exact ⟨k, h.bV hk⟩
theorem zhR (h:FR c.N w0 J s a w β) {T e:Nat} (hT:(c.ty T).k=.slice e) (he:(c.ty e).k≠.other) (x:Operand) (lo hi:Option Operand) {id ae o m u:Nat} (ex:s.ev x=.own id ae o m) (hl:s.live id ae) (aY:(c.ty e).size=(s.ob id).sz)
  (gA:s.lo lo l) (gz:s.hi hi m u) (h1:l≤u) (h2:u≤m):ZO c w0 J s a ⟨dst,.slice T x lo hi none,ty,pos,after,g⟩ w (.own id ae (o+l) (u - l)) []:=by
 have bK:=(h.cj ex hl.1 hl.2).row;obtain ⟨A,cc,e1,e2,e3,e4,e5⟩:=(h.cj ex hl.1 hl.2).ex;have hr:=QR (c:=c) (w:=w) (dst:=dst) (ty:=ty) (pos:=pos) (after:=after) (g:=g) hT he x lo hi e1 (h.lo gA) (h.hi gz) h1 za;refine .pure h hr (fun _ _=>⟨bK,_,_,rfl,by omega,by omega,fun hb=>?_,fun b hb=>?_⟩) (fun aL br e=>h.cg x (by rw [ex];exact e))
 ·obtain ⟨rfl,rfl⟩:=e4 hb;obtain rfl:l=0:=by omega
  simp
 ·obtain ⟨o',rfl,k2,k3⟩:=e5 b hb;by_cases ch:cc=l
  ·rw [if_pos ch];refine ⟨o',rfl,fun nR=>?_,fun cur hc=>?_⟩
   ·rcases nR with nR|nR
    ·omega
    ·have:o=0:=by omega
     have hl0:l=0:=by omega
     rw [k2 (.inr this),this,hl0]
   ·rw [k3 cur hc];congr 1;omega
  ·rw [if_neg ch];have:=k2 (.inl za);subst this;refine ⟨(o+l) * (s.ob id).sz,by rw [aY];simp [ZD,yu],fun _=>rfl,fun cur hc=>?_⟩;rw [k3 cur hc];congr 1;omega
theorem zgr (h:FR c.N w0 J s a w β) {T e:Nat} (hT:(c.ty T).k=.slice e) (he:(c.ty e).k≠.other) (x:Operand) (lo hi:Option Operand) {sz u:Nat} {es:List (List FV)} (ex:s.ev x=.list sz es) (aY:(c.ty e).size=sz)
  (gA:s.lo lo l) (gz:s.hi hi es.length u) (h1:l≤u) (h2:u≤es.length):ZO c w0 J s a ⟨dst,.slice T x lo hi none,ty,pos,after,g⟩ w (.list sz ((es.drop l).take (u - l))) []:=by
 have hr:=h.bY ex rfl;generalize hx:a.eval x=v at hr;cases hr with
 | list A m cc sz es us hn hc hw ho hA hl qB=>
  subst hn;have bg:=QR (c:=c) (w:=w) (dst:=dst) (ty:=ty) (pos:=pos) (after:=after) (g:=g) hT he x lo hi hx (h.lo gA) (h.hi gz) h1 za;have k6:∀ e∈es.drop l,e.length=sz:=fun e he=>hw e (Zv he);have cu:((es.drop l).take (u - l)).flatten=(es.flatten.drop (l * sz)).take ((u - l) * sz):=by rw [Wq _ k6,Xl _ hw]
  have hR:aS w (aF J w β s) ((us.drop (l * sz)).take ((u - l) * sz)) ((es.drop l).take (u - l)).flatten:=by
   rw [cu];exact (aS.drop ⟨hl,qB⟩ _).take _
  refine .rd h bg (.list _ _ _ sz _ ((us.drop (l * sz)).take ((u - l) * sz)) zM za (fun e he=>k6 e (xn he)) (fun f hf=>?_) (fun h0=>?_) hR.1 hR.2) rfl
  ·rw [cu] at hf;exact ho f (Zv (xn hf))
  ·obtain ⟨b,off,rfl,hI,aI⟩:=hA za;rw [if_neg za];refine ⟨b,off+l * sz,by rw [aY];simp [ZD],hI,fun j u' hu=>?_⟩;rw [xG] at hu;split at hu
   ·rw [YE] at hu;have:=aI _ u' hu;rwa [show off+(l * sz+j)=off+l * sz+j by omega] at this
   ·cases hu
theorem zhQ (h:FR c.N w0 J s a w β) {T e:Nat} (hT:(c.ty T).k=.slice e) (he:(c.ty e).k≠.other) (x:Operand) (lo hi:Option Operand) (ex:s.ev x=.nil)
  (gA:s.lo lo 0) (gz:s.hi hi 0 0):ZO c w0 J s a ⟨dst,.slice T x lo hi none,ty,pos,after,g⟩ w .nil []:=by
 have bg:=QR (c:=c) (w:=w) (dst:=dst) (ty:=ty) (pos:=pos) (after:=after) (g:=g) hT he x lo hi (h.fp ex) (h.lo gA) (h.hi gz) (zg _) (zg _);exact .rd h bg (by simpa using Rd.nil) rfl
theorem zlk (h:FR c.N w0 J s a w β) (x:Operand) {i:Nat} {fs:List FV} {f:FV} (ex:s.ev x=.bd fs) (hf:fs[i]? = some f) (hn:f.hand=none):ZO c w0 J s a ⟨dst,.extract x i,ty,pos,after,g⟩ w f []:=by
 have hr:=h.bY ex rfl;generalize hx:a.eval x=v at hr;cases hr with
 | bd us fs hl hr =>
  have hi:i<us.length:=by rw [hl];exact (yq.1 hf).1
  have hu:us[i]? = some us[i]:=by simp [hi]
  exact .rd h (v:=us[i]) (by simp [execOp,Instr.extract,hx,hu]) (hr i _ f hu hf) hn
theorem zd6 (h:FR c.N w0 J s a w β) (x:Operand) {id ae i o:Nat} (ex:s.ev x=.ptr id ae i o) (hl:s.live id ae):ZO c w0 J s a ⟨dst,.nilCheck x,ty,pos,after,g⟩ w (.ptr id ae i o) []:=by
 obtain ⟨_,b,hb,hv⟩:=h.dA ex hl.1 hl.2;refine .pure h (v:=a.eval x) (by simp [execOp,hv]) ?_ (fun aL br e=>h.cg x (by rw [ex];exact e));have:=h.ev x;rwa [ex] at this
theorem zdn (h:FR c.N w0 J s a w β) (x:Operand) {sz i o:Nat} {es:List (List FV)} (ex:s.ev x=.ax sz es i o):ZO c w0 J s a ⟨dst,.nilCheck x,ty,pos,after,g⟩ w (.ax sz es i o) []:=by
 obtain ⟨b,off,us,hv,_⟩:=h.iQ ex;refine .rd h (v:=a.eval x) (by simp [execOp,hv]) (h.bY ex rfl) rfl
inductive Src (s:ah):FV→Nat→List (List FV)→Prop where
 | nil (sz:Nat):Src s .nil sz []
 | list (sz:Nat) (es:List (List FV)):Src s (.list sz es) sz es
 | own (id ae o n:Nat) (hl:s.live id ae) (bK:(s.ob id).ao.row=true):Src s (.own id ae o n) (s.ob id).sz (((s.ob id).es.drop o).take n)
theorem FR.src (h:FR c.N w0 J s a w β) {f:FV} {sz:Nat} {es:List (List FV)} (ex:s.ev x=f) (hs:Src s f sz es):(∀ e∈es,e.length=sz)∧(∀ f∈es.flatten,f.one=true)∧
  ∃ A cc us,a.eval x=.slice A es.length cc∧es.length≤cc∧aS w (aF J w β s) us es.flatten∧(A=none→us=[]∧es=[])∧(∀ ad,A=some ad→∀ (j:Nat) u,us[j]? = some u→w.cell? (ad.add j)=some u):=by
 cases hs with
 | nil sz => exact ⟨by simp, by simp, none, 0, [], h.fp ex, zg _, aS.nil, fun _ => ⟨rfl, rfl⟩, fun _ e => by cases e⟩
 | list sz es=>
  have hr:=h.bY ex rfl;generalize hx:a.eval x=v at hr;cases hr with
  | list A m cc sz es us hn hc hw ho hA hl qB=>
   subst hn;refine ⟨hw,ho,A,cc,us,rfl,hc,⟨hl,qB⟩,fun iU=>?_,fun ad vL j u hu=>?_⟩
   ·have:es.length=0:=by
     rcases Yv es.length with h0|h0
     ·exact h0
     ·obtain ⟨b,off,e,_⟩:=hA za;rw [iU] at e;cases e
    have:es=[]:=BX this;subst this;exact ⟨by simpa using hl,rfl⟩
   ·have h0:es.length≠0:=fun h0=>by
     have:es=[]:=BX h0;subst this;have:us=[]:=by simpa using hl
     subst this;simp at hu
    obtain ⟨b,off,e,_,aI⟩:=hA h0;rw [vL] at e;injection e with e
    subst e;rw [ZD];exact aI j u hu
 | own id ae o n hl bK=>
  obtain ⟨A,cc,e1,e2,e3,e4,e5⟩:=(h.cj ex hl.1 hl.2).ex;have hw:=((h.obj id hl.1).bM bK).wide;have bQ:=((h.obj id hl.1).bM bK).one;have k6:∀ e∈(s.ob id).es.drop o,e.length=(s.ob id).sz:=fun e he=>hw e (Zv he);have hlen:(((s.ob id).es.drop o).take n).length=n:=by simp;omega
  have cu:(((s.ob id).es.drop o).take n).flatten=((s.ob id).es.flatten.drop (o * (s.ob id).sz)).take (n * (s.ob id).sz):=by rw [Wq _ k6,Xl _ hw]
  refine ⟨fun e he=>k6 e (xn he),fun f hf=>by rw [cu] at hf;exact bQ f (Zv (xn hf)),?_⟩;cases hb:β id with
  | none =>
   obtain ⟨rfl,rfl⟩:=e4 hb;obtain rfl:n=0:=by omega
   exact ⟨none,0,[],by simpa using e1,by simp,by simpa using aS.nil,fun _=>⟨rfl,by simp⟩,fun _ e=>by cases e⟩
  | some b=>
   obtain ⟨o',rfl,k2,k3⟩:=e5 b hb;obtain ⟨cur,cap,bp,hn,hm,bk,hr,aj⟩:=h.block hl.1 bK hb;refine ⟨_,cc,((cur.toList.take ((s.ob id).es.length * (s.ob id).sz)).drop (o * (s.ob id).sz)).take (n * (s.ob id).sz),by rw [hlen];exact e1,by omega,by rw [cu];exact (hr.drop _).take _,(fun e=>by cases e),fun ad vL j u hu=>?_⟩;injection vL with vL
   subst vL;rw [ZD,cell_of_row w b _ cur _ (0,0) bp];rw [xG] at hu;split at hu
   ·rename_i hj;have ja:n≠0:=by rintro rfl;simp at hj
    have:=k2 (.inl za);subst this;rw [YE,xG] at hu;split at hu
    ·simpa using hu
    ·cases hu
   ·cases hu
inductive pa (s:ah):FV→Nat→List (List FV)→Option Nat→Prop where
 | nil (sz:Nat):pa s .nil sz [] none
 | own (id ae:Nat) (hl:(s.ob id).ao=.own) (hv:(s.ob id).ae=ae) (n:Nat) (hn:n=(s.ob id).es.length):pa s (.own id ae 0 n) (s.ob id).sz (s.ob id).es (some id)
def VZ (s:ah) (d:Nat) (E sz:Nat) (es:List (List FV)):Option Nat→List (Nat×zE)
 | none => [(d, ⟨(s.ob d).ae+1, .own, E, sz, es⟩)]
 | some i => [(i, { s.ob i with ao := .dead }), (d, ⟨(s.ob d).ae+1, .own, E, sz, es⟩)]
theorem zfu (P:Program) (t ty:TypeId) (v:Value) (cc:Nat) (w:World):(Builtin.append_ #[t,t] ty #[v,.slice none 0 cc]).run P w=(Builtin.append_ #[t,t] ty #[v,.slice none 0 0]).run P w:=rfl
theorem zgk (h:FR c.N w0 J s a w β) (d:Nat) {T e:Nat} (hT:(c.ty T).k=.slice e) (he:(c.ty e).k≠.other) (bm:0<(c.ty e).size) (x y:Operand) {f1 f2:FV} {c6 aG:List (List FV)} {i:Option Nat} (ex:s.ev x=f1) (ey:s.ev y=f2)
  (h1:pa s f1 (c.ty e).size c6 i) (hE:∀ k,i=some k→(s.ob k).E=e) (h2:Src s f2 (c.ty e).size aG) (hb:(c6.length+aG.length) * (c.ty e).bytes≤140737488355328) (hm:c6.length+aG.length≤140737488355328) :
  ZO c w0 J s a ⟨some d,.call { callee:=.builtin .append,args:=#[x,y],argTypes:=#[T,T] },ty,pos,after,g⟩ w (.own d ((s.ob d).ae+1) 0 (c6++aG).length) (VZ s d e (c.ty e).size (c6++aG) i):=by
 obtain ⟨dd,ii,z,ht⟩:=c.get hT zc;have hd:=ht.k;rw [hT] at hd;obtain rfl:=xJ hd;obtain ⟨d',i',z',cS⟩:=c.get rfl he;have pR:z'.cells.size=(c.ty e).size:=by
  have:=(aS.zeros (w:=w) (I:=aF J w β s) cS.zr).1;rw [cS.zl] at this;simpa using this
 obtain ⟨ew,jX,A2,c2,eD,hy,nH,fb,Au,eg⟩:=h.src ey h2;obtain ⟨v1,h9,GL,mE,pJ,eK,lF,l8⟩:∃ v1 h9,a.eval x=v1∧w.ownsRow w0.heap.size e (c.ty e).size v1 c6.length h9∧aS w (aF J w β s) h9 c6.flatten∧(∀ q∈c6,q.length=(c.ty e).size)∧(∀ f∈c6.flatten,f.one=true)∧v1.ownBlock=i.bind β:=by
  generalize aY:(c.ty e).size=sz at h1 ⊢;cases h1 with
  | nil sz => exact ⟨_, [], h.fp ex, Wj _ _ _ _, aS.nil, by simp, by simp, rfl⟩
  | own id ae hl hv n hn=>
   have au:(s.ob id).ao≠.dead:=by rw [hl];decide
   have S4:=hE id rfl;obtain ⟨A,cc,e1,e2,e3,e4,e5⟩:=(h.cj ex au hv).ex;have bK:(s.ob id).ao.row=true:=by rw [hl];rfl
   obtain ⟨v,us,r1,r2,r3⟩:=((h.obj id au).bM bK).row;have hw:=((h.obj id au).bM bK).wide;have bQ:=((h.obj id au).bM bK).one;rw [S4] at r1;refine ⟨v,us,?_,r1,r3,hw,bQ,r2⟩;rw [e1];rcases r1.2 with ⟨rfl,h0⟩|⟨b,cap,cur,rfl,_,ec,_,_,bk,_⟩
   ·have jt:β id=none:=by rw [← r2];rfl
    obtain ⟨rfl,rfl⟩:=e4 jt;rw [hn,h0]
   ·have jt:β id=some b:=by rw [← r2];rfl
    obtain ⟨o',rfl,k2,k3⟩:=e5 b jt;have:=k3 cur (by rw [S4];exact ec);rw [bk,yh] at this;have AR:cap=cc:=HD (by rw [aY] at bm;exact bm) this;rw [k2 (.inr rfl),AR,hn];simp
 have qA:∀ k,i=some k→(s.ob k).ao=.own:=by
  intro k hk;generalize (c.ty e).size=sz at h1;cases h1 with
  | nil => cases hk
  | own id ae hl hv n hn => injection hk with hk; subst hk; exact hl
 have mv:eD.length=aG.length * (c.ty e).size:=by rw [fb.1,xD ew]
 have Ar:∀ u∈eD,u.oneCell'=true:=by
  intro u hu;obtain ⟨j,hj,rfl⟩:=zU hu;have gT:j<aG.flatten.length:=by rw [← fb.1];exact hj
  exact (fb.2 j _ aG.flatten[j] (by simp [hj]) zc).gH (jX _ (xH gT))
 obtain ⟨v',w',bg,c7,rz,rF⟩:∃ v' w',(Builtin.append_ #[T,T] ty #[v1,.slice A2 aG.length c2]).run c.P w=.ok v' w'∧w'.ownsRow w0.heap.size e (c.ty e).size v' (c6.length+aG.length) (h9++eD)∧w.grownBy w' v1.ownBlock∧
   (v'.ownBlock=v1.ownBlock∨v'.ownBlock=some w.heap.size):=by
  cases hA:A2 with
  | none =>
   obtain ⟨rfl,rfl⟩:=Au hA;rw [HA,zfu];refine ⟨v1,w,run_append_owned_none (P:=c.P) (w:=w) w0.heap.size T ty e i' (c.ty e).size ht.u cS.info v1 c6.length h9 mE,by simpa using mE,⟨rfl,rfl,rfl,zg _,fun _ _ _=>rfl⟩,.inl rfl⟩
  | some ad =>
   obtain ⟨v',w',q1,q2,q3,_,q5⟩:=run_append_own_at (P:=c.P) w w0.heap.size T ty e i' z' (c.ty e).size (c.ty e).bytes ht.u cS.info cS.zo cS.size cS.bytes pR bm v1 c6.length h9 mE ad aG.length c2 eD mv (eg ad hA) Ar (by unfold maxLen;omega) hb h.bB.size;exact ⟨v',w',q1,q2,q3,q5⟩
 have ju:(execOp a.eval ⟨some d,.call { callee:=.builtin .append,args:=#[x,y],argTypes:=#[T,T] },ty,pos,after,g⟩).run c.P w=.ok (.value v') w':=by
  simp [execOp,resolve,invoke,builtin,GL,hy,bg]
 rw [← zN] at c7;have Ax:FR c.N w0 J (s.wr (VZ s d e (c.ty e).size (c6++aG) i)) a w' (WX β d v'.ownBlock):=by
  refine h.make i d (es:=c6++aG) (fun k hk=>by rw [qA k hk];rfl) (by rw [← l8];exact rz) ?_ ?_ c7 ?_ ?_ (fun k=>?_) (fun k=>ah.eO _ _ _)
  ·intro q hq;rcases zC.1 hq with h'|h'
   ·exact eK q h'
   ·exact ew q h'
  ·intro f hf;rw [Xe] at hf;rcases zC.1 hf with h'|h'
   ·exact lF f h'
   ·exact jX f h'
  ·rw [Xe];exact pJ.append fb
  ·rw [← l8];rcases rF with e|e
   ·exact .inl e
   ·exact .inr (.inr ⟨_,e,zg _⟩)
  ·cases i with
   | none =>
    show (ah.set s d _).ob k=_;rw [ah.ay];split
    ·rfl
    ·simp
   | some i=>
    show (ah.set (ah.set s i _) d _).ob k=_;rw [ah.ay,ah.ay];by_cases fR:d=k
    ·rw [if_pos fR,if_pos fR]
    ·rw [if_neg fR,if_neg fR];by_cases dS:i=k
     ·subst dS;simp
     ·rw [if_neg dS,if_neg (by simpa using dS)]
 have fL:(s.wr (VZ s d e (c.ty e).size (c6++aG) i)).ob d=⟨(s.ob d).ae+1,.own,e,(c.ty e).size,c6++aG⟩:=by
  cases i with
  | none => show (ah.set s d _).ob d=_; rw [ah.ay, if_pos rfl]
  | some i => show (ah.set (ah.set s i _) d _).ob d=_; rw [ah.ay, if_pos rfl]
 refine ⟨v',w',_,ju,Ax,fun _ _=>?_,fun id ae e=>?_⟩
 ·rw [fL,yM];exact fh.gX c7 rfl rfl rfl rfl
 ·simp only [FV.hands,zq,xf] at e;obtain ⟨e1,e2⟩:=e;replace e1:=e1.symm;replace e2:=e2.symm;subst e1;subst e2;rw [fL];exact zg _
theorem zli (h:FR c.N w0 J s a w β) (d:Nat) {T e:Nat} (hT:(c.ty T).k=.slice e) (he:(c.ty e).k≠.other) (bm:0<(c.ty e).size) (x y:Operand) {f1 f2:FV} {c6 aG:List (List FV)} {i:Option Nat} (ex:s.ev x=f1) (ey:s.ev y=f2)
  (h1:pa s f1 (c.ty e).size c6 i) (hE:∀ k,i=some k→(s.ob k).E=e) (h2:Src s f2 (c.ty e).size aG) (hb:(c6.length+aG.length) * (c.ty e).bytes≤140737488355328) (hm:c6.length+aG.length≤140737488355328) :
  ZO c w0 J s a ⟨some d,.call { callee:=.builtin .append,args:=#[x,y],argTypes:=#[T,T] },ty,pos,after,g⟩ w (.list (c.ty e).size (c6++aG)) (VZ s d e (c.ty e).size (c6++aG) i++[(d,⟨(s.ob d).ae+1,.dead,e,(c.ty e).size,c6++aG⟩)]):=by
 obtain ⟨v,w',aJ,bg,hF,hV,_⟩:=zgk (ty:=ty) (pos:=pos) (after:=after) (g:=g) h d hT he bm x y ex ey h1 hE h2 hb hm;have fL:(s.wr (VZ s d e (c.ty e).size (c6++aG) i)).ob d=⟨(s.ob d).ae+1,.own,e,(c.ty e).size,c6++aG⟩:=by
  cases i with
  | none => show (ah.set s d _).ob d=_; rw [ah.ay, if_pos rfl]
  | some i => show (ah.set (ah.set s i _) d _).ob d=_; rw [ah.ay, if_pos rfl]
 have k7:s.wr (VZ s d e (c.ty e).size (c6++aG) i++[(d,⟨(s.ob d).ae+1,.dead,e,(c.ty e).size,c6++aG⟩)])=(s.wr (VZ s d e (c.ty e).size (c6++aG) i)).set d ⟨(s.ob d).ae+1,.dead,e,(c.ty e).size,c6++aG⟩:=by
  unfold ah.wr;rw [ZU];rfl
 unfold ZO;rw [k7];generalize s.wr (VZ s d e (c.ty e).size (c6++aG) i)=s1 at hF hV fL ⊢;have hl:(s1.ob d).ao≠.dead:=by rw [fL];exact fun q=>by cases q
 have bK:(s1.ob d).ao.row=true:=by rw [fL];rfl
 obtain ⟨A,cc,e1,e2,e3,e4,e5⟩:=(hV hl (by rw [fL])).ex;have ig:FR c.N w0 J (s1.set d ⟨(s.ob d).ae+1,.dead,e,(c.ty e).size,c6++aG⟩) a w' aJ:=
  hF.mK d .dead (fun q=>by cases q) (fun _=>rfl) (fun q=>absurd rfl q) (fun k=>by rw [ah.ay,fL]) (fun _=>rfl) (fun q=>absurd rfl q)
 have hI:∀ b,aF J w' aJ s1 b→aF J w' aJ (s1.set d ⟨(s.ob d).ae+1,.dead,e,(c.ty e).size,c6++aG⟩) b∧w'.heap[b]? = w'.heap[b]?:=fun b aU=>by
  refine ⟨⟨aU.1,aU.2.1,fun id hq=>?_⟩,rfl⟩;rw [ah.ay] at hq;split at hq
  ·cases hq
  ·exact aU.2.2 id hq
 have hw:=((hF.obj d hl).bM bK).wide;have bQ:=((hF.obj d hl).bM bK).one;rw [fL] at hw bQ;refine ⟨v,w',aJ,bg,ig,?_,fun _ _ q=>(FV.aV rfl q).elim⟩;refine VR.aX ?_ rfl;rw [e1];cases sZ:aJ d with
 | none =>
  obtain ⟨rfl,rfl⟩:=e4 sZ;have ja:(c6++aG).length=0:=by omega
  have mz:c6++aG=[]:=BX ja;exact Rd.list none _ 0 _ _ [] rfl za hw bQ (fun q=>absurd ja q) (by rw [mz];rfl) (fun j u f hu=>by simp at hu)
 | some b=>
  obtain ⟨cur,cap,bp,hn,oM,bk,hr,aj⟩:=hF.block hl bK sZ;obtain ⟨o',rfl,k2,k3⟩:=e5 b sZ;have eJ : o'=0:=by have:=k2 (.inr rfl);rw [Ya] at this;exact this
  subst eJ;rw [fL] at bp bk hr aj hn;have hlen:(c6++aG).flatten.length=(c6++aG).length * (c.ty e).size:=xD hw;refine Rd.list (some ⟨b,0,none⟩) _ cc _ _ (cur.toList.take ((c6++aG).length * (c.ty e).size)) rfl e2 hw bQ (fun _=>⟨b,0,rfl,⟨?_,?_,fun id hq mB=>?_⟩,fun j u hu=>?_⟩) hr.1 (fun j u f hu hf=>(hr.2 j u f hu hf).mono hI)
  ·exact ((hF.obj d hl).lt sZ).2
  ·exact hF.fresh b ((hF.obj d hl).lt sZ).1 (.inr ⟨d,hl,sZ⟩)
  ·rw [ah.ay] at hq;split at hq
   ·cases hq
   ·rename_i aN;exact aN (hF.inj d id b hl (Zn.bc hq) sZ mB)
  ·rw [cell_of_row w' b _ cur _ (0,0) bp];rw [xG] at hu;split at hu
   ·simpa using hu
   ·cases hu
end
end Go.Proofs.YtphidhljdcledaaGreat
