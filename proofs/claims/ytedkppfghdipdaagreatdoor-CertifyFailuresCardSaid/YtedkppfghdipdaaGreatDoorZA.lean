/-
  Lemmas, in parts.
-/
import Derived.WalkKit
import Derived.WalkLawsBesides
import Derived.WalkSpells
import Derived.BigQuiet
import Derived.Deep.QuietTactic
import Derived.Handy
import Derived.Lib.Hide
import Derived.Maps.AppendAt
import Derived.StillTailTactics
import Derived.Deep.Draws
import Derived.Laws.OwnMore
import Derived.Maps.OwnSet
import Derived.Laws.MakeOwn
namespace Go.Proofs.YtedkppfghdipdaaGreatDoor
set_option linter.unusedVariables false
set_option maxHeartbeats 16000000
open Go.RowKit
abbrev Yg:=@Array.ext'
abbrev Yh:=@Array.getD_eq_getD_getElem?
abbrev yQ:=@Array.getElem?_eq_some_iff
abbrev UZ:=@Array.getElem?_modify
abbrev nY:=@Array.getElem?_push
abbrev nZ:=@Array.getElem?_replicate
abbrev pT:=@Array.getElem?_setIfInBounds_ne
abbrev Vp:=@Array.length_toList
abbrev n1:=@Array.toList_push
abbrev YR:=@Below.refl
abbrev zC:=@Bool.and_eq_true
abbrev yU:=@Bool.false_or
abbrev Vi:=@Bool.not_eq_true'
abbrev Vj:=@Bool.or_eq_true
abbrev Xm:=@Bool.or_true
abbrev Xn:=@DataW.trod_lt
abbrev pB:=@Int.tmod_eq_emod_of_nonneg
abbrev Yv:=@Int.toNat_of_nonneg
abbrev zO:=@Lib.hid
abbrev Zg:=@List.all_cons
abbrev zG:=@List.all_eq_true
abbrev Yw:=@List.all_nil
abbrev Yx:=@List.any_eq_true
abbrev zD:=@List.append_assoc
abbrev Zh:=@List.append_nil
abbrev Xo:=@List.cons_ne_nil
abbrev Vk:=@List.contains_eq_mem
abbrev pC:=@List.drop_length_add_append
abbrev Xp:=@List.drop_zero
abbrev xJ:=@List.eq_nil_of_length_eq_zero
abbrev Xq:=@List.eq_of_mem_replicate
abbrev ZK:=@List.filterMap_cons
abbrev ZL:=@List.flatMap_cons
abbrev xK:=@List.flatten_append
abbrev zS:=@List.flatten_cons
abbrev Yy:=@List.getD_cons_zero
abbrev yE:=@List.getD_eq_getElem?_getD
abbrev xo:=@List.getElem?_append_left
abbrev xL:=@List.getElem?_append_right
abbrev yV:=@List.getElem?_drop
abbrev xp:=@List.getElem?_eq_getElem
abbrev zK:=@List.getElem?_eq_some_iff
abbrev yW:=@List.getElem?_map
abbrev Vl:=@List.getElem?_of_mem
abbrev Xr:=@List.getElem?_set
abbrev yr:=@List.getElem?_take
abbrev yt:=@List.getElem_mem
abbrev yu:=@List.getElem_of_mem
abbrev Vm:=@List.getElem_set
abbrev ye:=@List.length_append
abbrev yX:=@List.length_cons
abbrev ZM:=@List.length_drop
abbrev Xs:=@List.length_eq_one_iff
abbrev zx:=@List.length_map
abbrev Vn:=@List.length_nil
abbrev xq:=@List.length_replicate
abbrev ym:=@List.length_set
abbrev zT:=@List.length_take
abbrev xM:=@List.map_append
abbrev Xt:=@List.map_congr_left
abbrev yf:=@List.map_cons
abbrev yJ:=@List.mem_append
abbrev zU:=@List.mem_cons
abbrev Xu:=@List.mem_cons_of_mem
abbrev Zi:=@List.mem_filterMap
abbrev yv:=@List.mem_flatten
abbrev Vo:=@List.mem_iff_getElem
abbrev zM:=@List.mem_map
abbrev zH:=@List.mem_of_getElem?
abbrev yK:=@List.mem_of_mem_drop
abbrev yF:=@List.mem_of_mem_take
abbrev ZN:=@List.mem_or_eq_of_mem_set
abbrev yg:=@List.mem_singleton
abbrev Xv:=@List.nil_append
abbrev Vq:=@List.nodup_cons
abbrev Xw:=@List.pairwise_iff_getElem
abbrev pD:=@List.replicate_append_replicate
abbrev pE:=@List.set_eq_take_append_cons_drop
abbrev Yz:=@List.size_toArray
abbrev YA:=@List.take_append
abbrev Xx:=@List.take_append_of_le_length
abbrev ZO:=@List.take_length
abbrev pF:=@List.take_length_add_append
abbrev ya:=@List.take_of_length_le
abbrev Zj:=@List.take_succ_eq_append_getElem
abbrev YB:=@List.take_take
abbrev yY:=@MapKept.run_getObj_map
abbrev Xy:=@MapKept.run_setObj_map
abbrev Xz:=@Nat.add_assoc
abbrev ZP:=@Nat.add_comm
abbrev zE:=@Nat.add_mul
abbrev xN:=@Nat.add_zero
abbrev XA:=@Nat.eq_of_mul_eq_mul_right
abbrev XB:=@Nat.eq_or_lt_of_le
abbrev XC:=@Nat.eq_zero_or_pos
abbrev yn:=@Nat.le_of_ble_eq_true
abbrev zm:=@Nat.le_refl
abbrev yZ:=@Nat.le_trans
abbrev xO:=@Nat.lt_of_lt_of_le
abbrev xa:=@Nat.lt_or_ge
abbrev yI:=@Nat.min_eq_left
abbrev XR:=@Nat.min_eq_right
abbrev Zt:=@Nat.mul_le_mul_right
abbrev xd:=@Nat.mul_one
abbrev Zu:=@Nat.one_mul
abbrev zR:=@Nat.zero_add
abbrev zN:=@Nat.zero_le
abbrev xy:=@Nat.zero_mul
abbrev xV:=@Oper.upon_skip
abbrev Zv:=@Option.bind_some
abbrev Yt:=@Option.getD_some
abbrev xe:=@Option.map_some
abbrev zI:=@Option.some.injEq
abbrev yi:=@Prod.mk.injEq
abbrev xW:=@Result.andThen_ok
abbrev xf:=@Sem.run_bind
abbrev xg:=@Sem.run_pure
abbrev Yu:=@World.ownsRow_nil
variable {Q:Prop} {B base cc ft i j l n off:Nat} {v:Value} {us xs:List Value} {a:Act} {w w' w0:World} {α:Type} {I I' : Nat→Prop} {β aP : Nat→Option Nat} {dst ax:Option Nat} {b bb:Bool} {d:TypeDesc} {x:Operand} {m:Int} {T2:TypeId} {fs:List (Nat×Nat)} {k2:IntKind} {A:Option Addr}
structure kH (P:Prop):Prop where
 out:P
theorem yG {P:Prop} (h:P) (f:kH P→Q:=by intro h;(repeat (first|refine FW.seq ?_|refine FW.region ?_));exact h.out):Q:=f ⟨h⟩
theorem za {P:Prop} (h:P) (f:kH P→Q:=by intro h;(repeat (first|refine FW.seq ?_|refine FW.region ?_|refine FW.block ?_|refine FW.skip ?_|refine FW.exit ?_|refine FW.gC rfl ?_|refine FW.fz rfl ?_|refine zu.nil ?_|(refine mz ?_;first|refine zu.aj (xj rfl) rfl rfl ?_|refine zu.aj (xz rfl) rfl rfl ?_|(refine UK ?_;first|refine zu.aj (xP rfl rfl rfl (by first|omega|(simp;omega)|(simp;done)) (by first|exact zW (by omega)|rfl) rfl rfl) rfl rfl ?_|refine zu.aj (ZQ rfl rfl rfl rfl rfl (by first|omega|(simp;omega)|(simp;done)) (by first|exact zW (by omega)|rfl) rfl rfl) rfl rfl ?_|refine zu.aj (VY rfl rfl rfl (by decide) (by first|omega|(simp;omega)|(simp;done)) (by first|exact zW (by omega)|rfl) rfl) rfl rfl ?_|refine zu.aj (YC rfl rfl rfl (by decide) rfl rfl (by first|omega|(simp;omega)|(simp;done)) (by first|exact zW (by omega)|rfl) rfl) rfl rfl ?_)|(refine tR ?_;first|refine zu.dU (Ua rfl rfl rfl rfl rfl rfl rfl rfl) rfl ?_|refine zu.dU (xu rfl rfl rfl rfl rfl rfl rfl rfl) rfl ?_|refine zu.dU (sO rfl rfl rfl rfl rfl rfl (by first|omega|(simp;omega)|(simp;done)) (by first|exact zW (by omega)|rfl) rfl rfl) rfl ?_)|(refine tP ?_;first|refine zu.aj (xX rfl rfl rfl rfl rfl) rfl rfl ?_|refine zu.aj (xY rfl rfl rfl rfl rfl rfl (by decide)) rfl rfl ?_)|(refine tQ ?_;first|refine zu.aj (Zx rfl rfl (by first|rfl|exact (Yv (by omega)).symm) rfl rfl rfl (by first|omega|(simp;omega)|(simp;done))) rfl rfl ?_|refine zu.aj (s7 rfl rfl (by first|rfl|exact (Yv (by omega)).symm) rfl rfl rfl (by decide) rfl (by first|omega|(simp;omega)|(simp;done))) rfl rfl ?_)|(refine Wt ?_;first|refine zu.aj (XF rfl rfl) rfl rfl ?_|refine zu.aj (XE rfl rfl) rfl rfl ?_)|(refine XJ ?_;first|refine zu.aj (XW rfl rfl) rfl rfl ?_|refine zu.aj (s6 rfl rfl rfl) rfl rfl ?_|refine zu.aj (n7 rfl rfl) rfl rfl ?_|refine zu.aj (th rfl rfl rfl) rfl rfl ?_|refine zu.aj (VZ rfl rfl) rfl rfl ?_|refine zu.aj (vF rfl rfl) rfl rfl ?_|refine zu.aj (qe rfl rfl) rfl rfl ?_|refine zu.aj (qd rfl rfl) rfl rfl ?_|refine zu.aj (qc rfl rfl (by omega)) rfl rfl ?_|refine zu.aj (n6 rfl rfl (by omega)) rfl rfl ?_)|refine zu.bn (sg rfl) rfl rfl ?_|refine zu.bn (Zl rfl rfl rfl rfl rfl) rfl rfl ?_|refine zu.bn (yh rfl rfl rfl rfl rfl) rfl rfl ?_|refine YK rfl rfl rfl rfl ?_|refine zu.bn (sb rfl rfl rfl rfl) rfl rfl ?_|refine zu.aj (se rfl rfl) rfl rfl ?_|refine zu.aj (WQ rfl rfl rfl rfl) rfl rfl ?_|refine u7 rfl rfl (by first|exact zx _|exact (zx _).symm|exact xq|rfl|(simp;done)|omega|(simp;omega)) rfl rfl rfl (by decide) (by first|exact VS.own rfl rfl (by decide) (by first|exact zx _|exact (zx _).symm|exact xq|rfl|(simp;done)|omega|(simp;omega))|exact VS.list rfl|exact VS.nil rfl|exact VS.part rfl rfl (by decide)) (by first|omega|(simp;omega)|(simp;done)) (by first|omega|(simp;omega)|(simp;done)) rfl rfl rfl ?_|refine zu.aj (s9 rfl rfl rfl (by decide)) rfl rfl ?_|refine zu.aj (xZ rfl rfl (by first|exact zx _|exact (zx _).symm|exact xq|rfl|(simp;done)|omega|(simp;omega))) rfl rfl ?_|refine zu.aj (s8 rfl rfl) rfl rfl ?_|refine zu.aj (vH rfl rfl) rfl rfl ?_|refine zu.aj (n5 rfl) rfl rfl ?_)|(refine qz ?_;first|refine zu.aj (xj rfl) rfl ⟨_,_,rfl,rfl,rfl⟩ ?_|(refine UK ?_;first|refine zu.aj (xP rfl rfl rfl (by first|omega|(simp;omega)|(simp;done)) (by first|exact zW (by omega)|rfl) rfl rfl) rfl ⟨_,_,rfl,rfl,rfl⟩ ?_|refine zu.aj (ZQ rfl rfl rfl rfl rfl (by first|omega|(simp;omega)|(simp;done)) (by first|exact zW (by omega)|rfl) rfl rfl) rfl ⟨_,_,rfl,rfl,rfl⟩ ?_|refine zu.aj (VY rfl rfl rfl (by decide) (by first|omega|(simp;omega)|(simp;done)) (by first|exact zW (by omega)|rfl) rfl) rfl ⟨_,_,rfl,rfl,rfl⟩ ?_|refine zu.aj (YC rfl rfl rfl (by decide) rfl rfl (by first|omega|(simp;omega)|(simp;done)) (by first|exact zW (by omega)|rfl) rfl) rfl ⟨_,_,rfl,rfl,rfl⟩ ?_)|refine zu.aj (xY rfl rfl rfl rfl rfl rfl (by decide)) rfl ⟨_,_,rfl,rfl,rfl⟩ ?_|(refine Wt ?_;first|refine zu.aj (XF rfl rfl) rfl ⟨_,_,rfl,rfl,rfl⟩ ?_|refine zu.aj (XE rfl rfl) rfl ⟨_,_,rfl,rfl,rfl⟩ ?_)|(refine XJ ?_;first|refine zu.aj (XW rfl rfl) rfl ⟨_,_,rfl,rfl,rfl⟩ ?_|refine zu.aj (n7 rfl rfl) rfl ⟨_,_,rfl,rfl,rfl⟩ ?_|refine zu.aj (VZ rfl rfl) rfl ⟨_,_,rfl,rfl,rfl⟩ ?_|refine zu.aj (qe rfl rfl) rfl ⟨_,_,rfl,rfl,rfl⟩ ?_|refine zu.aj (qd rfl rfl) rfl ⟨_,_,rfl,rfl,rfl⟩ ?_)|refine YK rfl rfl rfl ⟨_,_,rfl,rfl,rfl⟩ ?_|refine zu.aj (WQ rfl rfl rfl rfl) rfl ⟨_,_,rfl,rfl,rfl⟩ ?_|refine zu.aj (xZ rfl rfl (by first|exact zx _|exact (zx _).symm|exact xq|rfl|(simp;done)|omega|(simp;omega))) rfl ⟨_,_,rfl,rfl,rfl⟩ ?_|refine zu.aj (vG rfl rfl) rfl ⟨_,_,rfl,rfl,rfl⟩ ?_|refine zu.aj (n5 rfl) rfl ⟨_,_,rfl,rfl,rfl⟩ ?_|refine pW rfl rfl ⟨_,_,rfl,rfl,rfl⟩ ?_)|refine xn.nil ?_|refine xn.one rfl rfl rfl rfl rfl ?_|refine xn.agg rfl rfl rfl rfl (Xo _ _) rfl ?_));exact h.out):Q:=f ⟨h⟩
theorem yp {P:Prop} (h:P) (f:kH P→Q:=by intro h;(repeat (first|refine FW.seq ?_|refine FW.region ?_|refine FW.block ?_|refine FW.skip ?_|refine FW.exit ?_|refine FW.gC rfl ?_|refine FW.fz rfl ?_|refine zu.nil ?_|(refine mz ?_;first|refine zu.aj (xz rfl) rfl rfl ?_|refine zu.aj (ZQ rfl rfl rfl rfl rfl (by first|omega|(simp;omega)|(simp;done)) (by first|exact zW (by omega)|rfl) rfl rfl) rfl rfl ?_|refine zu.dU (xu rfl rfl rfl rfl rfl rfl rfl rfl) rfl ?_|refine zu.aj (xY rfl rfl rfl rfl rfl rfl (by decide)) rfl rfl ?_|(refine XJ ?_;first|refine zu.aj (XW rfl rfl) rfl rfl ?_|refine zu.aj (VZ rfl rfl) rfl rfl ?_)|refine zu.bn (Zl rfl rfl rfl rfl rfl) rfl rfl ?_|refine zu.bn (yh rfl rfl rfl rfl rfl) rfl rfl ?_|refine YK rfl rfl rfl rfl ?_|refine zu.aj (xZ rfl rfl (by first|exact zx _|exact (zx _).symm|exact xq|rfl|(simp;done)|omega|(simp;omega))) rfl rfl ?_)|refine xn.nil ?_|refine xn.one rfl rfl rfl rfl rfl ?_|refine FW.draw ?_|refine zB.nil ?_|(refine qy ?_;first|refine zB.aj (xj rfl) rfl rfl ?_|(refine Wq ?_;first|refine zB.aj (xP rfl rfl rfl (by first|omega|(simp;omega)|(simp;done)) (by first|exact zW (by omega)|rfl) rfl rfl) rfl rfl ?_|refine zB.aj (ZQ rfl rfl rfl rfl rfl (by first|omega|(simp;omega)|(simp;done)) (by first|exact zW (by omega)|rfl) rfl rfl) rfl rfl ?_|refine zB.aj (YC rfl rfl rfl (by decide) rfl rfl (by first|omega|(simp;omega)|(simp;done)) (by first|exact zW (by omega)|rfl) rfl) rfl rfl ?_)|refine zB.dU (Ua rfl rfl rfl rfl rfl rfl rfl rfl) rfl ?_|(refine YV ?_;first|refine zB.aj (xX rfl rfl rfl rfl rfl) rfl rfl ?_|refine zB.aj (xY rfl rfl rfl rfl rfl rfl (by decide)) rfl rfl ?_)|refine zB.aj (Zx rfl rfl (by first|rfl|exact (Yv (by omega)).symm) rfl rfl rfl (by first|omega|(simp;omega)|(simp;done))) rfl rfl ?_|(refine pO ?_;first|refine zB.aj (XW rfl rfl) rfl rfl ?_|refine zB.aj (n6 rfl rfl (by omega)) rfl rfl ?_)|refine zB.bn (Zl rfl rfl rfl rfl rfl) rfl rfl ?_|refine zB.aj (xZ rfl rfl (by first|exact zx _|exact (zx _).symm|exact xq|rfl|(simp;done)|omega|(simp;omega))) rfl rfl ?_)));exact h.out):Q:=f ⟨h⟩
theorem Zw {P:Prop} (h:P) (f:kH P→Q:=by intro h;(repeat (first|refine FW.seq ?_|refine FW.region ?_|refine FW.exit ?_|refine zu.nil ?_|(refine mz ?_;first|refine zu.aj (xj rfl) rfl rfl ?_|refine zu.aj (xz rfl) rfl rfl ?_|refine u9 rfl rfl rfl rfl rfl ?_)));exact h.out):Q:=f ⟨h⟩
theorem Zk {P:Prop} (h:P) (f:kH P→Q:=by intro h;(repeat (first|refine FW.seq ?_|refine FW.region ?_|refine FW.skip ?_|refine FW.gC rfl ?_|refine zu.nil ?_|(refine mz ?_;first|refine zu.aj (xj rfl) rfl rfl ?_|refine zu.aj (xz rfl) rfl rfl ?_|(refine Wt ?_;first|refine zu.aj (XF rfl rfl) rfl rfl ?_|refine zu.aj (XE rfl rfl) rfl rfl ?_)|(refine XJ ?_;first|refine zu.aj (XW rfl rfl) rfl rfl ?_|refine zu.aj (qc rfl rfl (by omega)) rfl rfl ?_|refine zu.aj (n6 rfl rfl (by omega)) rfl rfl ?_))|(refine qz ?_;first|refine zu.aj (xj rfl) rfl ⟨_,_,rfl,rfl,rfl⟩ ?_|refine zu.aj (VZ rfl rfl) rfl ⟨_,_,rfl,rfl,rfl⟩ ?_|refine pW rfl rfl ⟨_,_,rfl,rfl,rfl⟩ ?_)));exact h.out):Q:=f ⟨h⟩
theorem zp {P:Prop} (h:P) (f:kH P→Q:=by intro h;(repeat (first|refine xn.nil ?_|refine xn.one rfl rfl rfl rfl rfl ?_|refine xn.agg rfl rfl rfl rfl (Xo _ _) rfl ?_|refine zB.nil ?_|(refine qy ?_;first|refine zB.aj (xj rfl) rfl rfl ?_|refine zB.aj (xz rfl) rfl rfl ?_|(refine Wq ?_;first|refine zB.aj (xP rfl rfl rfl (by first|omega|(simp;omega)|(simp;done)) (by first|exact zW (by omega)|rfl) rfl rfl) rfl rfl ?_|refine zB.aj (ZQ rfl rfl rfl rfl rfl (by first|omega|(simp;omega)|(simp;done)) (by first|exact zW (by omega)|rfl) rfl rfl) rfl rfl ?_|refine zB.aj (YC rfl rfl rfl (by decide) rfl rfl (by first|omega|(simp;omega)|(simp;done)) (by first|exact zW (by omega)|rfl) rfl) rfl rfl ?_)|refine zB.dU (xu rfl rfl rfl rfl rfl rfl rfl rfl) rfl ?_|(refine YV ?_;first|refine zB.aj (xX rfl rfl rfl rfl rfl) rfl rfl ?_|refine zB.aj (xY rfl rfl rfl rfl rfl rfl (by decide)) rfl rfl ?_)|refine zB.aj (Zx rfl rfl (by first|rfl|exact (Yv (by omega)).symm) rfl rfl rfl (by first|omega|(simp;omega)|(simp;done))) rfl rfl ?_|(refine uO ?_;first|refine zB.aj (XF rfl rfl) rfl rfl ?_|refine zB.aj (XE rfl rfl) rfl rfl ?_)|refine zB.aj (XW rfl rfl) rfl rfl ?_|refine zB.bn (Zl rfl rfl rfl rfl rfl) rfl rfl ?_|refine uM rfl rfl rfl rfl ?_|refine tK rfl rfl rfl rfl rfl rfl rfl rfl ?_|refine sM rfl rfl rfl rfl rfl rfl rfl rfl rfl rfl ?_|refine tL rfl rfl rfl rfl rfl ?_|refine u2 rfl rfl (by first|exact zx _|exact (zx _).symm|exact xq|rfl|(simp;done)|omega|(simp;omega)) rfl rfl rfl (by decide) (by first|exact VS.own rfl rfl (by decide) (by first|exact zx _|exact (zx _).symm|exact xq|rfl|(simp;done)|omega|(simp;omega))|exact VS.list rfl|exact VS.nil rfl|exact VS.part rfl rfl (by decide)) (by first|omega|(simp;omega)|(simp;done)) (by first|omega|(simp;omega)|(simp;done)) rfl rfl rfl ?_|refine zB.aj (xZ rfl rfl (by first|exact zx _|exact (zx _).symm|exact xq|rfl|(simp;done)|omega|(simp;omega))) rfl rfl ?_|refine zB.aj (n5 rfl) rfl rfl ?_)|(refine vw ?_;first|refine zB.aj (xj rfl) rfl ⟨_,_,rfl,rfl,rfl⟩ ?_|(refine Wq ?_;first|refine zB.aj (xP rfl rfl rfl (by first|omega|(simp;omega)|(simp;done)) (by first|exact zW (by omega)|rfl) rfl rfl) rfl ⟨_,_,rfl,rfl,rfl⟩ ?_|refine zB.aj (ZQ rfl rfl rfl rfl rfl (by first|omega|(simp;omega)|(simp;done)) (by first|exact zW (by omega)|rfl) rfl rfl) rfl ⟨_,_,rfl,rfl,rfl⟩ ?_)|(refine YV ?_;first|refine zB.aj (xX rfl rfl rfl rfl rfl) rfl ⟨_,_,rfl,rfl,rfl⟩ ?_|refine zB.aj (xY rfl rfl rfl rfl rfl rfl (by decide)) rfl ⟨_,_,rfl,rfl,rfl⟩ ?_)|refine zB.aj (Zx rfl rfl (by first|rfl|exact (Yv (by omega)).symm) rfl rfl rfl (by first|omega|(simp;omega)|(simp;done))) rfl ⟨_,_,rfl,rfl,rfl⟩ ?_|(refine pO ?_;first|refine zB.aj (XW rfl rfl) rfl ⟨_,_,rfl,rfl,rfl⟩ ?_|refine zB.aj (VZ rfl rfl) rfl ⟨_,_,rfl,rfl,rfl⟩ ?_)|refine u4 rfl rfl ⟨_,_,rfl,rfl,rfl⟩ ?_)));exact h.out):Q:=f ⟨h⟩
theorem ur {P:Prop} (h:P:=by repeat (first|exact Ye.nil|refine Ye.cons (.plain rfl rfl) ?_|refine Ye.cons (.nil (.head _) rfl) ?_|refine Ye.cons (.own (.tail _ (.head _)) rfl (by first|rfl|(simp;done)|(congr 1;omega)|(simp;omega)|(simp [ya];done)|(refine congrArg (FV.int .i64) ?_;omega)) (by first|rfl|(simp;done)|(congr 1;omega)|(simp;omega)|(simp [ya];done)|(refine congrArg (FV.int .i64) ?_;omega))) ?_|refine Ye.cons (.nil (.tail _ (.head _)) rfl) ?_|refine Ye.cons (.own (.tail _ (.tail _ (.head _))) rfl (by first|rfl|(simp;done)|(congr 1;omega)|(simp;omega)|(simp [ya];done)|(refine congrArg (FV.int .i64) ?_;omega)) (by first|rfl|(simp;done)|(congr 1;omega)|(simp;omega)|(simp [ya];done)|(refine congrArg (FV.int .i64) ?_;omega))) ?_|refine Ye.cons (.nil (.tail _ (.tail _ (.head _))) rfl) ?_)):P:=h
theorem zt {P:Prop} (h:P:=by repeat (first|exact .nil|refine .cons (.plain rfl rfl (by first|rfl|(simp;done)|(congr 1;omega)|(simp;omega)|(simp [ya];done)|(refine congrArg (FV.int .i64) ?_;omega))) ?_|refine .cons (.own rfl (.head _) rfl (by first|rfl|(simp;done)|(congr 1;omega)|(simp;omega)|(simp [ya];done)|(refine congrArg (FV.int .i64) ?_;omega))) ?_|refine .cons (.nil rfl (.head _) rfl) ?_|refine .cons (.ptr rfl (.head _) rfl) ?_|refine .cons (.omap rfl (.head _) rfl) ?_|refine .cons (.ptr rfl (.tail _ (.head _)) rfl) ?_|refine .cons (.ptr rfl (.tail _ (.tail _ (.head _))) rfl) ?_|refine .cons (.ptr rfl (.tail _ (.tail _ (.tail _ (.head _)))) rfl) ?_)):P:=h
theorem zn {P:Prop} (h:P:=by repeat (first|exact .nil|refine .px rfl (by decide) (by first|rfl|(simp;done)|(congr 1;omega)|(simp;omega)|(simp [ya];done)|(refine congrArg (FV.int .i64) ?_;omega)) ?_|refine .lM rfl (iB.cons ur rfl iB.nil) ?_|refine .new ?_)):P:=h
theorem XD {P:Prop} (h:P:=by repeat (first|exact zh.nil|refine zh.cons (by first|exact Ve.plain rfl rfl|exact Ve.own rfl rfl (by decide) (by first|exact (fun _=>rfl)|(intro h;cases h)) (by first|rfl|(simp;done)|(congr 1;omega)|(simp;omega)|(simp [ya];done)|(refine congrArg (FV.int .i64) ?_;omega))|exact Ve.nil rfl|exact Ve.sub rfl rfl (by repeat (first|exact FV.le.refl _|exact FV.le.nil _|refine FV.le.agg ?_|refine FV.le.bG ?_|exact ea.nil|refine ea.cons ?_ ?_|exact FV.le.undef _))|exact Ve.part rfl rfl (by decide) (by first|exact (fun _=>rfl)|(intro h;cases h))) ?_)):P:=h
theorem zL {P:Prop} (h:P:=by simp [Op.operands,Call.operands]):P:=h
theorem XS {P:Prop} (h:P:=by repeat (first|exact .nil)):P:=h
theorem zi {P:Prop} (h:P:=by exact Ve.plain rfl rfl):P:=h
theorem zf {P:Prop} (h:P:=by simp [Op.operands]):P:=h
theorem zV {P:Prop} (h:P:=by simp;omega):P:=h
theorem zq {P:Prop} (h:P:=by kernel_rfl):P:=h
theorem zb {P:Prop} (h:P:=by decide):P:=h
theorem zc {P:Prop} (h:P:=by omega):P:=h
theorem zd {P:Prop} (h:P:=by simp):P:=h
def flat {α:Type} (aJ:α→List Value) (l:List α):List Value:=l.flatMap aJ
def ov {α:Type} (sz:Nat) (aJ:α→List Value):Prop:=∀ a,(aJ a).length=sz
section
variable {α:Type} {sz:Nat} {aJ:α→List Value}
theorem pI (h:ov sz aJ):∀ (l:List α) (i j:Nat) (hi:i<l.length),j<sz→(flat aJ l)[i * sz+j]? = (aJ l[i])[j]?
 | [], i, _, hi, _ => by simp at hi
 | a :: l, 0, j, _, hj => by
  simp only [flat,ZL,xy,zR,List.getElem_cons_zero];rw [xo (by rw [h a];exact hj)]
 | a :: l, i+1, j, hi, hj => by
  have ih:=pI h l i j (by simpa using hi) hj;simp only [flat,ZL,List.getElem_cons_succ] at *;rw [xL (by rw [h a,zE];omega),h a,← ih];congr 1;rw [zE];omega
def Sl (aJ:α→List Value) (w:World) (B:Nat) (A:Option Addr) (l:List α):Prop:=
 l≠[]→∃ b off,A=some ⟨b,off,none⟩∧b<B∧∀ j u,(flat aJ l)[j]? = some u→w.cell? ⟨b,off+j,none⟩=some u
variable {w w' : World} {B B' : Nat} {A:Option Addr} {l:List α}
theorem Sl.nM (aJ:α→List Value) (w:World) (B:Nat) (A:Option Addr):Sl aJ w B A []:=fun h=>absurd rfl h
theorem Sl.keep (h:Sl aJ w B A l) (hk:∀ p:Addr,p.block<B→w'.cell? p=w.cell? p):Sl aJ w' B A l:=fun hl=>by
 obtain ⟨b,off,ha,hb,hc⟩:=h hl;exact ⟨b,off,ha,hb,fun j u hu=>(hk _ hb).trans (hc j u hu)⟩
theorem Sl.below (h:Sl aJ w B A l) (hb:Below B w w'):Sl aJ w' B A l:=h.keep fun _ hp=>hb.cell hp
theorem Sl.get (h:Sl aJ w B A l) (hs:ov sz aJ) (hi:i<l.length):∃ b off,A=some ⟨b,off,none⟩∧b<B∧∀ j u,j<sz→(aJ l[i])[j]? = some u→w.cell? ⟨b,off+i * sz+j,none⟩=some u:=by
 obtain ⟨b,off,ha,hb,hc⟩:=h (by rintro rfl;simp at hi);refine ⟨b,off,ha,hb,fun j u hj hu=>?_⟩;rw [Xz];exact hc _ u (by rw [pI hs l i j hi hj];exact hu)
theorem pN {iU : Nat} {e:TypeId} (h:w.ownsRow base e sz v n xs) (hb:iU≤base):w.ownsRow iU e sz v n xs:=by
 refine ⟨h.1,?_⟩;rcases h.2 with hn|⟨g,cap,cur,rfl,bD,r⟩
 ·exact .inl hn
 ·exact .inr ⟨g,cap,cur,rfl,by omega,r⟩
end
theorem VV {a:World} (h:Below B a w) (n:Nat):Below B a (w.drewN n):=⟨h.os,h.tape,h.output,h.size,h.block⟩
theorem qu {w1 w2:World} (h:Below w.heap.size w w1) (k:Below w1.heap.size w1 w2):Below w.heap.size w w2:=h.trans (k.mono h.size)
def c5 (w:World) (g:Nat) (t:TypeId) (cs:List Value):Prop:=w.heap[g]? = some (.cells cs.toArray t (0,0))
section
variable {w w' : World} {g:Nat} {t:TypeId} {cs:List Value}
theorem c5.lt (h:c5 w g t cs):g<w.heap.size:=by
 rcases xa g w.heap.size with aM|gQ
 ·exact aM
 ·unfold c5 at h;rw [Array.getElem?_eq_none gQ] at h;cases h
theorem c5.cell (h:c5 w g t cs) (i:Nat):w.cell? ⟨g,i,none⟩=cs[i]?:=by rw [cell_of_row w g i cs.toArray t (0,0) h];simp
theorem c5.new (w:World) (t:TypeId) (cs:List Value):c5 (w.alloc (.cells cs.toArray t)) w.heap.size t cs:=heap_alloc_new w _
theorem c5.drewN (h:c5 w g t cs) (n:Nat):c5 (w.drewN n) g t cs:=h
theorem c5.alloc (h:c5 w g t cs) (o:Obj):c5 (w.alloc o) g t cs:=(Below.heap_alloc w o g h.lt).trans h
theorem c5.below (h:c5 w g t cs) (hb:Below B w w') (hg:g<B):c5 w' g t cs:=(hb.block g hg).trans h
theorem c5.grown {row:Option Nat} (h:c5 w g t cs) (hb:w.grownBy w' row) (hg:some g≠row):c5 w' g t cs:=(hb.block g h.lt hg).trans h
end
def nth {α:Type} [Inhabited α] (l:List α) (i:Nat):α:=l.getD i default
theorem Zc [Inhabited α] {l:List α} (h:i<l.length):nth l i=l[i]:=by simp [nth,h]
theorem Ym [Inhabited α] {l:List α} (h:i<l.length):nth l i∈l:=by rw [Zc h];exact yt h
def lT {σ:Type} (f:Nat→σ→σ) (s:σ):Nat→σ
 | 0 => s
 | k+1 => f k (lT f s k)
def bq (x:Int):Prop:=-9223372036854775808≤x∧x≤9223372036854775807
theorem pX (x:Int) (h:bq x):IntKind.i64.wrap x=x:=by
 unfold bq at h;rw [IntKind.wrap_i64];omega
inductive Wk where
 | fn (f:Nat)|bound (f:Nat)|agg|bG|mi (t:Nat)|qB (n:Nat)
 deriving Inhabited,DecidableEq
inductive FV where
 | undef
 | int (k:IntKind) (n:Int)
 | bool (b:Bool)
 | str (s:ByteArray)
 | nil
 | bS
 | ak
 | list (sz:Nat) (es:List (List FV))
 | aH (sz:Nat) (es:List (List FV)) (i off:Nat)
 | agg (cs:List FV)
 | bG (vs:List FV)
 | own (id aa o n:Nat)
 | ptr (id aa i off:Nat)
 | omap (id aa:Nat)
 | smap (es:List (List FV))
 | fn (f:Nat) (aI:List FV)
 | iface (t:Nat) (f:FV)
 | wrap (k:Wk) (fs:List FV)
 | perm (sz:Nat) (es:List (List FV))
 | iV (f:Nat) (aI:List FV)
 deriving Inhabited
def Wk.mk:Wk→List Value→Value
 | .fn f, us => .func (.func f) #[] us.toArray
 | .bound f, us => .func (.func f) us.toArray #[]
 | .agg, us => .agg us.toArray
 | .bG, us => .tuple us.toArray
 | .mi t, us => .iface t (us.headD .nilFunc)
 | .qB n, us => .tuple (.agg (us.take n).toArray :: us.drop n).toArray
def FV.one:FV→Bool
 | .int _ _|.bool _|.str _|.nil|.bS|.ak|.list _ _|.smap _|.fn _ _|.iface _ _|.iV _ _|.aH _ _ _ _ => true
 | _ => false
def FV.bW:FV→Value
 | .int k n => .int k n
 | .bool b => .bool b
 | .str s => .string s
 | _ => .nilFunc
def FV.val:FV→Value
 | .agg cs => .agg (cs.map FV.bW).toArray
 | f => f.bW
def FV.aB:FV→Bool
 | .int _ _|.bool _|.str _ => true
 | _ => false
def FV.simple:FV→Bool
 | .agg cs => cs.all FV.aB
 | f => f.aB
inductive Rd (w:World) (I:Nat→Prop):Value→FV→Prop where
 | undef (v:Value):Rd w I v .undef
 | int (k:IntKind) (n:Int):Rd w I (.int k n) (.int k n)
 | bool (b:Bool):Rd w I (.bool b) (.bool b)
 | str (s:ByteArray):Rd w I (.string s) (.str s)
 | nil:Rd w I (.slice none 0 0) .nil
 | bS:Rd w I (.map none) .bS
 | ak:Rd w I .nilFunc .ak
 | list (A:Option Addr) (n c sz:Nat) (es:List (List FV)) (us:List Value) (hn:es.length=n) (hc:n≤c) (he:∀ e∈es,e.length=sz) (ho:∀ f∈es.flatten,f.one=true)
   (hA:n≠0→∃ b off,A=some ⟨b,off,none⟩∧I b∧∀ (j:Nat) u,us[j]? = some u→w.cell? ⟨b,off+j,none⟩=some u)
   (hl:us.length=es.flatten.length) (hr:∀ (j:Nat) u f,us[j]? = some u→es.flatten[j]? = some f→Rd w I u f):Rd w I (.slice A n c) (.list sz es)
 | aH (b off sz:Nat) (es:List (List FV)) (i o:Nat) (us:List Value) (hI:I b) (he:∀ e∈es,e.length=sz) (ho:∀ f∈es.flatten,f.one=true)
   (hA:∀ (j:Nat) u,us[j]? = some u→w.cell? ⟨b,off+j,none⟩=some u)
   (hl:us.length=es.flatten.length) (hr:∀ (j:Nat) u f,us[j]? = some u→es.flatten[j]? = some f→Rd w I u f):Rd w I (.pointer (some ⟨b,off+(i * sz+o),none⟩)) (.aH sz es i o)
 | smap (b clock:Nat) (aq:Array MapEntry) (es:List (List FV)) (hI:I b) (hb:w.heap[b]? = some (.map aq clock)) (bF:MapKept.Stamped aq clock) (hl:aq.size=es.length)
   (hk:∀ (j:Nat) e row,aq[j]? = some e→es[j]? = some row→∃ kf vf,row=[kf,vf]∧kf.simple=true∧e.key=kf.val)
   (hr:∀ (j:Nat) e row f,aq[j]? = some e→es[j]? = some row→row[1]? = some f→Rd w I e.val f):Rd w I (.map (some b)) (.smap es)
 | fn (f:Nat) (us:List Value) (fs:List FV) (hl:us.length=fs.length) (hr:∀ (j:Nat) u g, us[j]? = some u → fs[j]? = some g → Rd w I u g):Rd w I (.func (.func f) #[] us.toArray) (.fn f fs)
 | iface (t:Nat) (v:Value) (f:FV) (hr:Rd w I v f):Rd w I (.iface t v) (.iface t f)
 | agg (us:List Value) (fs:List FV) (hl:us.length=fs.length) (hr:∀ (j:Nat) u f, us[j]? = some u → fs[j]? = some f → Rd w I u f):Rd w I (.agg us.toArray) (.agg fs)
 | bG (us:List Value) (fs:List FV) (hl:us.length=fs.length) (hr:∀ (j:Nat) u f, us[j]? = some u → fs[j]? = some f → Rd w I u f):Rd w I (.tuple us.toArray) (.bG fs)
 | iV (f:Nat) (us:List Value) (fs:List FV) (hl:us.length=fs.length) (hr:∀ (j:Nat) u g, us[j]? = some u → fs[j]? = some g → Rd w I u g):Rd w I (.func (.func f) us.toArray #[]) (.iV f fs)
 | perm (v:Value) (sz:Nat) (es aS : List (List FV)) (hp:aS.Perm es) (hr:Rd w I v (.list sz aS)):Rd w I v (.perm sz es)
 | dk (v:Value) (es aS : List (List FV)) (hp:aS.Perm es) (hr:Rd w I v (.smap aS)):Rd w I v (.perm 0 es)
def az (w:World) (I:Nat→Prop) (us:List Value) (fs:List FV):Prop:=us.length=fs.length∧∀ (j:Nat) u f,us[j]? = some u→fs[j]? = some f→Rd w I u f
theorem Rd.mono (hI:∀ b,I b→I' b∧w'.heap[b]? = w.heap[b]?) {f:FV} (h:Rd w I v f):Rd w' I' v f:=by
 induction h with
 | undef v => exact .undef v
 | int k n => exact .int k n
 | bool b => exact .bool b
 | str s => exact .str s
 | nil => exact .nil
 | bS => exact .bS
 | ak => exact .ak
 | list A n c sz es us hn hc he ho hA hl hr ih =>
  refine .list A n c sz es us hn hc he ho (fun h0=>?_) hl ih;obtain ⟨b,off,ha,hb,aO⟩:=hA h0;exact ⟨b,off,ha,(hI b hb).1,fun j u hu=>(World.cell?_of_block (w:=w) (w':=w') (a:=⟨b,off+j,none⟩) (hI b hb).2).trans (aO j u hu)⟩
 | aH b off sz es i o us hb he ho hA hl hr ih =>
  exact .aH b off sz es i o us (hI b hb).1 he ho (fun j u hu=>(World.cell?_of_block (w:=w) (w':=w') (a:=⟨b,off+j,none⟩) (hI b hb).2).trans (hA j u hu)) hl ih
 | smap b clock aq es hb l7 bF hl hk hr ih => exact .smap b clock aq es (hI b hb).1 ((hI b hb).2.trans l7) bF hl hk ih
 | agg us fs hl hr ih => exact .agg us fs hl ih
 | iface t v f hr ih => exact .iface t v f ih
 | fn f us fs hl hr ih => exact .fn f us fs hl ih
 | bG us fs hl hr ih => exact .bG us fs hl ih
 | iV f us fs hl hr ih => exact .iV f us fs hl ih
 | perm v sz es aS hp hr ih => exact .perm v sz es aS hp ih
 | dk v es aS hp hr ih => exact .dk v es aS hp ih
theorem az.mono (hI:∀ b,I b→I' b∧w'.heap[b]? = w.heap[b]?) {fs:List FV} (h:az w I us fs):az w' I' us fs:=
 ⟨h.1,fun j u f hu hf=>(h.2 j u f hu hf).mono hI⟩
theorem az.nil {w:World} {I:Nat→Prop}:az w I [] []:=⟨rfl,fun j u f hu=>by simp at hu⟩
theorem az.append {vs:List Value} {fs gs:List FV} (h:az w I us fs) (k:az w I vs gs):az w I (us++vs) (fs++gs):=by
 refine ⟨by simp [h.1,k.1],fun j u f hu hf=>?_⟩;rcases xa j us.length with hj|hj
 ·rw [xo hj] at hu;rw [xo (by rw [← h.1];exact hj)] at hf;exact h.2 j u f hu hf
 ·rw [xL hj] at hu;rw [xL (by rw [← h.1];exact hj),← h.1] at hf;exact k.2 _ u f hu hf
theorem az.cons {u:Value} {f:FV} {fs:List FV} (h:Rd w I u f) (k:az w I us fs):az w I (u::us) (f::fs):=by
 refine ⟨by simp [k.1],fun j u' f' hu hf=>?_⟩;cases j with
 | zero => simp at hu hf; subst hu; subst hf; exact h
 | succ j => simp at hu hf; exact k.2 j u' f' hu hf
theorem az.take {fs:List FV} (h:az w I us fs) (n:Nat):az w I (us.take n) (fs.take n):=by
 refine ⟨by simp [h.1],fun j u f hu hf=>?_⟩;rw [yr] at hu hf;split at hu
 ·rename_i hj;rw [if_pos hj] at hf;exact h.2 j u f hu hf
 ·cases hu
theorem az.drop {fs:List FV} (h:az w I us fs) (n:Nat):az w I (us.drop n) (fs.drop n):=by
 refine ⟨by simp [h.1],fun j u f hu hf=>?_⟩;rw [yV] at hu hf;exact h.2 _ u f hu hf
inductive yT where
 | dead|own|shut|aX|maps|aw|roomy|full|bB
 deriving DecidableEq,Inhabited
def yT.row:yT→Bool
 | .own|.shut|.roomy|.full => true
 | _ => false
def yT.bz:yT→Bool
 | .own|.shut|.roomy|.full|.aw => true
 | _ => false
def yT.eD:yT→Bool
 | .own|.aX|.roomy|.full|.aw|.bB => true
 | _ => false
theorem yT.dh {l:yT} (h:l.row=true):l≠.dead:=by rintro rfl;cases h
theorem yT.eY {l:yT} (h:l.row=true):l.bz=true:=by cases l <;> first|rfl|cases h
theorem yT.bg {l:yT} (h:l.eD=true):l≠.dead:=by rintro rfl;cases h
structure yb where
 aa:Nat:=0
 ag:yT:=.dead
 E:TypeId:=0
 sz:Nat:=0
 es:List (List FV):=[]
 deriving Inhabited
def look {α:Type} (d:α):List (Nat×α)→Nat→α
 | [], _ => d
 | (i, a) :: l, k => bif Nat.beq i k then a else look d l k
theorem zA (d:α) (i:Nat) (a:α) (l:List (Nat×α)) (k:Nat):look d ((i,a)::l) k=if i=k then a else look d l k:=by
 show (bif Nat.beq i k then a else look d l k)=_;by_cases h:i=k
 ·subst h;simp
 ·have hb:Nat.beq i k=false:=by
   cases hb:Nat.beq i k with
   | true => exact absurd (Nat.eq_of_beq_eq_true hb) h
   | false => rfl
  rw [hb,if_neg h];rfl
structure ab where
 t:List (Nat×FV)
 o:List (Nat×yb)
def ab.get (s:ab) (d:Nat):FV:=look .undef s.t d
def ab.ob (s:ab) (id:Nat):yb:=look {} s.o id
def ab.put (s:ab) (d:Nat) (v:FV):ab:=⟨(d,v)::s.t,s.o⟩
def ab.set (s:ab) (id:Nat) (b:yb):ab:=⟨s.t,(id,b)::s.o⟩
theorem ab.du (s:ab) (d:Nat) (v:FV) (k:Nat):(s.put d v).get k=if d=k then v else s.get k:=zA _ _ _ _ _
theorem ab.ao (s:ab) (d:Nat) (b:yb) (k:Nat):(s.set d b).ob k=if d=k then b else s.ob k:=zA _ _ _ _ _
structure WA (w:World) (ax:Option Nat) (ob:yb) (v:Value) (o n:Nat):Prop where
 row:ob.ag.bz=true
 ex:∃ A c,v=.slice A n c∧n≤c∧o+n≤ob.es.length∧(ax=none→A=none∧c=0)∧
  ∀ b,ax=some b→∃ o',A=some ⟨b,o',none⟩∧(c≠0∨o=0→o'=o * ob.sz)∧∀ cur,w.heap[b]? = some (.cells cur ob.E (0,0))→cur.size=(o+c) * ob.sz
def iT (w:World) (I:Nat→Prop) (β:Nat→Option Nat) (s:ab) (v:Value):FV→Prop
 | .own id aa o n => (s.ob id).ag ≠ .dead → (s.ob id).aa=aa → WA w (β id) (s.ob id) v o n
 | .ptr id aa i off => (s.ob id).ag ≠ .dead → (s.ob id).aa=aa → (s.ob id).ag.bz=true ∧ ∃ b, β id=some b ∧ v=.pointer (some ⟨b, i * (s.ob id).sz+off, none⟩)
 | .omap id aa => (s.ob id).ag ≠ .dead → (s.ob id).aa=aa → (s.ob id).ag.bz=false ∧ ∃ b, β id=some b ∧ v=.map (some b)
 | f => Rd w I v f
def VR (w:World) (I:Nat→Prop) (β:Nat→Option Nat) (s:ab) (v:Value):FV→Prop
 | .own id aa o n => (s.ob id).ag ≠ .dead → (s.ob id).aa=aa → WA w (β id) (s.ob id) v o n
 | .ptr id aa i off => (s.ob id).ag ≠ .dead → (s.ob id).aa=aa → (s.ob id).ag.bz=true ∧ ∃ b, β id=some b ∧ v=.pointer (some ⟨b, i * (s.ob id).sz+off, none⟩)
 | .omap id aa => (s.ob id).ag ≠ .dead → (s.ob id).aa=aa → (s.ob id).ag.bz=false ∧ ∃ b, β id=some b ∧ v=.map (some b)
 | .wrap k fs => ∃ us:List Value, v=k.mk us ∧ us.length=fs.length ∧ ∀ (j:Nat) u f, us[j]? = some u → fs[j]? = some f → iT w I β s u f
 | f => Rd w I v f
def FV.hand:FV→Option (Nat×Nat)
 | .own id aa _ _ => some (id, aa)
 | .ptr id aa _ _ => some (id, aa)
 | .omap id aa => some (id, aa)
 | .wrap _ _ => some (0, 0)
 | _ => none
def FV.hands:FV→List (Nat×Nat)
 | .own id aa _ _ => [(id, aa)]
 | .ptr id aa _ _ => [(id, aa)]
 | .omap id aa => [(id, aa)]
 | .wrap _ fs => fs.filterMap FV.hand
 | _ => []
theorem FV.fe {f:FV} (h:f.hand=none):f.hands=[]:=by cases f <;> first|rfl|(simp [FV.hand] at h)
theorem FV.aU {f:FV} (h:f.hand=none) {p:Nat×Nat} (hp:p∈f.hands):False:=by rw [FV.fe h] at hp;cases hp
structure kh (w:World) (base:Nat) (I:Nat→Prop) (ax:Option Nat) (ob:yb):Prop where
 wide:∀ e∈ob.es,e.length=ob.sz
 one:∀ f∈ob.es.flatten,f.one=true
 row:∃ v us,w.ownsRow base ob.E ob.sz v ob.es.length us∧v.ownBlock=ax∧az w I us ob.es.flatten
structure kK (w:World) (base:Nat) (I:Nat→Prop) (ax:Option Nat) (ob:yb):Prop where
 ex:∃ b clock aq,ax=some b∧base≤b∧w.heap[b]? = some (.map aq clock)∧MapKept.Stamped aq clock∧aq.size=ob.es.length∧
  (∀ (j:Nat) e row,aq[j]? = some e→ob.es[j]? = some row→∃ kf vf,row=[kf,vf]∧kf.simple=true∧e.key=kf.val)∧
  ∀ (j:Nat) e row f,aq[j]? = some e→ob.es[j]? = some row→row[1]? = some f→Rd w I e.val f
structure kM (w:World) (base:Nat) (I:Nat→Prop) (β:Nat→Option Nat) (s:ab) (ax:Option Nat) (ob:yb):Prop where
 wide:∀ e∈ob.es,e.length=ob.sz
 cm:∀ f∈ob.es.flatten,∀ id aa,(id,aa)∈f.hands→aa≤(s.ob id).aa
 row:∃ v us,w.ownsRow base ob.E ob.sz v ob.es.length us∧v.ownBlock=ax∧us.length=ob.es.flatten.length∧∀ (j:Nat) u f,us[j]? = some u→ob.es.flatten[j]? = some f→VR w I β s u f
structure kJ (w:World) (base:Nat) (I:Nat→Prop) (β:Nat→Option Nat) (s:ab) (ax:Option Nat) (ob:yb):Prop where
 cm:∀ f∈ob.es.flatten,∀ id aa,(id,aa)∈f.hands→aa≤(s.ob id).aa
 ex:∃ b clock aq,ax=some b∧base≤b∧w.heap[b]? = some (.map aq clock)∧MapKept.Stamped aq clock∧aq.size=ob.es.length∧
  (∀ (j:Nat) e row,aq[j]? = some e→ob.es[j]? = some row→∃ kf vf,row=[kf,vf]∧kf.simple=true∧e.key=kf.val)∧
  ∀ (j:Nat) e row f,aq[j]? = some e→ob.es[j]? = some row→row[1]? = some f→VR w I β s e.val f
def Yf (w:World) (ax:Option Nat) (ob:yb):Prop:=
 match ob.ag with
 | .roomy => ∃ b cur, ax=some b ∧ w.heap[b]? = some (.cells cur ob.E (0, 0)) ∧ (ob.es.length+1) * ob.sz ≤ cur.size
 | .full => ∀ b cur, ax=some b → w.heap[b]? = some (.cells cur ob.E (0, 0)) → cur.size=ob.es.length * ob.sz
 | _ => True
def bY (w:World) (base:Nat) (I:Nat→Prop) (β:Nat→Option Nat) (s:ab) (ax:Option Nat) (ob:yb):Prop:=
 if ob.ag.row=true then kh w base I ax ob∧Yf w ax ob else if ob.ag.bz=true then kM w base I β s ax ob else if ob.ag=.bB then kJ w base I β s ax ob else kK w base I ax ob
section
variable {w:World} {base:Nat} {I:Nat→Prop} {β:Nat→Option Nat} {s:ab} {ax:Option Nat} {ob:yb}
theorem bY.bl (h:bY w base I β s ax ob) (hr:ob.ag.row=true):kh w base I ax ob:=by unfold bY at h;rw [if_pos hr] at h;exact h.1
theorem bY.fK (h:bY w base I β s ax ob) (hr:ob.ag.row=true):Yf w ax ob:=by unfold bY at h;rw [if_pos hr] at h;exact h.2
theorem bY.eH (h:bY w base I β s ax ob) (hr:ob.ag.row=false) (hs:ob.ag.bz=true):kM w base I β s ax ob:=by unfold bY at h;rwa [if_neg (by rw [hr];decide),if_pos hs] at h
theorem bY.fY (h:bY w base I β s ax ob) (hr:ob.ag.bz=false) (hm:ob.ag≠.bB):kK w base I ax ob:=by
 unfold bY at h;rwa [if_neg (fun e=>by rw [yT.eY e] at hr;cases hr),if_neg (by rw [hr];decide),if_neg hm] at h
theorem bY.j6 (h:bY w base I β s ax ob) (hm:ob.ag=.bB):kJ w base I β s ax ob:=by
 unfold bY at h;rwa [if_neg (by rw [hm];decide),if_neg (by rw [hm];decide),if_pos hm] at h
theorem bY.nK (h:bY w base I β s ax ob) (hr:ob.ag.bz=false):∃ b clock aq,ax=some b∧base≤b∧w.heap[b]? = some (.map aq clock):=by
 by_cases hm:ob.ag=.bB
 ·obtain ⟨b,clock,aq,h1,h2,h3,_⟩:=(h.j6 hm).ex;exact ⟨b,clock,aq,h1,h2,h3⟩
 ·obtain ⟨b,clock,aq,h1,h2,h3,_⟩:=(h.fY hr hm).ex;exact ⟨b,clock,aq,h1,h2,h3⟩
theorem bY.ofRow (h:kh w base I ax ob) (hm:Yf w ax ob) (hr:ob.ag.row=true):bY w base I β s ax ob:=by unfold bY;rw [if_pos hr];exact ⟨h,hm⟩
theorem bY.lK (h:kM w base I β s ax ob) (hr:ob.ag=.aw):bY w base I β s ax ob:=by unfold bY;rw [if_neg (by rw [hr];decide),if_pos (by rw [hr];rfl)];exact h
theorem bY.ofMap (h:kK w base I ax ob) (hr:ob.ag.bz=false) (hm:ob.ag≠.bB):bY w base I β s ax ob:=by
 unfold bY;rwa [if_neg (fun e=>by rw [yT.eY e] at hr;cases hr),if_neg (by rw [hr];decide),if_neg hm]
theorem bY.lL (h:kJ w base I β s ax ob) (hm:ob.ag=.bB):bY w base I β s ax ob:=by
 unfold bY;rwa [if_neg (by rw [hm];decide),if_neg (by rw [hm];decide),if_pos hm]
theorem Yf.own (hl:ob.ag=.own):Yf w ax ob:=by unfold Yf;rw [hl];trivial
theorem Yf.shut (hl:ob.ag=.shut):Yf w ax ob:=by unfold Yf;rw [hl];trivial
end
structure JJ where
 ok:Nat→Prop
 K:Nat→Prop:=fun _=>False
 h0:Nat→Option Obj:=fun _=>none
 gh:Value→FV→Prop:=fun _ _=>False
 ds:List Deferred:=[]
instance:CoeFun JJ fun _=>Nat→Prop:=⟨JJ.ok⟩
def Zz:Nat:=5000
def aK (J:JJ) (w:World) (β:Nat→Option Nat) (s:ab) (b:Nat):Prop:=b<w.heap.size∧J b∧∀ id,(s.ob id).ag.eD=true→β id≠some b
structure FR (N:Nat) (w0:World) (J:JJ) (s:ab) (a:Act) (w:World) (β:Nat→Option Nat):Prop where
 size:a.tmps.size=N
 defers:a.defers=J.ds
 bN:Below w0.heap.size w0 w
 c8:∀ b,w0.heap.size≤b→J b∨J.K b
 slot:∀ d,VR w (aK J w β s) β s (a.tmps.getD d undef) (s.get d)
 cm:∀ d id aa,(id,aa)∈(s.get d).hands→aa≤(s.ob id).aa
 obj:∀ id,(s.ob id).ag≠.dead→bY w w0.heap.size (aK J w β s) β s (β id) (s.ob id)
 inj:∀ id aN b,(s.ob id).ag≠.dead→(s.ob aN).ag≠.dead→β id=some b→β aN=some b→id=aN
 kept:∀ b,J.K b→b<w.heap.size∧(∀ id,(s.ob id).ag≠.dead→β id≠some b)∧w.heap[b]? = J.h0 b
 gh:∀ v f,J.gh v f→VR w (aK J w β s) β s v f∧∀ id aa,(id,aa)∈f.hands→Zz≤id∧aa≤(s.ob id).aa
theorem FR.fresh {N:Nat} {J:JJ} {s:ab} (h:FR N w0 J s a w β) (b:Nat) (hb:w0.heap.size≤b) (hx:w.heap.size≤b∨∃ id,(s.ob id).ag≠.dead∧β id=some b):J b:=by
 rcases h.c8 b hb with h1|h1
 ·exact h1
 ·obtain ⟨k1,k2,_⟩:=h.kept b h1;rcases hx with hx|⟨id,hl,e⟩
  ·omega
  ·exact absurd e (k2 id hl)
theorem WA.mono {ob:yb} {o:Nat} (h:WA w ax ob v o n) (hb:∀ b,ax=some b→w'.heap[b]? = w.heap[b]?):WA w' ax ob v o n:=by
 obtain ⟨A,c,h1,h2,h3,h4,h5⟩:=h.ex;refine ⟨h.row,A,c,h1,h2,h3,h4,fun b aE=>?_⟩;obtain ⟨o',k1,k2,k3⟩:=h5 b aE;exact ⟨o',k1,k2,fun cur hc=>k3 cur (by rw [← hb b aE];exact hc)⟩
theorem UC {e:TypeId} {sz:Nat} (h:w.ownsRow base e sz v n xs) (hb:∀ b,v.ownBlock=some b→w'.heap[b]? = w.heap[b]?):w'.ownsRow base e sz v n xs:=by
 refine ⟨h.1,?_⟩;rcases h.2 with hn|⟨g,cap,cur,rfl,bD,dx,rest⟩
 ·exact .inl hn
 ·exact .inr ⟨g,cap,cur,rfl,bD,(hb g rfl).trans dx,rest⟩
theorem kh.mono {ob:yb} (h:kh w base I ax ob) (hI:∀ b,I b→I' b∧w'.heap[b]? = w.heap[b]?) (hb:∀ b,ax=some b→w'.heap[b]? = w.heap[b]?) :
  kh w' base I' ax ob:=by
 obtain ⟨v,us,h1,h2,h3⟩:=h.row;exact ⟨h.wide,h.one,v,us,UC h1 (fun b hv=>hb b (h2▸hv)),h2,h3.mono hI⟩
theorem kK.mono {ob:yb} (h:kK w base I ax ob) (hI:∀ b,I b→I' b∧w'.heap[b]? = w.heap[b]?) (hb:∀ b,ax=some b→w'.heap[b]? = w.heap[b]?) :
  kK w' base I' ax ob:=by
 obtain ⟨b,clock,aq,h1,h2,h3,h4,h5,h6,h7⟩:=h.ex;exact ⟨b,clock,aq,h1,h2,(hb b h1).trans h3,h4,h5,h6,fun j e row f a b c=>(h7 j e row f a b c).mono hI⟩
theorem Yf.mono {ob:yb} (h:Yf w ax ob) (hb:∀ b,ax=some b→w'.heap[b]? = w.heap[b]?):Yf w' ax ob:=by
 unfold Yf at h ⊢;cases hl:ob.ag with
 | roomy =>
  rw [hl] at h;obtain ⟨b,cur,h1,h2,h3⟩:=h;exact ⟨b,cur,h1,(hb b h1).trans h2,h3⟩
 | full =>
  rw [hl] at h;exact fun b cur h1 h2=>h b cur h1 ((hb b h1).symm.trans h2)
 | _ => trivial
theorem kM.mono {s s' : ab} {ob:yb} (h:kM w base I β s ax ob) (hb:∀ b,ax=some b→w'.heap[b]? = w.heap[b]?)
  (T:∀ v f,VR w I β s v f→(∀ id aa,(id,aa)∈f.hands→aa≤(s.ob id).aa)→VR w' I' aP s' v f) (hv:∀ id,(s.ob id).aa≤(s'.ob id).aa):kM w' base I' aP s' ax ob:=by
 obtain ⟨v,us,h1,h2,h3,h4⟩:=h.row;exact ⟨h.wide,fun f hf id aa e=>yZ (h.cm f hf id aa e) (hv id),v,us,UC h1 (fun b hv=>hb b (h2▸hv)),h2,h3,fun j u f hu hf=>T u f (h4 j u f hu hf) (h.cm f (zH hf))⟩
theorem kJ.mono {s s' : ab} {ob:yb} (h:kJ w base I β s ax ob) (hb:∀ b,ax=some b→w'.heap[b]? = w.heap[b]?)
  (T:∀ v f,VR w I β s v f→(∀ id aa,(id,aa)∈f.hands→aa≤(s.ob id).aa)→VR w' I' aP s' v f) (hv:∀ id,(s.ob id).aa≤(s'.ob id).aa):kJ w' base I' aP s' ax ob:=by
 obtain ⟨b,clock,aq,h1,h2,h3,h4,h5,h6,h7⟩:=h.ex;exact ⟨fun f hf id aa e=>yZ (h.cm f hf id aa e) (hv id),b,clock,aq,h1,h2,by rw [hb b h1];exact h3,h4,h5,h6,fun j e row f he hr hf=>T _ f (h7 j e row f he hr hf) (h.cm f (yv.2 ⟨row,zH hr,zH hf⟩))⟩
theorem bY.mono {s s' : ab} {ob:yb} (h:bY w base I β s ax ob) (hI:∀ b,I b→I' b∧w'.heap[b]? = w.heap[b]?) (hb:∀ b,ax=some b→w'.heap[b]? = w.heap[b]?)
  (T:∀ v f,VR w I β s v f→(∀ id aa,(id,aa)∈f.hands→aa≤(s.ob id).aa)→VR w' I' aP s' v f) (hv:∀ id,(s.ob id).aa≤(s'.ob id).aa):bY w' base I' aP s' ax ob:=by
 cases hr:ob.ag.row with
 | true => exact .ofRow ((h.bl hr).mono hI hb) ((h.fK hr).mono hb) hr
 | false=>
  cases hs:ob.ag.bz with
  | true =>
   refine .lK ((h.eH hr hs).mono hb T hv) ?_;cases hl:ob.ag <;> rw [hl] at hr hs <;> first|rfl|(simp [yT.row,yT.bz] at hr hs;done)
  | false =>
   by_cases hm:ob.ag=.bB
   ·exact .lL ((h.j6 hm).mono hb T hv) hm
   ·exact .ofMap ((h.fY hs hm).mono hI hb) hs hm
theorem bY.lt {s:ab} {ob:yb} (h:bY w base I β s ax ob) {b:Nat} (hb:ax=some b):base≤b∧b<w.heap.size:=by
 cases hr:ob.ag.row with
 | true =>
  obtain ⟨v,us,h1,h2,h3⟩:=(h.bl hr).row;exact h1.lt b (h2.trans hb)
 | false=>
  cases hs:ob.ag.bz with
  | true =>
   obtain ⟨v,us,h1,h2,h3⟩:=(h.eH hr hs).row;exact h1.lt b (h2.trans hb)
  | false =>
   obtain ⟨b',clock,aq,h1,h2,h3⟩:=h.nK hs;rw [hb] at h1;injection h1 with h1
   subst h1;exact ⟨h2,(yQ.1 h3).1⟩
theorem iT.mono {s s' : ab} {f:FV} (h:iT w I β s v f) (hI:∀ b,I b→I' b∧w'.heap[b]? = w.heap[b]?)
  (hh:∀ id aa,f.hand=some (id,aa)→(s'.ob id).ag≠.dead→(s'.ob id).aa=aa→(s.ob id).ag≠.dead∧(s.ob id).aa=aa∧aP id=β id∧(s'.ob id).sz=(s.ob id).sz∧(s'.ob id).ag.bz=(s.ob id).ag.bz∧
   ∀ v o n,WA w (β id) (s.ob id) v o n→WA w' (aP id) (s'.ob id) v o n):iT w' I' aP s' v f:=by
 cases f with
 | own id aa o n =>
  intro h1 h2;obtain ⟨k1,k2,_,_,_,k3⟩:=hh id aa rfl h1 h2;exact k3 v o n (h k1 k2)
 | ptr id aa i off =>
  intro h1 h2;obtain ⟨k1,k2,k3,k4,k5,_⟩:=hh id aa rfl h1 h2;obtain ⟨aw,b,hb,hv⟩:=h k1 k2;exact ⟨by rw [k5];exact aw,b,by rw [k3];exact hb,by rw [k4];exact hv⟩
 | omap id aa =>
  intro h1 h2;obtain ⟨k1,k2,k3,k4,k5,_⟩:=hh id aa rfl h1 h2;obtain ⟨aw,b,hb,hv⟩:=h k1 k2;exact ⟨by rw [k5];exact aw,b,by rw [k3];exact hb,hv⟩
 | _ => exact Rd.mono hI h
theorem VR.pw {s:ab} {f:FV} (h:iT w I β s v f):VR w I β s v f:=by
 cases f with
 | wrap k fs => have h' : Rd w I v (.wrap k fs) := h; cases h'
 | _ => exact h
theorem VR.nT {s:ab} {f:FV} (h:VR w I β s v f) (hw:∀ k fs,f≠.wrap k fs):iT w I β s v f:=by
 cases f with
 | wrap k fs => exact absurd rfl (hw k fs)
 | _ => exact h
theorem VR.mono {s s' : ab} {f:FV} (h:VR w I β s v f) (hI:∀ b,I b→I' b∧w'.heap[b]? = w.heap[b]?)
  (hh:∀ id aa,(id,aa)∈f.hands→(s'.ob id).ag≠.dead→(s'.ob id).aa=aa→(s.ob id).ag≠.dead∧(s.ob id).aa=aa∧aP id=β id∧(s'.ob id).sz=(s.ob id).sz∧(s'.ob id).ag.bz=(s.ob id).ag.bz∧
   ∀ v o n,WA w (β id) (s.ob id) v o n→WA w' (aP id) (s'.ob id) v o n):VR w' I' aP s' v f:=by
 have key:∀ g:FV,(∀ k fs,g≠.wrap k fs)→∀ id aa,g.hand=some (id,aa)→(id,aa)∈g.hands:=fun g hg id aa e=>by
  cases g with
  | wrap k fs => exact absurd rfl (hg k fs)
  | own|ptr|omap => simp only [FV.hand, zI] at e; rw [← e]; exact yg.2 rfl
  | _ => cases e
 by_cases hw:∃ k fs,f=.wrap k fs
 ·obtain ⟨k,fs,rfl⟩:=hw;obtain ⟨us,e,hl,hr⟩:=h;refine ⟨us,e,hl,fun j u g hu hg=>(hr j u g hu hg).mono hI fun id aa hf=>hh id aa ?_⟩;exact Zi.2 ⟨g,zH hg,hf⟩
 ·have hw' : ∀ k fs,f≠.wrap k fs:=fun k fs e=>hw ⟨k,fs,e⟩;exact VR.pw ((h.nT hw').mono hI fun id aa hf=>hh id aa (key f hw' id aa hf))
theorem VR.bk {s:ab} {f:FV} (h:Rd w I v f) (hf:f.hand=none):VR w I β s v f:=by
 cases f <;> first|exact h|(simp [FV.hand] at hf)
theorem VR.rd {s:ab} {f:FV} (h:VR w I β s v f) (hf:f.hand=none):Rd w I v f:=by
 cases f <;> first|exact h|(simp [FV.hand] at hf)
theorem FR.step {N:Nat} {w0 w w' : World} {J:JJ} {s s' : ab} {a a' : Act} {β aP : Nat→Option Nat} (h:FR N w0 J s a w β) (C:Nat→Prop)
  (size:a'.tmps.size=N) (defers:a'.defers=J.ds) (bN:Below w0.heap.size w0 w')
  (hI:∀ b,aK J w β s b→aK J w' aP s' b∧w'.heap[b]? = w.heap[b]?)
  (cG:∀ k,(a'.tmps.getD k undef=a.tmps.getD k undef∧s'.get k=s.get k)∨
   (VR w' (aK J w' aP s') aP s' (a'.tmps.getD k undef) (s'.get k)∧∀ id aa,(id,aa)∈(s'.get k).hands→aa≤(s'.ob id).aa))
  (bE:∀ id,¬ C id→s'.ob id=s.ob id∧aP id=β id∧((s.ob id).ag≠.dead→∀ b,β id=some b→w'.heap[b]? = w.heap[b]?))
  (aA:∀ id,C id→(s.ob id).aa≤(s'.ob id).aa)
  (lD:∀ id,C id→(s'.ob id).ag≠.dead→(s'.ob id).aa=(s.ob id).aa→(s.ob id).ag≠.dead∧aP id=β id∧(s'.ob id).sz=(s.ob id).sz∧(s'.ob id).ag.bz=(s.ob id).ag.bz∧∀ v o n,WA w (β id) (s.ob id) v o n→WA w' (aP id) (s'.ob id) v o n)
  (iH:∀ id,C id→(s'.ob id).ag≠.dead→(∀ v f,VR w (aK J w β s) β s v f→(∀ id aa,(id,aa)∈f.hands→aa≤(s.ob id).aa)→VR w' (aK J w' aP s') aP s' v f)→bY w' w0.heap.size (aK J w' aP s') aP s' (aP id) (s'.ob id))
  (inj:∀ id aN b,(s'.ob id).ag≠.dead→(s'.ob aN).ag≠.dead→aP id=some b→aP aN=some b→id=aN)
  (hH:∀ b,b<w.heap.size→(∀ id,(s.ob id).ag≠.dead→β id≠some b)→w'.heap[b]? = w.heap[b]?∧∀ id,(s'.ob id).ag≠.dead→aP id≠some b):FR N w0 J s' a' w' aP:=by
 have T:∀ v f,VR w (aK J w β s) β s v f→(∀ id aa,(id,aa)∈f.hands→aa≤(s.ob id).aa)→VR w' (aK J w' aP s') aP s' v f:=fun v f hv hle=>by
  refine hv.mono hI fun id aa hf h1 h2=>?_;have hle:=hle id aa hf;by_cases hC:C id
  ·have:=aA id hC;have hv:(s'.ob id).aa=(s.ob id).aa:=by omega
   obtain ⟨k1,k2,k3,k4,k5⟩:=lD id hC h1 hv;exact ⟨k1,by omega,k2,k3,k4,k5⟩
  ·obtain ⟨e,e',hb⟩:=bE id hC;rw [e] at h1 h2;refine ⟨h1,h2,e',by rw [e],by rw [e],fun v o n hv=>?_⟩;rw [e,e'];exact hv.mono (hb h1)
 have hv:∀ id,(s.ob id).aa≤(s'.ob id).aa:=fun id=>by
  by_cases hC:C id
  ·exact aA id hC
  ·rw [(bE id hC).1];exact zm _
 refine { size:=size,defers:=defers,bN:=bN,c8:=h.c8,slot:=fun k=>?_,cm:=fun k id aa hf=>?_,obj:=fun id hl=>?_,inj:=inj,
          kept:=fun b hb=>by
           obtain ⟨k1,k2,k3⟩:=h.kept b hb;obtain ⟨q1,q2⟩:=hH b k1 k2;have:w'.heap[b]? = some w.heap[b]:=q1.trans (by simp [k1]);exact ⟨(yQ.1 this).1,q2,q1.trans k3⟩,
          gh:=fun v f hg=>⟨T v f (h.gh v f hg).1 fun id aa hf=>((h.gh v f hg).2 id aa hf).2,fun id aa hf=>⟨((h.gh v f hg).2 id aa hf).1,yZ ((h.gh v f hg).2 id aa hf).2 (hv id)⟩⟩ }
 ·rcases cG k with ⟨e1,e2⟩|⟨hv,_⟩
  ·rw [e1,e2];exact T _ _ (h.slot k) (h.cm k)
  ·exact hv
 ·rcases cG k with ⟨e1,e2⟩|⟨_,fI⟩
  ·rw [e2] at hf;exact yZ (h.cm k id aa hf) (hv id)
  ·exact fI id aa hf
 ·by_cases hC:C id
  ·exact iH id hC hl T
  ·obtain ⟨e,e',hb⟩:=bE id hC;rw [e] at hl ⊢;rw [e'];exact (h.obj id hl).mono hI (hb hl) T hv
theorem uz (a:Act) (d:Nat) (v:Value) (k:Nat) (hd:d<a.tmps.size):(a.put (some d) v).tmps.getD k undef=if d=k then v else a.tmps.getD k undef:=by
 simp only [Act.put,Yh,Array.getElem?_setIfInBounds];split
 ·rename_i h;subst h;simp
 ·rfl
theorem FR.put {N:Nat} {J:JJ} {s:ab} (h:FR N w0 J s a w β) {d:Nat} {f:FV} (hd:d<N) (hv:VR w (aK J w β s) β s v f)
  (aA:∀ id aa,(id,aa)∈f.hands→aa≤(s.ob id).aa):FR N w0 J (s.put d f) (a.put (some d) v) w β:=by
 refine h.step (C:=fun _=>False) (by simp [Act.put,h.size]) h.defers h.bN (fun b hb=>⟨hb,rfl⟩) (fun k=>?_) (fun id _=>⟨rfl,rfl,fun _ _ _=>rfl⟩) (fun _ h=>h.elim) (fun _ h=>h.elim) (fun _ h=>h.elim) h.inj (fun b _ hn=>⟨rfl,hn⟩);rw [uz a d v k (h.size▸hd),ab.du];split
 ·exact .inr ⟨hv.mono (fun b hb=>⟨hb,rfl⟩) (fun id aa _ h1 h2=>⟨h1,h2,rfl,rfl,rfl,fun _ _ _ h=>h⟩),fun id aa hf=>aA id aa hf⟩
 ·exact .inl ⟨rfl,rfl⟩
theorem aK.grow {J:JJ} {s:ab} {b:Nat} (h:aK J w β s b) (hb:Below w.heap.size w w'):aK J w' β s b∧w'.heap[b]? = w.heap[b]?:=
 ⟨⟨xO h.1 hb.size,h.2⟩,hb.block b h.1⟩
theorem FR.grow {N:Nat} {J:JJ} {s:ab} (h:FR N w0 J s a w β) (hb:Below w.heap.size w w'):FR N w0 J s a w' β:=by
 refine h.step (C:=fun _=>False) h.size h.defers (h.bN.trans (hb.mono h.bN.size)) (fun b aE=>aE.grow hb) (fun k=>.inl ⟨rfl,rfl⟩) (fun id _=>⟨rfl,rfl,fun hl b e=>?_⟩) (fun _ h=>h.elim) (fun _ h=>h.elim) (fun _ h=>h.elim) h.inj (fun b aM hn=>⟨hb.block b aM,hn⟩);exact hb.block b ((h.obj id hl).lt e).2
def YY (β:Nat→Option Nat) (j:Nat) (x:Option Nat):Nat→Option Nat:=fun k=>if k=j then x else β k
theorem FR.make {N:Nat} {J:JJ} {s:ab} (h:FR N w0 J s a w β) (i:Option Nat) (j:Nat) {E sz:Nat} {es:List (List FV)}
  (hi:∀ k,i=some k→(s.ob k).ag.eD=true) (hg:w.grownBy w' (i.bind β)) (hw:∀ e∈es,e.length=sz) (ho:∀ f∈es.flatten,f.one=true) (hv:w'.ownsRow w0.heap.size E sz v es.length xs) (hr:az w (aK J w β s) xs es.flatten)
  (hb:(v.ownBlock=i.bind β)∨v.ownBlock=none∨∃ b,v.ownBlock=some b∧w.heap.size≤b) {s' : ab}
  (hs:∀ k,s'.ob k=if j=k then ⟨(s.ob j).aa+1,.own,E,sz,es⟩ else if i=some k then { s.ob k with ag:=.dead } else s.ob k) (bF:∀ k,s'.get k=s.get k) :
  FR N w0 J s' a w' (YY β j v.ownBlock):=by
 have fV:∀ k,i.bind β=some k→w0.heap.size≤k:=fun k hk=>by
  cases i with
  | none => simp at hk
  | some i => exact ((h.obj i (yT.bg (hi i rfl))).lt (by simpa using hk)).1
 have bM:∀ b,aK J w β s b→some b≠i.bind β:=fun b aE e=>by
  cases i with
  | none => simp at e
  | some i => exact aE.2.2 i (hi i rfl) (by simpa using e.symm)
 have hI:∀ b,aK J w β s b→aK J w' (YY β j v.ownBlock) s' b∧w'.heap[b]? = w.heap[b]?:=fun b aE=>by
  refine ⟨⟨xO aE.1 hg.size,aE.2.1,fun id hl=>?_⟩,hg.block b aE.1 (bM b aE)⟩;rw [hs] at hl;unfold YY;by_cases hj:j=id
  ·rw [if_pos hj.symm];rcases hb with e|e|⟨b',e,gQ⟩
   ·rw [e];exact fun e2=>bM b aE e2.symm
   ·rw [e];simp
   ·rw [e];intro e2;injection e2 with e2;have:=aE.1;omega
  ·rw [if_neg hj] at hl;rw [if_neg (fun e=>hj e.symm)];by_cases dy:i=some id
   ·rw [if_pos dy] at hl;cases hl
   ·rw [if_neg dy] at hl;exact aE.2.2 id hl
 have aR:∀ id b,id≠j→i≠some id→(s.ob id).ag≠.dead→β id=some b→b<w.heap.size∧w'.heap[b]? = w.heap[b]?∧v.ownBlock≠some b:=fun id b hj dy hl aE=>by
  have aM:=((h.obj id hl).lt aE).2;have ly:some b≠i.bind β:=fun e=>by
   cases i with
   | none => simp at e
   | some i =>
    have:=h.inj id i b hl (yT.bg (hi i rfl)) aE (by simpa using e.symm);exact dy (by rw [this])
  refine ⟨aM,hg.block b aM ly,?_⟩;rcases hb with e|e|⟨b',e,gQ⟩
  ·rw [e];exact fun e2=>ly e2.symm
  ·rw [e];simp
  ·rw [e];intro e2;injection e2 with e2;omega
 refine h.step (C:=fun id=>id=j∨i=some id) h.size h.defers (h.bN.grown hg h.bN.size fV) hI (fun k=>.inl ⟨rfl,bF k⟩) (fun id hC=>?_) (fun id hC=>?_) (fun id hC hl dV=>?_) (fun id hC hl _=>?_) ?_ ?_
 ·have hj:¬ id=j:=fun e=>hC (.inl e);have dy:¬ i=some id:=fun e=>hC (.inr e);refine ⟨by rw [hs,if_neg (fun e=>hj e.symm),if_neg dy],by unfold YY;rw [if_neg hj],fun hl b aE=>(aR id b hj dy hl aE).2.1⟩
 ·rw [hs];split
  ·rename_i e;subst e;simp
  ·split <;> simp
 ·rw [hs] at hl dV;split at hl
  ·rename_i e;rw [if_pos e] at dV;subst e;simp at dV
  ·rename_i e;rcases hC with hC|hC
   ·exact absurd hC.symm e
   ·rw [if_pos hC] at hl;simp at hl
 ·rw [hs] at hl ⊢;split at hl
  ·rename_i e;subst e;rw [if_pos rfl];unfold YY;rw [if_pos rfl];exact .ofRow ⟨hw,ho,v,xs,hv,rfl,hr.mono hI⟩ (.own rfl) rfl
  ·rename_i e;rcases hC with hC|hC
   ·exact absurd hC.symm e
   ·rw [if_pos hC] at hl;simp at hl
 ·intro id aN b hl bf e e';unfold YY at e e';rw [hs] at hl bf;by_cases hj:id=j
  ·by_cases iq : aN=j
   ·rw [hj,iq]
   ·rw [if_pos hj] at e;rw [if_neg iq] at e';rw [if_neg (fun e=>iq e.symm)] at bf;by_cases dy:i=some aN
    ·rw [if_pos dy] at bf;simp at bf
    ·rw [if_neg dy] at bf;exact absurd e (aR aN b iq dy bf e').2.2
  ·rw [if_neg hj] at e;rw [if_neg (fun e=>hj e.symm)] at hl;have dy:¬ i=some id:=fun dy=>by rw [if_pos dy] at hl;simp at hl
   rw [if_neg dy] at hl;by_cases iq : aN=j
   ·rw [if_pos iq] at e';exact absurd e' (aR id b hj dy hl e).2.2
   ·rw [if_neg iq] at e';rw [if_neg (fun e=>iq e.symm)] at bf;have m7 : ¬ i=some aN:=fun dy=>by rw [if_pos dy] at bf;simp at bf
    rw [if_neg m7] at bf;exact h.inj id aN b hl bf e e'
 ·intro b aM hn;have ly:some b≠i.bind β:=fun e=>by
   cases i with
   | none => simp at e
   | some i => exact hn i (yT.bg (hi i rfl)) (by simpa using e.symm)
  refine ⟨hg.block b aM ly,fun id hl e=>?_⟩;unfold YY at e;rw [hs] at hl;by_cases hj:id=j
  ·rw [if_pos hj] at e;rcases hb with e2|e2|⟨b',e2,gQ⟩
   ·rw [e2] at e;exact ly e.symm
   ·rw [e2] at e;simp at e
   ·rw [e2] at e;injection e with e;omega
  ·rw [if_neg hj] at e;rw [if_neg (fun e=>hj e.symm)] at hl;have dy:¬ i=some id:=fun dy=>by rw [if_pos dy] at hl;simp at hl
   rw [if_neg dy] at hl;exact hn id hl e
theorem FR.write {N:Nat} {J:JJ} {s:ab} (h:FR N w0 J s a w β) (i:Nat) {es:List (List FV)}
  (hi:(s.ob i).ag=.own) (hg:w.grownBy w' (β i)) (hw:∀ e∈es,e.length=(s.ob i).sz) (ho:∀ f∈es.flatten,f.one=true) (hv:w'.ownsRow w0.heap.size (s.ob i).E (s.ob i).sz v es.length xs) (nE:v.ownBlock=β i)
  (hr:az w (aK J w β s) xs es.flatten) (hl:es.length=(s.ob i).es.length) (aF:∀ b cur dT,β i=some b→w.heap[b]? = some (.cells cur (s.ob i).E (0,0))→w'.heap[b]? = some (.cells dT (s.ob i).E (0,0))→dT.size=cur.size)
  {s' : ab} (hs:∀ k,s'.ob k=if i=k then { s.ob i with es:=es } else s.ob k) (bF:∀ k,s'.get k=s.get k):FR N w0 J s' a w' β:=by
 have je:(s.ob i).ag≠.dead:=by rw [hi];decide
 have hI:∀ b,aK J w β s b→aK J w' β s' b∧w'.heap[b]? = w.heap[b]?:=fun b aE=>by
  refine ⟨⟨xO aE.1 hg.size,aE.2.1,fun id hl=>?_⟩,hg.block b aE.1 (fun e=>aE.2.2 i (by rw [hi];rfl) e.symm)⟩;rw [hs] at hl;split at hl
  ·rename_i e;subst e;exact aE.2.2 i (by rw [hi];rfl)
  ·exact aE.2.2 id hl
 refine h.step (C:=fun id=>id=i) h.size h.defers (h.bN.grown hg h.bN.size fun k hk=>((h.obj i je).lt hk).1) hI (fun k=>.inl ⟨rfl,bF k⟩) (fun id hC=>?_) (fun id hC=>?_) (fun id hC bc dV=>?_) (fun id hC bc T=>?_) ?_ ?_
 ·refine ⟨by rw [hs,if_neg (fun e=>hC e.symm)],rfl,fun bc b aE=>hg.block b ((h.obj id bc).lt aE).2 (fun e=>hC (h.inj id i b bc je aE e.symm))⟩
 ·subst hC;rw [hs,if_pos rfl];exact zm _
 ·subst hC;refine ⟨je,rfl,by rw [hs,if_pos rfl],by rw [hs,if_pos rfl],fun v2 o n hL=>?_⟩;rw [hs,if_pos rfl];obtain ⟨A,c,h1,h2,h3,h4,h5⟩:=hL.ex;refine ⟨hL.row,A,c,h1,h2,by dsimp only;omega,h4,fun b aE=>?_⟩;obtain ⟨o',k1,k2,k3⟩:=h5 b aE;refine ⟨o',k1,k2,fun dT dw=>?_⟩;obtain ⟨v0,wy,r1,r2,r3⟩:=((h.obj id je).bl (by rw [hi];rfl)).row;rcases r1.2 with ⟨rfl,_⟩|⟨g,cap,cur,rfl,_,dx,_⟩
  ·rw [← r2] at aE;simp [Value.ownBlock] at aE
  ·have iF:g=b:=by rw [← r2] at aE;simpa [Value.ownBlock] using aE
   subst iF;rw [aF g cur dT aE dx dw];exact k3 cur dx
 ·subst hC;rw [hs,if_pos rfl];exact .ofRow ⟨hw,ho,v,xs,hv,nE,hr.mono hI⟩ (.own hi) (by show (s.ob id).ag.row=true;rw [hi];rfl)
 ·intro id aN b bc cu e e';refine h.inj id aN b ?_ ?_ e e'
  ·rw [hs] at bc;split at bc
   ·rename_i e;subst e;exact je
   ·exact bc
  ·rw [hs] at cu;split at cu
   ·rename_i e;subst e;exact je
   ·exact cu
 ·intro b aM hn;refine ⟨hg.block b aM (fun e=>hn i je e.symm),fun id bc=>hn id ?_⟩;rw [hs] at bc;split at bc
  ·rename_i e;subst e;exact je
  ·exact bc
theorem FR.fJ {N:Nat} {J:JJ} {s:ab} (h:FR N w0 J s a w β) (i:Nat) (l:yT) (iv:l.eD=true→(s.ob i).ag.eD=true) (hd:(s.ob i).ag=.dead→l=.dead) (jr:l≠.dead→l.bz=(s.ob i).ag.bz)
  {s' : ab} (hs:∀ k,s'.ob k=if i=k then { s.ob i with ag:=l } else s.ob k) (bF:∀ k,s'.get k=s.get k)
  (nD:l≠.dead→bY w w0.heap.size (aK J w β s') β s' (β i) (s.ob i)→bY w w0.heap.size (aK J w β s') β s' (β i) { s.ob i with ag:=l }):FR N w0 J s' a w β:=by
 have cK:∀ id,(s'.ob id).ag≠.dead→(s.ob id).ag≠.dead:=fun id hl=>by
  rw [hs] at hl;split at hl
  ·rename_i e;subst e;exact fun e=>hl (hd e)
  ·exact hl
 have hI:∀ b,aK J w β s b→aK J w β s' b∧w.heap[b]? = w.heap[b]?:=fun b aE=>by
  refine ⟨⟨aE.1,aE.2.1,fun id hl=>?_⟩,rfl⟩;rw [hs] at hl;split at hl
  ·rename_i e;subst e;exact aE.2.2 i (iv hl)
  ·exact aE.2.2 id hl
 have hv:∀ id,(s.ob id).aa≤(s'.ob id).aa:=fun id=>by
  rw [hs];split
  ·rename_i e;subst e;exact zm _
  ·exact zm _
 refine h.step (C:=fun id=>id=i) h.size h.defers h.bN hI (fun k=>.inl ⟨rfl,bF k⟩) (fun id hC=>?_) (fun id hC=>hv id) (fun id hC bc dV=>?_) (fun id hC bc T=>?_) ?_ (fun b _ hn=>⟨rfl,fun id bc=>hn id (cK id bc)⟩)
 ·exact ⟨by rw [hs,if_neg (fun e=>hC e.symm)],rfl,fun _ _ _=>rfl⟩
 ·have na:=cK id bc;subst hC;rw [hs,if_pos rfl] at bc;have a9:=jr bc;refine ⟨na,rfl,by rw [hs,if_pos rfl],by rw [hs,if_pos rfl];exact a9,fun v2 o n hL=>?_⟩;rw [hs,if_pos rfl];exact ⟨a9.trans hL.row,hL.ex⟩
 ·have na:=cK id bc;subst hC;have ho:=(h.obj id na).mono hI (fun _ _=>rfl) T hv;rw [hs,if_pos rfl] at bc ⊢;exact nD bc ho
 ·intro id aN b bc cu e e';exact h.inj id aN b (cK id bc) (cK aN cu) e e'
inductive TK where
 | other|any|int (k:IntKind)|bool|str|slice (e:Nat)|au (fs:List (Nat × Nat))|arr (n e:Nat)|map (k e:Nat)
 deriving Inhabited
def TK.aQ:TK→Option Bool
 | .au _|.arr _ _ => some true
 | .int _|.bool|.str|.slice _|.map _ _|.any => some false
 | .other => none
structure TS where
 k:TK:=.other
 size:Nat:=0
 bytes:Nat:=0
 zero:List FV:=[]
 deriving Inhabited
def yS:Value→FV→Bool
 | .int k n, .int k' n' => decide (k=k') && decide (n=n')
 | .bool a, .bool b => a == b
 | .string s, .str s' => s.size == 0 && s'.size == 0
 | .slice none 0 0, .nil => true
 | .map none, .bS => true
 | .nilFunc, .ak => true
 | _, .undef => true
 | _, _ => false
def xR:List Value→List FV→Bool
 | [], [] => true
 | v :: vs, f :: fs => yS v f && xR vs fs
 | _, _ => false
def xh (P:Program) (d:TypeDesc) (k:TK):Bool:=
 match k,d with
 | .other, _ => true
 | .any, .struct _ => false
 | .any, .array _ _ => false
 | .any, _ => true
 | .int k, .int k' => decide (k=k')
 | .bool, .bool => true
 | .str, .string => true
 | .slice e, .slice e' => decide (e=e')
 | .au fs, .struct gs => decide (fs=gs.toList.map fun f => (f.offset, f.type)) && gs.toList.all fun f => decide (f.name ≠ "_")
 | .arr n e, .array n' e' => decide (n=n') && decide (e=e')
 | .map k e, .map k' e' => decide (k=k') && decide (e=e')
 | _, _ => false
def oc (k:TK) (z:Value):Bool:=
 match k.aQ with
 | some true => match z with|.agg _ => true|_ => false
 | some false => match z with|.agg _ => false|_ => true
 | none => true
def Yr (P:Program) (T:Nat) (ts:TS):Bool:=
 match P.underlying T,P.info? T with
 | some d,some i=>
  xh P d ts.k && decide (i.size=ts.size) && decide (i.bytes=ts.bytes) && decide (ts.zero.length=ts.size) &&
   (match i.zero with|some z=>xR z.cells.toList ts.zero && oc ts.k z|none=>false)
 | _, _ => false
structure qs (P:Program) (T:Nat) (ts:TS) (d:TypeDesc) (i:TypeInfo) (z:Value):Prop where
 u:P.underlying T=some d
 k:xh P d ts.k=true
 info:P.info? T=some i
 size:i.size=ts.size
 bytes:i.bytes=ts.bytes
 zo:i.zero=some z
 zl:ts.zero.length=ts.size
 zr:xR z.cells.toList ts.zero=true
 zk:oc ts.k z=true
theorem sX {P:Program} {T:Nat} {ts:TS} (h:Yr P T ts=true):∃ d i z,qs P T ts d i z:=by
 unfold Yr at h;cases hu:P.underlying T with
 | none => rw [hu] at h; cases h
 | some d=>
  cases hi:P.info? T with
  | none => rw [hu, hi] at h; cases h
  | some i=>
   rw [hu,hi] at h;simp only [zC,decide_eq_true_eq] at h;obtain ⟨⟨⟨⟨h1,h2⟩,h3⟩,h4⟩,h5⟩:=h;cases hz:i.zero with
   | none => rw [hz] at h5; cases h5
   | some z =>
    rw [hz] at h5;simp only [zC] at h5;exact ⟨d,i,z,hu,h1,hi,h2,h3,hz,h4,h5.1,h5.2⟩
structure Ctx where
 P:Program
 N:Nat
 ty:Nat→TS
 ok:∀ T,(match (ty T).k with|.other=>true|_=>Yr P T (ty T))=true
 mixed:P.follows .mixedOrders=true
theorem Ctx.get (c:Ctx) {T:Nat} {k:TK} (h:(c.ty T).k=k) (hk:k≠.other):∃ d i z,qs c.P T (c.ty T) d i z:=by
 refine sX ?_;have:=c.ok T;cases k <;> first|exact absurd rfl hk|(rw [h] at this;exact this)
theorem Rd.zero {f:FV} (h:yS v f=true):Rd w I v f:=by
 cases f with
 | undef => exact .undef v
 | int k n =>
  cases v <;> simp [yS] at h
  obtain ⟨rfl,rfl⟩:=h;exact .int _ _
 | bool b =>
  cases v <;> simp [yS] at h
  subst h;exact .bool _
 | str s =>
  cases v <;> simp [yS] at h
  rename_i t;have e:t=s:=by rw [h.1,h.2]
  subst e;exact .str _
 | nil=>
  cases v with
  | slice a n c =>
   cases a with
   | none => cases n <;> cases c <;> first|exact .nil|(simp [yS] at h)
   | some a => simp [yS] at h
  | _ => simp [yS] at h
 | bS=>
  cases v with
  | map a =>
   cases a with
   | none => exact .bS
   | some a => simp [yS] at h
  | _ => simp [yS] at h
 | ak =>
  cases v with
  | nilFunc => exact .ak
  | _ => simp [yS] at h
 | _ => cases v <;> first|(simp [yS] at h; done)|(rename_i a n c; cases a <;> cases n <;> cases c <;> simp [yS] at h)
theorem az.zeros {w:World} {I:Nat→Prop}:∀ {vs:List Value} {fs:List FV},xR vs fs=true→az w I vs fs
 | [], [], _ => az.nil
 | [], _ :: _, h => by simp [xR] at h
 | _ :: _, [], h => by simp [xR] at h
 | v :: vs, f :: fs, h => by
  simp only [xR,zC] at h;exact az.cons (Rd.zero h.1) (az.zeros h.2)
def cM:Value→FV
 | .int k n => .int k n
 | .bool b => .bool b
 | .string s => .str s
 | .slice none 0 0 => .nil
 | .map none => .bS
 | _ => .undef
def ep:Value→FV
 | .agg cs => .agg (cs.toList.map cM)
 | v => cM v
theorem Rd.cM (v:Value):Rd w I v (cM v):=by
 unfold YtedkppfghdipdaaGreatDoor.cM;split <;> first|exact .int _ _|exact .bool _|exact .str _|exact .nil|exact .bS|exact .undef _
theorem Rd.ep (v:Value):Rd w I v (ep v):=by
 unfold YtedkppfghdipdaaGreatDoor.ep;split
 ·rename_i cs;have:=Rd.agg (w:=w) (I:=I) cs.toList (cs.toList.map YtedkppfghdipdaaGreatDoor.cM) zd (fun j u f hu hf=>by
   rw [yW,hu] at hf;simp only [xe,zI] at hf;subst hf;exact Rd.cM u)
  simpa using this
 ·exact Rd.cM v
theorem VW (v:Value):(ep v).hand=none:=by
 unfold ep;split
 ·rfl
 ·unfold cM;split <;> rfl
def ab.ev (s:ab):Operand→FV
 | .tmp t => s.get t
 | .const v => ep v
 | .func f => .fn f []
 | _ => .undef
section
variable {N:Nat} {w0 w:World} {J:JJ} {s:ab} {a:Act} {β:Nat→Option Nat}
theorem FR.ev (h:FR N w0 J s a w β) (x:Operand):VR w (aK J w β s) β s (a.eval x) (s.ev x):=by
 cases x with
 | tmp t => exact h.slot t
 | const v =>
  exact VR.bk (Rd.ep v) (VW v)
 | global g => exact Rd.undef _
 | func f => exact VR.bk (Rd.fn f [] [] rfl zd) rfl
theorem FR.cj (h:FR N w0 J s a w β) (x:Operand) {id aa:Nat} (hf:(id,aa)∈(s.ev x).hands):aa≤(s.ob id).aa:=by
 cases x with
 | tmp t => exact h.cm t id aa hf
 | const v =>
  rw [ab.ev] at hf;exact (FV.aU (VW _) hf).elim
 | global g => simp [ab.ev, FV.hands] at hf
 | func f => simp [ab.ev, FV.hands] at hf
theorem FR.aT (h:FR N w0 J s a w β) {k:IntKind} {n:Int} (e:s.ev x=.int k n):a.eval x=.int k n:=by
 have:=h.ev x;rw [e] at this;have:=VR.rd this rfl;generalize a.eval x=v at this;cases this;rfl
theorem FR.cx (h:FR N w0 J s a w β) (e:s.ev x=.bool b):a.eval x=.bool b:=by
 have:=h.ev x;rw [e] at this;have:=VR.rd this rfl;generalize a.eval x=v at this;cases this;rfl
theorem FR.cp (h:FR N w0 J s a w β) (e:s.ev x=.nil):a.eval x=.slice none 0 0:=by
 have:=h.ev x;rw [e] at this;have:=VR.rd this rfl;generalize a.eval x=v at this;cases this;rfl
theorem FR.aV (h:FR N w0 J s a w β) {f:FV} (e:s.ev x=f) (hf:f.hand=none):Rd w (aK J w β s) (a.eval x) f:=by
 have:=h.ev x;rw [e] at this;exact VR.rd this hf
theorem FR.bu (h:FR N w0 J s a w β) {id aa o:Nat} (e:s.ev x=.own id aa o n) (hl:(s.ob id).ag≠.dead) (hv:(s.ob id).aa=aa):WA w (β id) (s.ob id) (a.eval x) o n:=by
 have:=h.ev x;rw [e] at this;exact this hl hv
theorem FR.bL (h:FR N w0 J s a w β) {id aa:Nat} (e:s.ev x=.ptr id aa i off) (hl:(s.ob id).ag≠.dead) (hv:(s.ob id).aa=aa):(s.ob id).ag.bz=true∧∃ b,β id=some b∧a.eval x=.pointer (some ⟨b,i * (s.ob id).sz+off,none⟩):=by
 have:=h.ev x;rw [e] at this;exact this hl hv
theorem FR.er (h:FR N w0 J s a w β) {id aa:Nat} (e:s.ev x=.omap id aa) (hl:(s.ob id).ag≠.dead) (hv:(s.ob id).aa=aa):(s.ob id).ag.bz=false∧∃ b,β id=some b∧a.eval x=.map (some b):=by
 have:=h.ev x;rw [e] at this;exact this hl hv
end
def cd:BinOp→IntKind→Int→Int→Option FV
 | .add, k, a, b => some (.int k (k.wrap (a+b)))
 | .sub, k, a, b => some (.int k (k.wrap (a - b)))
 | .mul, k, a, b => some (.int k (k.wrap (a * b)))
 | .eql, _, a, b => some (.bool (a == b))
 | .neq, _, a, b => some (.bool (a != b))
 | .lss, _, a, b => some (.bool (decide (a<b)))
 | .leq, _, a, b => some (.bool (decide (a ≤ b)))
 | .gtr, _, a, b => some (.bool (decide (a > b)))
 | .geq, _, a, b => some (.bool (decide (a ≥ b)))
 | .and, k, a, b => some (.int k (k.wrap (BitVec.ofInt k.bits a &&& BitVec.ofInt k.bits b).toNat))
 | .or, k, a, b => some (.int k (k.wrap (BitVec.ofInt k.bits a ||| BitVec.ofInt k.bits b).toNat))
 | _, _, _, _ => none
section
variable {N:Nat} {w0 w:World} {J:JJ} {s:ab} {a:Act} {β:Nat→Option Nat} {P:Program}
theorem vk (op:BinOp) (T T2:TypeId) (x y:Operand) {k:IntKind} {n:Int} {f:FV} (ex:a.eval x=.int k m) (ey:a.eval y=.int k n) (hf:cd op k m n=some f) (dst:Option Nat) (ty:TypeId) (pos:String) (after:Array Edge) (g:Option (Nat×Bool)) (I:Nat→Prop) :
  ∃ v,(execOp a.eval ⟨dst,.binOp op T x y T2,ty,pos,after,g⟩).run P w=.ok (.value v) w∧Rd w I v f∧f.hand=none:=by
 cases op <;> simp only [cd,zI,reduceCtorEq] at hf <;> subst hf <;>
  simp [execOp,eqGuard,binOp,ex,ey,Op.intArith,Op.intCmp,Op.intBits,FV.hand] <;> first|exact .int _ _|exact .bool _
theorem uh (op:BinOp) (T T2:TypeId) (x y:Operand) {k yk:IntKind} {n:Int} (ex:a.eval x=.int k m) (ey:a.eval y=.int yk n) (hn:0≤n) (bK:op=.shl∨op=.shr) (dst:Option Nat) (ty:TypeId) (pos:String) (after:Array Edge) (g:Option (Nat×Bool)) :
  (execOp a.eval ⟨dst,.binOp op T x y T2,ty,pos,after,g⟩).run P w=.ok (.value (.int k (if op=.shl then k.wrap (m * 2 ^ (min n.toNat k.bits)) else m.fdiv (2 ^ (min n.toNat k.bits))))) w:=by
 have kz : ¬ n<0:=by omega
 rcases bK with rfl|rfl <;> simp [execOp,eqGuard,binOp,ex,ey,Op.shift,kz]
theorem vn (op:BinOp) (T T2:TypeId) (x y:Operand) {k:IntKind} {n:Int} (ex:a.eval x=.int k m) (ey:a.eval y=.int k n) (hn:n≠0) (bK:op=.quo∨op=.rem) (dst:Option Nat) (ty:TypeId) (pos:String) (after:Array Edge) (g:Option (Nat×Bool)) :
  (execOp a.eval ⟨dst,.binOp op T x y T2,ty,pos,after,g⟩).run P w=.ok (.value (.int k (if op=.quo then k.wrap (m.tdiv n) else m.tmod n))) w:=by
 rcases bK with rfl|rfl <;> simp [execOp,eqGuard,binOp,ex,ey,Op.intDiv,hn]
theorem vh (op:BinOp) {T:TypeId} (x y:Operand) {m n:Bool} (hT:P.underlying T=some .bool) (ex:a.eval x=.bool m) (ey:a.eval y=.bool n) (bK:op=.eql∨op=.neq) (dst:Option Nat) (ty:TypeId) (pos:String) (after:Array Edge) (g:Option (Nat×Bool)) :
  (execOp a.eval ⟨dst,.binOp op T x y T2,ty,pos,after,g⟩).run P w=.ok (.value (.bool (if op=.eql then m == n else m != n))) w:=by
 have h1:∀ op:BinOp,(eqGuard op T x y (.bool m) (.bool n)).run P w=.ok () w:=fun op=>by cases op <;> simp [eqGuard]
 have h2:=run_equal_bool (P:=P) w T m n hT;rcases bK with rfl|rfl
 ·have e:binOp .eql T (.bool m) (.bool n)=(do pure (.bool (← Op.equal T (.bool m) (.bool n)))):=rfl;simp only [execOp,ex,ey,e,xf,Result.andThen,h1,h2,xg,if_true]
 ·have e:binOp .neq T (.bool m) (.bool n)=(do pure (.bool (!(← Op.equal T (.bool m) (.bool n))))):=rfl;simp only [execOp,ex,ey,e,xf,Result.andThen,h1,h2,xg,bne];rfl
end
theorem yD (b o n:Nat):(⟨b,o,none⟩:Addr).add n=⟨b,o+n,none⟩:=by
 unfold Addr.add;split
 ·rename_i h;subst h;rfl
 ·rfl
def xB (ts:TS) (cs:List FV):FV:=
 match ts.k.aQ with
 | some true => .agg (cs.take ts.size)
 | _ => cs.headD .undef
theorem zZ {P:Program} {e:Nat} (h:xh P d (.slice e)=true):d=.slice e:=by
 cases d <;> simp [xh] at h
 subst h;rfl
theorem VF {P:Program} {e:Nat} (h:xh P d (.arr n e)=true):d=.array n e:=by
 cases d <;> simp [xh] at h
 obtain ⟨rfl,rfl⟩:=h;rfl
theorem VG {P:Program} {e:Nat} (h:xh P d (.map n e)=true):d=.map n e:=by
 cases d <;> simp [xh] at h
 obtain ⟨rfl,rfl⟩:=h;rfl
theorem pJ {P:Program} {k:IntKind} (h:xh P d (.int k)=true):d=.int k:=by
 cases d <;> simp [xh] at h
 subst h;rfl
theorem Uv {P:Program} (h:xh P d .bool=true):d=.bool:=by
 cases d <;> first|rfl|(simp [xh] at h)
theorem tW {P:Program} (h:xh P d .str=true):d=.string:=by
 cases d <;> first|rfl|(simp [xh] at h)
theorem ZS {P:Program} (h:xh P d (.au fs)=true):∃ gs,d=.struct gs∧fs=gs.toList.map (fun f=>(f.offset,f.type))∧∀ f∈gs.toList,f.name≠"_":=by
 cases d <;> simp [xh] at h
 rename_i gs;refine ⟨gs,rfl,h.1,fun f hf=>?_⟩;obtain ⟨i,hi,rfl⟩:=yu hf;have:=h.2 i (by simpa using hi);simpa using this
theorem ZI {c:Ctx} {T:Nat} (hk:(c.ty T).k.aQ = some b) (w:World):(isAgg T).run c.P w=.ok b w:=by
 cases e7:(c.ty T).k with
 | other => rw [e7] at hk; cases hk
 | any =>
  obtain ⟨d,i,z,h⟩:=c.get e7 zd;have hd:=h.k;rw [e7] at hd hk;simp only [TK.aQ,zI] at hk;subst hk;cases d <;> first|(simp [xh] at hd;done)|simp [isAgg,run_underlying h.u]
 | _=>
  obtain ⟨d,i,z,h⟩:=c.get e7 zd;have hd:=h.k;rw [e7] at hd hk
  first
   | (obtain ⟨gs, rfl, _⟩ := ZS hd; simp only [TK.aQ, zI] at hk; subst hk; simp [isAgg, run_underlying h.u])
   | (obtain rfl := VF hd; simp only [TK.aQ, zI] at hk; subst hk; simp [isAgg, run_underlying h.u])
   | (obtain rfl := pJ hd; simp only [TK.aQ, zI] at hk; subst hk; simp [isAgg, run_underlying h.u])
   | (obtain rfl := Uv hd; simp only [TK.aQ, zI] at hk; subst hk; simp [isAgg, run_underlying h.u])
   | (obtain rfl := tW hd; simp only [TK.aQ, zI] at hk; subst hk; simp [isAgg, run_underlying h.u])
   | (obtain rfl := zZ hd; simp only [TK.aQ, zI] at hk; subst hk; simp [isAgg, run_underlying h.u])
   | (obtain rfl := VG hd; simp only [TK.aQ, zI] at hk; subst hk; simp [isAgg, run_underlying h.u])
theorem qa {k:TK} (h:k.aQ = some b):k≠.other:=by rintro rfl;cases h
theorem yl {c:Ctx} {T:Nat} (hk:(c.ty T).k≠.other) (w:World):(sizeOf T).run c.P w=.ok (c.ty T).size w:=by
 obtain ⟨d,i,z,h⟩:=c.get rfl hk;simp [sizeOf,typeInfo,h.info,h.size]
theorem Zp {c:Ctx} {T:Nat} (hk:(c.ty T).k≠.other) (w:World):∃ z,(zeroValue T).run c.P w=.ok z w∧xR z.cells.toList (c.ty T).zero=true∧z.cells.size=(c.ty T).size:=by
 obtain ⟨d,i,z,h⟩:=c.get rfl hk;refine ⟨z,by simp [zeroValue,typeInfo,h.info,h.zo],h.zr,?_⟩;have:=(az.zeros (w:=w) (I:=fun _=>True) h.zr).1;rw [h.zl] at this;simpa using this
theorem Yo {c:Ctx} {T:Nat} (hk:(c.ty T).k.aQ = some bb) (w:World) (b o:Nat) (us:List Value) (hl:(c.ty T).size≤us.length) (h1:bb=false→0<us.length)
  (hc:∀ (j:Nat) u,us[j]? = some u→w.cell? ⟨b,o+j,none⟩=some u) {fs:List FV} (hr:az w I us fs) :
  ∃ v,(loadVar T ⟨b,o,none⟩).run c.P w=.ok v w∧Rd w I v (xB (c.ty T) fs):=by
 cases bb with
 | true=>
  refine ⟨.agg (us.take (c.ty T).size).toArray,?_,?_⟩
  ·have hs:=yl (qa hk) w;have o4:=run_loadCells_list (P:=c.P) (w:=w) ⟨b,o,none⟩ (us.take (c.ty T).size) (fun j v hv=>by
    rw [yD];rw [yr] at hv;split at hv
    ·exact hc j v hv
    ·cases hv)
   rw [zT,yI hl] at o4;simp [loadVar,ZI hk,hs,o4]
  ·unfold xB;rw [hk];have:=hr.take (c.ty T).size;exact .agg _ _ this.1 this.2
 | false=>
  have h0:=h1 rfl;obtain ⟨u,rest,rfl⟩:∃ u rest,us=u::rest:=by cases us with|nil=>simp at h0|cons u r=>exact ⟨u,r,rfl⟩
  obtain ⟨f,gs,rfl⟩:∃ f gs,fs=f::gs:=by cases fs with|nil=>have:=hr.1;simp at this|cons f r=>exact ⟨f,r,rfl⟩
  refine ⟨u,?_,?_⟩
  ·have:=hc 0 u rfl;rw [xN] at this;simp [loadVar,ZI hk,load,Sem.run,this]
  ·unfold xB;rw [hk];exact hr.2 0 u f rfl rfl
def FV.cells:FV→List FV
 | .agg cs => cs
 | f => [f]
theorem Rd.dB {f:FV} (h:Rd w I v f) (hf:f.one=true):v.oneCell'=true:=by
 cases h <;> first|rfl|(simp [FV.one] at hf)
theorem Rd.cells {f:FV} (h:Rd w I v f) (hf:f.cells.all FV.one=true):az w I v.cells.toList f.cells∧(∀ u∈v.cells.toList,u.oneCell'=true):=by
 have key:az w I v.cells.toList f.cells:=by
  cases h with
  | agg us fs hl hr => exact ⟨by simpa [Value.cells, FV.cells] using hl, by simpa [Value.cells, FV.cells] using hr⟩
  | undef v => simp [FV.cells, FV.one] at hf
  | bG us fs hl hr => simp [FV.cells, FV.one] at hf
  | aH b off sz es i o us hI he ho hA hl hr => exact az.cons (.aH b off sz es i o us hI he ho hA hl hr) az.nil
  | iV f us fs hl hr => exact az.cons (.iV f us fs hl hr) az.nil
  | perm v sz es aS hp hr => simp [FV.cells, FV.one] at hf
  | dk v es aS hp hr => simp [FV.cells, FV.one] at hf
  | int k n => exact az.cons (.int k n) .nil
  | bool b => exact az.cons (.bool b) .nil
  | str s => exact az.cons (.str s) .nil
  | nil => exact az.cons .nil az.nil
  | bS => exact az.cons .bS az.nil
  | ak => exact az.cons .ak az.nil
  | list A n c sz es us hn hc he ho hA hl hr => exact az.cons (.list A n c sz es us hn hc he ho hA hl hr) az.nil
  | smap b clock aq es hI hb bF hl hk hr => exact az.cons (.smap b clock aq es hI hb bF hl hk hr) az.nil
  | fn f us fs hl hr => exact az.cons (.fn f us fs hl hr) az.nil
  | iface t v f hr => exact az.cons (.iface t v f hr) az.nil
 refine ⟨key,fun u hu=>?_⟩;obtain ⟨j,hj,rfl⟩:=yu hu;have eU:j<f.cells.length:=by rw [← key.1];exact hj
 refine (key.2 j _ f.cells[j] zd (by simp [eU])).dB ?_;rw [zG] at hf;exact hf _ (yt eU)
theorem Rd.fp {f:FV} (hf:f.cells.all FV.one=true):f.hand=none:=by
 cases f <;> first|rfl|(simp [FV.cells,FV.one] at hf)
def ab.wr (s:ab) (l:List (Nat×yb)):ab:=l.foldl (fun s p=>s.set p.1 p.2) s
theorem ab.cg (l:List (Nat×yb)):∀ (s:ab) (k:Nat),(s.wr l).get k=s.get k:=by
 induction l with
 | nil => exact fun _ _ => rfl
 | cons p l ih => exact fun s k => ih (s.set p.1 p.2) k
def ab.live (s:ab) (id aa:Nat):Prop:=(s.ob id).ag≠.dead∧(s.ob id).aa=aa
def yy (c:Ctx) (w0:World) (J:JJ) (s:ab) (a:Act) (o:Oper) (w:World) (f:FV) (wr:List (Nat×yb)):Prop:=
 ∃ v w' aP,(execOp a.eval o).run c.P w=.ok (.value v) w'∧FR c.N w0 J (s.wr wr) a w' aP∧VR w' (aK J w' aP (s.wr wr)) aP (s.wr wr) v f∧∀ id aa,(id,aa)∈f.hands→aa≤((s.wr wr).ob id).aa
section
variable {c:Ctx} {w0 w:World} {J:JJ} {s:ab} {a:Act} {β:Nat→Option Nat} {dst:Option Nat} {ty:TypeId} {pos:String} {after:Array Edge} {g:Option (Nat×Bool)}
theorem yy.pure {o:Oper} {f:FV} (h:FR c.N w0 J s a w β) (hr:(execOp a.eval o).run c.P w=.ok (.value v) w) (hf:VR w (aK J w β s) β s v f) (hv:∀ id aa,(id,aa)∈f.hands→aa≤(s.ob id).aa):yy c w0 J s a o w f []:=
 ⟨v,w,β,hr,h,hf,hv⟩
theorem yy.rd {o:Oper} {f:FV} (h:FR c.N w0 J s a w β) (hr:(execOp a.eval o).run c.P w=.ok (.value v) w) (hf:Rd w (aK J w β s) v f) (hn:f.hand=none):yy c w0 J s a o w f []:=
 .pure h hr (VR.bk hf hn) (fun id aa e=>(FV.aU hn e).elim)
theorem uH (h:FR c.N w0 J s a w β) (x:Operand):yy c w0 J s a ⟨dst,.move x,ty,pos,after,g⟩ w (s.ev x) []:=
 .pure h (v:=a.eval x) (by simp [execOp]) (h.ev x) (fun id aa e=>h.cj x e)
theorem sx (h:FR c.N w0 J s a w β) (x:Operand):yy c w0 J s a ⟨dst,.assign x,ty,pos,after,g⟩ w (s.ev x) []:=
 .pure h (v:=a.eval x) (by simp [execOp]) (h.ev x) (fun id aa e=>h.cj x e)
theorem uI (h:FR c.N w0 J s a w β) (eQ x y:Operand) (hb:s.ev eQ=.bool b):yy c w0 J s a ⟨dst,.pick eQ x y,ty,pos,after,g⟩ w (if b then s.ev x else s.ev y) []:=by
 have e:=h.cx hb;cases b
 ·exact .pure h (v:=a.eval y) (by simp [execOp,e,asBool]) (h.ev y) (fun id aa e=>h.cj y e)
 ·exact .pure h (v:=a.eval x) (by simp [execOp,e,asBool]) (h.ev x) (fun id aa e=>h.cj x e)
theorem uD (h:FR c.N w0 J s a w β) (op:BinOp) (T T2:TypeId) (x y:Operand) {k:IntKind} {n:Int} {f:FV} (ex:s.ev x=.int k m) (ey:s.ev y=.int k n) (hf:cd op k m n=some f) :
  yy c w0 J s a ⟨dst,.binOp op T x y T2,ty,pos,after,g⟩ w f []:=by
 obtain ⟨v,h1,h2,h3⟩:=vk (P:=c.P) (w:=w) op T T2 x y (h.aT ex) (h.aT ey) hf dst ty pos after g (aK J w β s);exact .rd h h1 h2 h3
theorem uE (h:FR c.N w0 J s a w β) (op:BinOp) (T T2:TypeId) (x y:Operand) {k:IntKind} {n:Int} (ex:s.ev x=.int k m) (ey:s.ev y=.int k n) (hn:n≠0) (bK:op=.quo∨op=.rem) :
  yy c w0 J s a ⟨dst,.binOp op T x y T2,ty,pos,after,g⟩ w (.int k (if op=.quo then k.wrap (m.tdiv n) else m.tmod n)) []:=
 .rd h (vn (P:=c.P) (w:=w) op T T2 x y (h.aT ex) (h.aT ey) hn bK dst ty pos after g) (.int _ _) rfl
theorem tC (h:FR c.N w0 J s a w β) (op:BinOp) (T T2:TypeId) (x y:Operand) {k yk:IntKind} {n:Int} (ex:s.ev x=.int k m) (ey:s.ev y=.int yk n) (hn:0≤n) (bK:op=.shl∨op=.shr) :
  yy c w0 J s a ⟨dst,.binOp op T x y T2,ty,pos,after,g⟩ w (.int k (if op=.shl then k.wrap (m * 2 ^ (min n.toNat k.bits)) else m.fdiv (2 ^ (min n.toNat k.bits)))) []:=
 .rd h (uh (P:=c.P) (w:=w) op T T2 x y (h.aT ex) (h.aT ey) hn bK dst ty pos after g) (.int _ _) rfl
theorem uB (h:FR c.N w0 J s a w β) {T:TypeId} (hT:(c.ty T).k≠.other) (jI:(c.ty T2).k=.int k2) (x:Operand) {k:IntKind} {n:Int} (ex:s.ev x=.int k n) :
  yy c w0 J s a ⟨dst,.convert T T2 x,ty,pos,after,g⟩ w (.int k2 (k2.wrap n)) []:=by
 obtain ⟨d1,i1,z1,h1⟩:=c.get (T:=T) rfl hT;obtain ⟨d2,i2,z2,h2⟩:=c.get jI zd;have ja:=h2.k;rw [jI] at ja;obtain rfl:=pJ ja;refine .rd h (v:=.int k2 (k2.wrap n)) ?_ (.int _ _) rfl;have hc:(convert T T2 (.int k n)).run c.P w=.ok (.int k2 (k2.wrap n)) w:=by
  unfold convert;simp [run_underlying h1.u,run_underlying h2.u,Conv.intToInt]
 simp [execOp,h.aT ex,hc]
theorem uA (h:FR c.N w0 J s a w β) (op:BinOp) {T:TypeId} (x y:Operand) {m n:Bool} (hT:(c.ty T).k=.bool) (ex:s.ev x=.bool m) (ey:s.ev y=.bool n) (bK:op=.eql∨op=.neq) :
  yy c w0 J s a ⟨dst,.binOp op T x y T2,ty,pos,after,g⟩ w (.bool (if op=.eql then m == n else m != n)) []:=by
 obtain ⟨d,i,z,ht⟩:=c.get hT zd;have hd:=ht.k;rw [hT] at hd;obtain rfl:=Uv hd;exact .rd h (vh (P:=c.P) (w:=w) op x y ht.u (h.cx ex) (h.cx ey) bK dst ty pos after g) (.bool _) rfl
theorem tV (h:FR c.N w0 J s a w β) (T:TypeId) (x:Operand) (ex:s.ev x=.bool b):yy c w0 J s a ⟨dst,.unOp .not T x,ty,pos,after,g⟩ w (.bool (!b)) []:=
 .rd h (v:=.bool (!b)) (by simp [execOp,h.cx ex,Op.unary]) (.bool _) rfl
theorem tU (h:FR c.N w0 J s a w β) (T:TypeId) (x:Operand) {k:IntKind} {n:Int} (ex:s.ev x=.int k n):yy c w0 J s a ⟨dst,.unOp .neg T x,ty,pos,after,g⟩ w (.int k (k.wrap (-n))) []:=
 .rd h (v:=.int k (k.wrap (-n))) (by simp [execOp,h.aT ex,Op.unary,Op.intArith]) (.int _ _) rfl
theorem uG (h:FR c.N w0 J s a w β) (bi:Builtin) (T T2:TypeId) (x y:Operand) {k:IntKind} {n:Int} (ex:s.ev x=.int k m) (ey:s.ev y=.int k n) (eL:bi=.min∨bi=.max) :
  yy c w0 J s a ⟨dst,.call { callee:=.builtin bi,args:=#[x,y],argTypes:=#[T,T2] },ty,pos,after,g⟩ w (.int k (if bi=.min then (if n<m then n else m) else (if m<n then n else m))) []:=by
 rcases eL with rfl|rfl
 ·refine .rd h (v:=.int k (if n<m then n else m)) ?_ (.int _ _) rfl;simp [execOp,resolve,invoke,builtin,Builtin.min_,Builtin.min2,h.aT ex,h.aT ey]
 ·refine .rd h (v:=.int k (if m<n then n else m)) ?_ (.int _ _) rfl;simp [execOp,resolve,invoke,builtin,Builtin.max_,Builtin.max2,h.aT ex,h.aT ey]
theorem nX {T e:TypeId} (hT:(c.ty T).k=.slice e) (x:Operand) (ex:a.eval x=.slice A n cc) :
  (execOp a.eval ⟨dst,.call { callee:=.builtin .len,args:=#[x],argTypes:=#[T] },ty,pos,after,g⟩).run c.P w=.ok (.value (.int .i64 n)) w:=by
 obtain ⟨d,i,z,ht⟩:=c.get hT zd;have hd:=ht.k;rw [hT] at hd;obtain rfl:=zZ hd;simp [execOp,resolve,invoke,builtin,Builtin.len_,ex,run_underlying ht.u,goInt]
theorem Un (h:FR c.N w0 J s a w β) {T e:TypeId} (hT:(c.ty T).k=.slice e) (x:Operand) {id aa o:Nat} (ex:s.ev x=.own id aa o n) (hl:s.live id aa) :
  yy c w0 J s a ⟨dst,.call { callee:=.builtin .len,args:=#[x],argTypes:=#[T] },ty,pos,after,g⟩ w (.int .i64 n) []:=by
 obtain ⟨A,cc,h1,_⟩:=(h.bu ex hl.1 hl.2).ex;exact .rd h (nX hT x h1) (.int _ _) rfl
theorem Vw (h:FR c.N w0 J s a w β) {T e:TypeId} (hT:(c.ty T).k=.slice e) (x:Operand) {sz:Nat} {es:List (List FV)} (ex:s.ev x=.list sz es) :
  yy c w0 J s a ⟨dst,.call { callee:=.builtin .len,args:=#[x],argTypes:=#[T] },ty,pos,after,g⟩ w (.int .i64 es.length) []:=by
 have hr:=h.aV ex rfl;generalize hx:a.eval x=v at hr;cases hr with
 | list A n cc sz es us hn => subst hn; exact .rd h (nX hT x hx) (.int _ _) rfl
theorem Um (h:FR c.N w0 J s a w β) {T e:TypeId} (hT:(c.ty T).k=.slice e) (x:Operand) (ex:s.ev x=.nil) :
  yy c w0 J s a ⟨dst,.call { callee:=.builtin .len,args:=#[x],argTypes:=#[T] },ty,pos,after,g⟩ w (.int .i64 0) []:=
 .rd h (by have:=nX (c:=c) (w:=w) (dst:=dst) (ty:=ty) (pos:=pos) (after:=after) (g:=g) hT x (h.cp ex);simpa using this) (.int _ _) rfl
theorem FR.dt (h:FR c.N w0 J s a w β) {sz o:Nat} {es:List (List FV)} (e:s.ev x=.aH sz es i o) :
  ∃ b off us,a.eval x=.pointer (some ⟨b,off+(i * sz+o),none⟩)∧aK J w β s b∧(∀ e∈es,e.length=sz)∧(∀ f∈es.flatten,f.one=true)∧(∀ (j:Nat) u,us[j]? = some u→w.cell? ⟨b,off+j,none⟩=some u)∧az w (aK J w β s) us es.flatten:=by
 have hr:=h.aV e rfl;generalize a.eval x=v at hr;cases hr with
 | aH b off sz es i o us hI he ho hA hl hr => exact ⟨b, off, us, rfl, hI, he, ho, hA, hl, hr⟩
theorem UQ {T:Nat} (hT:(c.ty T).k=.au fs) (hf:fs[i]? = some (off,ft)) (dG:(c.ty ft).k≠.other) (aF:(c.ty ft).size≠0) (x:Operand) {b o:Nat} (ex:a.eval x=.pointer (some ⟨b,o,none⟩)) :
  (execOp a.eval ⟨dst,.fieldAddr T x i,ty,pos,after,g⟩).run c.P w=.ok (.value (.pointer (some ⟨b,o+off,none⟩))) w:=by
 obtain ⟨d,ii,z,ht⟩:=c.get hT zd;have hd:=ht.k;rw [hT] at hd;obtain ⟨gs,rfl,gm,_⟩:=ZS hd;rw [gm,yW] at hf;cases hg:gs.toList[i]? with
 | none => rw [hg] at hf; cases hf
 | some fl =>
  rw [hg] at hf;simp only [xe,zI,yi] at hf;obtain ⟨rfl,rfl⟩:=hf;have mZ : gs[i]? = some fl:=by simpa using hg
  have hs:=yl (c:=c) dG w;simp [execOp,Instr.fieldAt,run_underlying ht.u,mZ,ex,Instr.sureAddr,fieldPlace,hs,aF,yD]
theorem WH (h:FR c.N w0 J s a w β) {T:Nat} (hT:(c.ty T).k=.au fs) (hf:fs[i]? = some (off,ft)) (dG:(c.ty ft).k≠.other) (aF:(c.ty ft).size≠0) (x:Operand)
  {id aa o:Nat} (ex:s.ev x=.ptr id aa j o) (hl:s.live id aa):yy c w0 J s a ⟨dst,.fieldAddr T x i,ty,pos,after,g⟩ w (.ptr id aa j (o+off)) []:=by
 obtain ⟨aw,b,hb,hv⟩:=h.bL ex hl.1 hl.2;refine .pure h (UQ hT hf dG aF x hv) (fun _ _=>⟨aw,b,hb,by rw [Xz]⟩) (fun aN bo e=>h.cj x (by rw [ex];exact e))
theorem Wa (h:FR c.N w0 J s a w β) {T:Nat} (hT:(c.ty T).k=.au fs) (hf:fs[i]? = some (off,ft)) (dG:(c.ty ft).k≠.other) (aF:(c.ty ft).size≠0) (x:Operand)
  {sz o:Nat} {es:List (List FV)} (ex:s.ev x=.aH sz es j o):yy c w0 J s a ⟨dst,.fieldAddr T x i,ty,pos,after,g⟩ w (.aH sz es j (o+off)) []:=by
 obtain ⟨b,dr,us,hv,hI,he,ho,hA,hr⟩:=h.dt ex;refine .rd h (UQ hT hf dG aF x hv) ?_ rfl;have:=Rd.aH (w:=w) (I:=aK J w β s) b dr sz es j (o+off) us hI he ho hA hr.1 hr.2;rwa [show dr+(j * sz+(o+off))=dr+(j * sz+o)+off by omega] at this
theorem UR {T e:Nat} (hT:(c.ty T).k=.slice e) (he:(c.ty e).k≠.other) (x y:Operand) {b o m:Nat} {k:IntKind} {n:Int} (ex:a.eval x=.slice (some ⟨b,o,none⟩) m cc) (ey:a.eval y=.int k n) (h0:0≤n) (h1:n<m) :
  (execOp a.eval ⟨dst,.indexAddr T x y,ty,pos,after,g⟩).run c.P w=.ok (.value (.pointer (some ⟨b,o+n.toNat * (c.ty e).size,none⟩))) w:=by
 obtain ⟨d,ii,z,ht⟩:=c.get hT zd;have hd:=ht.k;rw [hT] at hd;obtain rfl:=zZ hd;have hs:=yl (c:=c) he w;simp [execOp,Instr.indexAt,run_underlying ht.u,ex,ey,asIntOf,hs,h0,h1,yD]
theorem Wc (h:FR c.N w0 J s a w β) {T e:Nat} (hT:(c.ty T).k=.slice e) (he:(c.ty e).k≠.other) (x y:Operand) {sz:Nat} {es:List (List FV)} {k:IntKind} (ex:s.ev x=.list sz es) (aF:(c.ty e).size=sz)
  (ey:s.ev y=.int k n) (h1:n<es.length):yy c w0 J s a ⟨dst,.indexAddr T x y,ty,pos,after,g⟩ w (.aH sz es n 0) []:=by
 have hr:=h.aV ex rfl;generalize hx:a.eval x=v at hr;cases hr with
 | list A m cc sz es us hn hc hw ho hA hl hr =>
  subst hn;obtain ⟨b,off,rfl,hI,aO⟩:=hA zc;refine .rd h (UR hT he x y hx (h.aT ey) zc zc) ?_ rfl;have:=Rd.aH (w:=w) (I:=aK J w β s) b off sz es n 0 us hI hw ho aO hl hr;rw [aF];simpa using this
theorem WI (h:FR c.N w0 J s a w β) {T e:Nat} (hT:(c.ty T).k=.slice e) (he:(c.ty e).k≠.other) (x y:Operand) {id aa o m:Nat} {k:IntKind} (ex:s.ev x=.own id aa o m) (hl:s.live id aa) (aF:(c.ty e).size=(s.ob id).sz)
  (ey:s.ev y=.int k n) (h1:n<m):yy c w0 J s a ⟨dst,.indexAddr T x y,ty,pos,after,g⟩ w (.ptr id aa (o+n) 0) []:=by
 have aw:=(h.bu ex hl.1 hl.2).row;obtain ⟨A,cc,e1,e2,e3,e4,e5⟩:=(h.bu ex hl.1 hl.2).ex;cases hb:β id with
 | none => have := (e4 hb).2; omega
 | some b =>
  obtain ⟨o',rfl,k2,k3⟩:=e5 b hb;have dI:=k2 (.inl zc);subst dI;refine .pure h (UR hT he x y e1 (h.aT ey) zc zc) (fun _ _=>⟨aw,b,hb,?_⟩) (fun aN bo e=>h.cj x (by rw [ex];exact e));rw [aF];simp [zE]
theorem Va {T e:Nat} (hT:(c.ty T).k=.arr n e) (he:(c.ty e).k≠.other) (x y:Operand) {b o:Nat} {k:IntKind} {i:Int} (ex:a.eval x=.pointer (some ⟨b,o,none⟩)) (ey:a.eval y=.int k i) (h0:0≤i) (h1:i<n) :
  (execOp a.eval ⟨dst,.indexAddr T x y,ty,pos,after,g⟩).run c.P w=.ok (.value (.pointer (some ⟨b,o+i.toNat * (c.ty e).size,none⟩))) w:=by
 obtain ⟨d,ii,z,ht⟩:=c.get hT zd;have hd:=ht.k;rw [hT] at hd;obtain rfl:=VF hd;have hs:=yl (c:=c) he w;simp [execOp,Instr.indexAt,run_underlying ht.u,ex,ey,asIntOf,hs,h0,h1,yD,Instr.sureAddr]
theorem Wb (h:FR c.N w0 J s a w β) {T m e:Nat} (hT:(c.ty T).k=.arr m e) (he:(c.ty e).k≠.other) (x y:Operand) {id aa o:Nat} {k:IntKind} (ex:s.ev x=.ptr id aa j o) (hl:s.live id aa)
  (ey:s.ev y=.int k n) (h1:n<m):yy c w0 J s a ⟨dst,.indexAddr T x y,ty,pos,after,g⟩ w (.ptr id aa j (o+n * (c.ty e).size)) []:=by
 obtain ⟨aw,b,hb,hv⟩:=h.bL ex hl.1 hl.2;refine .pure h (Va hT he x y hv (h.aT ey) zc zc) (fun _ _=>⟨aw,b,hb,by simp [Xz]⟩) (fun aN bo e=>h.cj x (by rw [ex];exact e))
theorem Xi (h:FR c.N w0 J s a w β) {T m e:Nat} (hT:(c.ty T).k=.arr m e) (he:(c.ty e).k≠.other) (x y:Operand) {sz o:Nat} {es:List (List FV)} {k:IntKind} (ex:s.ev x=.aH sz es j o)
  (ey:s.ev y=.int k n) (h1:n<m):yy c w0 J s a ⟨dst,.indexAddr T x y,ty,pos,after,g⟩ w (.aH sz es j (o+n * (c.ty e).size)) []:=by
 obtain ⟨b,dr,us,hv,hI,hw,ho,hA,hr⟩:=h.dt ex;refine .rd h (Va hT he x y hv (h.aT ey) zc zc) ?_ rfl;have:=Rd.aH (w:=w) (I:=aK J w β s) b dr sz es j (o+n * (c.ty e).size) us hI hw ho hA hr.1 hr.2;simp only [Int.toNat_natCast];rwa [show dr+(j * sz+(o+n * (c.ty e).size))=dr+(j * sz+o)+n * (c.ty e).size by omega] at this
theorem Zy {α:Type} {sz:Nat}:∀ (es:List (List α)),(∀ e∈es,e.length=sz)→∀ (i o:Nat),i<es.length→o≤sz→es.flatten.drop (i * sz+o)=(es.getD i []).drop o++(es.drop (i+1)).flatten
 | [], _, i, _, hi, _ => by simp at hi
 | e :: es, he, 0, o, _, ho => by
  have h1:=he e zd;simp only [xy,zR,zS,Yy,List.drop_one,List.tail_cons];rw [List.drop_append,h1,Nat.sub_eq_zero_of_le ho,Xp]
 | e :: es, he, i+1, o, hi, ho => by
  have h1:=he e zd;have ih:=Zy es (fun x hx=>he x (by simp [hx])) i o (by simpa using hi) ho;rw [show (i+1) * sz+o=sz+(i * sz+o) by rw [zE];omega,zS,← List.drop_drop,← h1,List.drop_left,h1,ih];simp
theorem yq {sz:Nat} {es:List (List α)} (he:∀ e∈es,e.length=sz):es.flatten.length=es.length * sz:=by
 induction es with
 | nil => simp
 | cons e es ih => rw [zS, ye, ih (fun x hx => he x (by simp [hx])), he e zd, yX, zE]; omega
theorem XH {sz:Nat} {es:List (List α)} (he:∀ e∈es,e.length=sz) (hi:i<es.length):(es.getD i []).length=sz:=by
 rw [yE,xp hi];exact he _ (yt hi)
theorem ZC {ts:TS} {cs ds:List FV} (h:ts.size≤cs.length) (h1:cs≠[]):xB ts (cs++ds)=xB ts cs:=by
 unfold xB;split
 ·rw [Xx h]
 ·cases cs with
  | nil => exact absurd rfl h1
  | cons x xs => rfl
theorem WJ (h:FR c.N w0 J s a w β) {T:Nat} (hk:(c.ty T).k.aQ = some bb) (x:Operand) {sz o:Nat} {es:List (List FV)} (ex:s.ev x=.aH sz es j o) (hj:j<es.length) (ho:o+(c.ty T).size≤sz) (dI : o<sz) :
  yy c w0 J s a ⟨dst,.load T x,ty,pos,after,g⟩ w (xB (c.ty T) ((es.getD j []).drop o)) []:=by
 obtain ⟨b,dr,us,hv,hI,hw,bj,hA,hr⟩:=h.dt ex;have hd:=hr.drop (j * sz+o);rw [Zy es hw j o hj zc] at hd;have hlen:((es.getD j []).drop o).length=sz - o:=by rw [ZM,XH hw hj]
 have iL:=hd.1;rw [ye,hlen] at iL;obtain ⟨v,r1,r2⟩:=Yo hk w b (dr+(j * sz+o)) (us.drop (j * sz+o)) zc (fun _=>by omega) (fun i u hu=>by
  rw [yV] at hu;have:=hA _ u hu;rwa [show dr+(j * sz+o)+i=dr+(j * sz+o+i) by omega]) hd
 rw [ZC zc (fun e=>by rw [e] at hlen;simp at hlen;omega)] at r2;have kB:(xB (c.ty T) ((es.getD j []).drop o)).hand=none:=by
  unfold xB;split
  ·rfl
  ·have hm:((es.getD j []).drop o).headD .undef∈es.flatten:=by
    cases aY:(es.getD j []).drop o with
    | nil => rw [aY] at hlen; simp at hlen; omega
    | cons y ys =>
     have hy:y∈es.getD j []:=yK (i:=o) (by rw [aY];simp);rw [yE,xp hj] at hy;exact yv.2 ⟨es[j],yt hj,hy⟩
   have:=bj _ hm;generalize ((es.getD j []).drop o).headD .undef=f at this;cases f <;> first|rfl|(simp [FV.one] at this)
 exact .rd h (by simp [execOp,Instr.loadAt,hv,Instr.sureAddr,r1]) r2 kB
theorem FR.block (h:FR c.N w0 J s a w β) {id:Nat} (hl:(s.ob id).ag≠.dead) (a9:(s.ob id).ag.row=true) {b:Nat} (hb:β id=some b) :
  ∃ cur cap,w.heap[b]? = some (.cells cur (s.ob id).E (0,0))∧(s.ob id).es.length≤cap∧cap≤maxLen∧cur.size=cap * (s.ob id).sz∧
   az w (aK J w β s) (cur.toList.take ((s.ob id).es.length * (s.ob id).sz)) (s.ob id).es.flatten∧w.ownsRow w0.heap.size (s.ob id).E (s.ob id).sz (.slice (some ⟨b,0,none⟩) (s.ob id).es.length cap) (s.ob id).es.length (cur.toList.take ((s.ob id).es.length * (s.ob id).sz)):=by
 obtain ⟨v,us,r1,r2,r3⟩:=((h.obj id hl).bl a9).row;have rX:=r1;rcases r1.2 with ⟨rfl,_⟩|⟨g',cap,cur,rfl,_,dx,hn,hm,aY,kD⟩
 ·rw [← r2] at hb;simp [Value.ownBlock] at hb
 ·have iF:g'=b:=by rw [← r2] at hb;simpa [Value.ownBlock] using hb
  subst iF;subst kD;exact ⟨cur,cap,dx,hn,hm,aY,r3,rX⟩
theorem YE (h:FR c.N w0 J s a w β) {T:Nat} (hk:(c.ty T).k.aQ = some bb) (x:Operand) {id aa o:Nat} (ex:s.ev x=.ptr id aa j o) (hl:s.live id aa) (a9:(s.ob id).ag.row=true) (hj:j<(s.ob id).es.length) (ho:o+(c.ty T).size≤(s.ob id).sz) (dI : o<(s.ob id).sz) :
  yy c w0 J s a ⟨dst,.load T x,ty,pos,after,g⟩ w (xB (c.ty T) (((s.ob id).es.getD j []).drop o)) []:=by
 obtain ⟨_,b,hb,hv⟩:=h.bL ex hl.1 hl.2;obtain ⟨cur,cap,aR,hn,hm,aY,hr,aw⟩:=h.block hl.1 a9 hb;have hw:=((h.obj id hl.1).bl a9).wide;have bj:=((h.obj id hl.1).bl a9).one;generalize (s.ob id).es=es at hj hn hr aw hw bj ⊢;generalize (s.ob id).sz=sz at ho dI aY hr aw hw hv ⊢;have hd:=hr.drop (j * sz+o);rw [Zy es hw j o hj zc] at hd;have hlen:((es.getD j []).drop o).length=sz - o:=by rw [ZM,XH hw hj]
 have iL:=hd.1;rw [ye,hlen] at iL;obtain ⟨v,r1,r2⟩:=Yo hk w b (j * sz+o) ((cur.toList.take (es.length * sz)).drop (j * sz+o)) zc (fun _=>by omega) (fun i u hu=>by
  rw [yV,yr] at hu;rw [cell_of_row w b _ cur (s.ob id).E (0,0) aR];split at hu
  ·simpa using hu
  ·cases hu) hd
 rw [ZC zc (fun e=>by rw [e] at hlen;simp at hlen;omega)] at r2;have kB:(xB (c.ty T) ((es.getD j []).drop o)).hand=none:=by
  unfold xB;split
  ·rfl
  ·have hm:((es.getD j []).drop o).headD .undef∈es.flatten:=by
    cases aY:(es.getD j []).drop o with
    | nil => rw [aY] at hlen; simp at hlen; omega
    | cons y ys =>
     have hy:y∈es.getD j []:=yK (i:=o) (by rw [aY];simp);rw [yE,xp hj] at hy;exact yv.2 ⟨es[j],yt hj,hy⟩
   have:=bj _ hm;generalize ((es.getD j []).drop o).headD .undef=f at this;cases f <;> first|rfl|(simp [FV.one] at this)
 exact .rd h (by simp [execOp,Instr.loadAt,hv,Instr.sureAddr,r1]) r2 kB
end
def ah {α:Type} (cs:List α) (o:Nat) (ds:List α):List α:=cs.take o++ds++cs.drop (o+ds.length)
theorem yx {cs ds:List α} {o:Nat} (h:o+ds.length≤cs.length):(ah cs o ds).length=cs.length:=by
 unfold ah;simp;omega
theorem az.ah {vs:List Value} {fs gs:List FV} (h:az w I us fs) (k:az w I vs gs) (o:Nat):az w I (ah us o vs) (ah fs o gs):=by
 unfold YtedkppfghdipdaaGreatDoor.ah;rw [k.1];exact ((h.take o).append k).append (h.drop _)
theorem XX {α:Type} {sz:Nat}:∀ (es:List (List α)),(∀ e∈es,e.length=sz)→∀ (i o:Nat) (ds:List α),i<es.length→o+ds.length≤sz→
  (es.set i (ah (es.getD i []) o ds)).flatten=ah es.flatten (i * sz+o) ds
 | [], _, i, _, _, hi, _ => by simp at hi
 | e :: es, he, 0, o, ds, _, ho => by
  have h1:=he e zd;simp only [List.set_cons_zero,Yy,zS,xy,zR];unfold ah;rw [Xx zc,List.drop_append_of_le_length zc];simp [zD]
 | e :: es, he, i+1, o, ds, hi, ho => by
  have h1:=he e zd;have ih:=XX es (fun x hx=>he x (by simp [hx])) i o ds (by simpa using hi) ho;simp only [List.set_cons_succ,List.getD_cons_succ,zS];rw [ih];unfold ah;have e1:(i+1) * sz+o=e.length+(i * sz+o):=by rw [zE,h1];omega
  rw [e1,pF,show e.length+(i * sz+o)+ds.length=e.length+(i * sz+o+ds.length) by omega,pC];simp [zD]
theorem vq {sz:Nat} {es:List (List α)} (he:∀ e∈es,e.length=sz) {o:Nat} {ds:List α} (hi:i<es.length) (ho:o+ds.length≤sz):∀ e∈es.set i (ah (es.getD i []) o ds),e.length=sz:=by
 intro e hm;rcases ZN hm with h|h
 ·exact he e h
 ·subst h;have:=XH he hi;rw [yx zc,this]
theorem YU {cs ds:List α} {o:Nat} {x:α} (h:x∈ah cs o ds):x∈cs∨x∈ds:=by
 unfold ah at h;simp only [yJ] at h;rcases h with (h|h)|h
 ·exact .inl (yF h)
 ·exact .inr h
 ·exact .inl (yK h)
section
variable {c:Ctx} {w0 w:World} {J:JJ} {s:ab} {a:Act} {β:Nat→Option Nat} {dst:Option Nat} {ty:TypeId} {pos:String} {after:Array Edge} {g:Option (Nat×Bool)}
theorem yB (w:World) (g k:Nat) (cs:Array Value) (h:k≠g):(w.setRow g cs).heap[k]? = w.heap[k]?:=by
 simp only [World.setRow,UZ];rw [if_neg (fun e=>h e.symm)]
theorem yj (w:World) (g:Nat) (cs cur:Array Value) (E:TypeId) (h:w.heap[g]? = some (.cells cur E (0,0))):(w.setRow g cs).heap[g]? = some (.cells cs E (0,0)):=by
 simp [World.setRow,UZ,h]
theorem tD (h:FR c.N w0 J s a w β) {T:Nat} (hk:(c.ty T).k≠.other) (x y:Operand) {id aa o:Nat} (ex:s.ev x=.ptr id aa j o) (hl:(s.ob id).ag=.own) (hv:(s.ob id).aa=aa) {f:FV} (ey:s.ev y=f)
  (hf:f.cells.all FV.one=true) (bJ:f.cells.length=(c.ty T).size) (hj:j<(s.ob id).es.length) (ho:o+(c.ty T).size≤(s.ob id).sz) :
  ∃ w',(execOp a.eval ⟨dst,.store T x y,ty,pos,after,g⟩).run c.P w=.ok .skip w'∧
   FR c.N w0 J (s.wr [(id,{ s.ob id with es:=(s.ob id).es.set j (ah ((s.ob id).es.getD j []) o f.cells) })]) a w' β:=by
 have ai:(s.ob id).ag≠.dead:=by rw [hl];decide
 have a9:(s.ob id).ag.row=true:=by rw [hl];rfl
 obtain ⟨_,b,hb,jt⟩:=h.bL ex ai hv;obtain ⟨cur,cap,aR,hn,hm,aY,hr,aw⟩:=h.block ai a9 hb;have hw:=((h.obj id ai).bl a9).wide;have bj:=((h.obj id ai).bl a9).one;have g6:=h.aV ey (Rd.fp hf);obtain ⟨eS,fR⟩:=g6.cells hf;generalize hy:a.eval y=v at eS fR;generalize kv:(s.ob id).es=es at hj hn hr aw hw bj ⊢;generalize aF:(s.ob id).sz=sz at ho aY hr aw hw jt ⊢;have rF:v.cells.toList.length=(c.ty T).size:=by rw [eS.1,bJ]
 have hle:j * sz+sz≤es.length * sz:=by
  have:(j+1) * sz≤es.length * sz:=Zt sz zc;rw [zE] at this;omega
 have qU:es.length * sz≤cap * sz:=Zt sz hn;have bF:=run_storeCells_at c.P b (j * sz+o) (s.ob id).E v.cells.toList 0 cur w aR zc fR;simp only [xN] at bF;have bO:cur.toList.length=cap * sz:=by simpa using aY
 have rG:v.cells.toList.length=f.cells.length:=eS.1;have nC:(cur.toList.take (es.length * sz)).length=es.length * sz:=by rw [zT,bO];omega
 obtain ⟨W,hW⟩:∃ W,W=w.setRow b (ah cur.toList (j * sz+o) v.cells.toList).toArray:=⟨_,rfl⟩
 have fC:W.heap[b]? = some (.cells (ah cur.toList (j * sz+o) v.cells.toList).toArray (s.ob id).E (0,0)):=by rw [hW];exact yj w b _ cur _ aR
 have fg:w.grownBy W (β id):=by
  subst hW;refine ⟨rfl,rfl,rfl,by simp [World.setRow],fun k hk bM=>yB w b k _ (fun e=>bM (by rw [e,hb]))⟩
 have bX : W.ownsRow w0.heap.size (s.ob id).E sz (.slice (some ⟨b,0,none⟩) es.length cap) es.length (ah (cur.toList.take (es.length * sz)) (j * sz+o) v.cells.toList):=by
  refine ⟨?_,.inr ⟨b,cap,_,rfl,((h.obj id ai).lt hb).1,fC,hn,hm,?_,?_⟩⟩
  ·rw [yx zc,nC]
  ·simp only [Yz];rw [yx zc,bO]
  ·have key:∀ (L p:Nat) (cs ds:List Value),p+ds.length≤L→L≤cs.length→(ah cs p ds).take L=ah (cs.take L) p ds:=by
    intro L p cs ds h1 h2;unfold ah;rw [zD,zD,YA,zT,yI zc,YA,YB,YB,XR zc,yI zc,ya (by omega:ds.length≤L - p),List.drop_take];congr 3;omega
   exact key _ _ _ _ zc zc
 have gZ : ∀ f'∈(es.set j (ah (es.getD j []) o f.cells)).flatten,f'.one=true:=by
  intro f' bw;obtain ⟨e,he,il⟩:=yv.1 bw;rcases ZN he with h'|h'
  ·exact bj f' (yv.2 ⟨e,h',il⟩)
  ·subst h';rcases YU il with h'|h'
   ·rw [yE,xp hj] at h';exact bj f' (yv.2 ⟨_,yt hj,h'⟩)
   ·exact zG.1 hf f' h'
 refine ⟨W,?_,?_⟩
 ·have hs:=yl (c:=c) hk w;have nz : v.cells.size=(c.ty T).size:=by simpa using rF
  have g9 : (storeCells ⟨b,j * sz+o,none⟩ v.cells.toList).run c.P w=.ok () W:=by rw [hW];exact bF
  simp [execOp,Instr.storeAt,storeVar,jt,hy,Instr.sureAddr,hs,nz,g9]
 ·refine h.write id (es:=es.set j (ah (es.getD j []) o f.cells)) (v:=.slice (some ⟨b,0,none⟩) es.length cap) (xs:=ah (cur.toList.take (es.length * sz)) (j * sz+o) v.cells.toList) hl fg ?_ gZ ?_ hb.symm ?_ ?_ ?_ (fun k=>?_) (fun k=>rfl)
  ·rw [aF];exact vq hw hj zc
  ·rw [aF,ym];exact bX
  ·rw [XX es hw j o f.cells hj zc];exact hr.ah eS _
  ·rw [kv,ym]
  ·intro b' mE mF bD h1 h2;rw [hb] at bD;injection bD with bD
   subst bD;rw [aR] at h1;injection h1 with h1
   injection h1 with h1 _ _
   subst h1;rw [fC] at h2;injection h2 with h2
   injection h2 with h2 _ _
   rw [← h2];simp only [Yz];rw [yx zc,bO,aY]
  ·exact ab.ao s id _ k
end
theorem WA.eG {E sz:Nat} {ob:yb} (h:w.ownsRow base E sz v n xs) (hn:ob.es.length=n) (hE:ob.E=E) (hs:ob.sz=sz) (a9:ob.ag.bz=true):WA w v.ownBlock ob v 0 n:=by
 rcases h.2 with ⟨rfl,rfl⟩|⟨g,cap,cur,rfl,_,dx,h1,h2,h3,_⟩
 ·exact ⟨a9,none,0,rfl,zm _,by omega,fun _=>⟨rfl,rfl⟩,fun b hb=>by simp [Value.ownBlock] at hb⟩
 ·refine ⟨a9,some ⟨g,0,none⟩,cap,rfl,h1,by omega,fun hb=>by simp [Value.ownBlock] at hb,fun b hb=>?_⟩;obtain rfl:g=b:=by simpa [Value.ownBlock] using hb
  refine ⟨0,rfl,fun _=>by simp,fun dT hc=>?_⟩;rw [hE,dx] at hc;injection hc with hc
  injection hc with hc _ _
  rw [← hc,hs];simpa using h3
section
variable {c:Ctx} {w0 w:World} {J:JJ} {s:ab} {a:Act} {β:Nat→Option Nat} {ty:TypeId} {pos:String} {after:Array Edge} {g:Option (Nat×Bool)}
theorem sv (w:World) (o:Obj):Below w.heap.size w (w.alloc o):=(YR _ _).alloc (zm _) o
theorem FR.newRow (h:FR c.N w0 J s a w β) (d E sz:Nat) (es:List (List FV)) (cur:Array Value) (hw:∀ e∈es,e.length=sz) (ho:∀ f∈es.flatten,f.one=true) (hr:az w (aK J w β s) cur.toList es.flatten) (hm:es.length≤maxLen) :
  FR c.N w0 J (s.set d ⟨(s.ob d).aa+1,.own,E,sz,es⟩) a (w.alloc (.cells cur E)) (YY β d (some w.heap.size))∧
   (w.alloc (.cells cur E)).ownsRow w0.heap.size E sz (.slice (some ⟨w.heap.size,0,none⟩) es.length es.length) es.length cur.toList:=by
 have hlen:cur.size=es.length * sz:=by have:=hr.1;rw [yq hw] at this;simpa using this
 have aw:(w.alloc (.cells cur E)).ownsRow w0.heap.size E sz (.slice (some ⟨w.heap.size,0,none⟩) es.length es.length) es.length cur.toList:=
  ⟨by simpa using hlen,.inr ⟨w.heap.size,es.length,cur,rfl,h.bN.size,heap_alloc_new w _,zm _,hm,hlen,by rw [ya (by simp [hlen])]⟩⟩
 refine ⟨h.make none d (v:=.slice (some ⟨w.heap.size,0,none⟩) es.length es.length) (fun k e=>by cases e) (World.grownBy_alloc w _ _) hw ho aw hr (.inr (.inr ⟨_,rfl,zm _⟩)) (fun k=>?_) (fun k=>rfl),aw⟩;rw [ab.ao];split
 ·rfl
 ·simp
theorem yP (β:Nat→Option Nat) (j:Nat) (x:Option Nat):YY β j x j=x:=by simp [YY]
theorem Wd (h:FR c.N w0 J s a w β) {o:Oper} (d E:Nat) (f:FV) (cur:Array Value) (hf:f.cells.all FV.one=true) (hr:az w (aK J w β s) cur.toList f.cells)
  (bm:(execOp a.eval o).run c.P w=.ok (.value (.pointer (some ⟨w.heap.size,0,none⟩))) (w.alloc (.cells cur E))) :
  yy c w0 J s a o w (.ptr d ((s.ob d).aa+1) 0 0) [(d,⟨(s.ob d).aa+1,.own,E,f.cells.length,[f.cells]⟩)]:=by
 obtain ⟨h1,_⟩:=h.newRow d E f.cells.length [f.cells] cur zd (by simpa using hf) (by simpa using hr) (by simp [maxLen]);refine ⟨_,_,_,bm,h1,fun _ _=>⟨by rw [show (s.wr [(d,(⟨(s.ob d).aa+1,.own,E,f.cells.length,[f.cells]⟩:yb))]).ob d=⟨(s.ob d).aa+1,.own,E,f.cells.length,[f.cells]⟩ from (ab.ao s d _ d).trans (if_pos rfl)];rfl,w.heap.size,yP _ _ _,by simp⟩,fun id aa e=>?_⟩;simp only [FV.hands,yg,yi] at e;obtain ⟨e1,e2⟩:=e;replace e1:=e1.symm;replace e2:=e2.symm;subst e1;subst e2;show _≤(ab.ob (ab.set s d _) d).aa;rw [ab.ao,if_pos rfl];exact zm _
theorem tu (h:FR c.N w0 J s a w β) (d:Nat) {T:Nat} (hk:(c.ty T).k≠.other) (hz:(c.ty T).zero.all FV.one=true) :
  yy c w0 J s a ⟨some d,.alloc T,ty,pos,after,g⟩ w (.ptr d ((s.ob d).aa+1) 0 0) [(d,⟨(s.ob d).aa+1,.own,T,(c.ty T).zero.length,[(c.ty T).zero]⟩)]:=by
 obtain ⟨z,h1,h2,h3⟩:=Zp hk w;refine Wd h d T (.agg (c.ty T).zero) z.cells hz (az.zeros h2) ?_;simp [execOp,Instr.alloc,h1,newVar,newRow]
theorem tT (h:FR c.N w0 J s a w β) (d:Nat) {T:Nat} (x:Operand) {f:FV} (ex:s.ev x=f) (hf:f.cells.all FV.one=true) :
  yy c w0 J s a ⟨some d,.box T x,ty,pos,after,g⟩ w (.ptr d ((s.ob d).aa+1) 0 0) [(d,⟨(s.ob d).aa+1,.own,T,f.cells.length,[f.cells]⟩)]:=by
 obtain ⟨h1,h2⟩:=(h.aV ex (Rd.fp hf)).cells hf;refine Wd h d T f (a.eval x).cells hf h1 ?_;simp [execOp,Instr.box,newVar,newRow]
def xG (place:Nat→Option (Nat×Nat)):List FV→List (Nat×FV)→Option (List FV)
 | cs, [] => some cs
 | cs, (i, f) :: rest =>
  match place i with
  | none => none
  | some (off, size) => if f.cells.all FV.one=true ∧ f.cells.length=size ∧ off+size ≤ cs.length then xG place (ah cs off f.cells) rest else none
theorem Uh:∀ (vs:List Value) (k off:Nat) (A:Array Value),off+k+vs.length≤A.size→(List.foldl (fun (cs:Array Value) (p:Value×Nat)=>cs.setIfInBounds (off+p.2) p.1) A (vs.zipIdx k)).toList=ah A.toList (off+k) vs
 | [], k, off, A, _ => by simp [ah]
 | v :: vs, k, off, A, h => by
  have h' : off+k<A.size:=by simp at h;omega
  rw [List.zipIdx_cons,List.foldl_cons,Uh vs (k+1) off _ (by simp at h ⊢;omega)];unfold ah;simp only [Array.toList_setIfInBounds,yX];rw [show off+(k+1)=off+k+1 by omega,Zj (by simpa using h'),List.take_set,List.getElem_set_self,List.set_eq_of_length_le zV,List.drop_set_of_lt zc];simp [ZP,Nat.add_left_comm]
theorem pH {w:World} {I:Nat→Prop} (place:Nat→Option (Nat×Nat)):∀ (ps:List (Nat×FV)) (vs:List (Nat×Value)) (A:Array Value) (cs cZ : List FV),az w I A.toList cs→vs.length=ps.length→
  (∀ (j:Nat) v p,vs[j]? = some v→ps[j]? = some p→v.1=p.1∧Rd w I v.2 p.2)→xG place cs ps=some cZ→∃ A',Instr.fill place A vs=some A'∧az w I A'.toList cZ
 | [], [], A, cs, cZ, hA, _, _, h => by
  simp only [xG,zI] at h;subst h;exact ⟨A,rfl,hA⟩
 | [], _ :: _, _, _, _, _, hl, _, _ => by simp at hl
 | _ :: _, [], _, _, _, _, hl, _, _ => by simp at hl
 | (i,f)::ps,(i',v)::vs,A,cs,cZ,hA,hl,hp,h=>by
  obtain ⟨e1,e2⟩:=hp 0 _ _ rfl rfl;dsimp only at e1 e2;subst e1;unfold xG at h;cases fH:place i' with
  | none => rw [fH] at h; cases h
  | some q=>
   obtain ⟨off,size⟩:=q;rw [fH] at h;dsimp only at h;split at h
   ·rename_i hc;obtain ⟨c1,c2,c3⟩:=hc;obtain ⟨k1,k2⟩:=e2.cells c1;have rI:v.cells.size=size:=by have:=k1.1;rw [c2] at this;simpa using this
    have fc:A.size=cs.length:=by have:=hA.1;simpa using this
    have hz:A.size=A.toList.length:=by simp
    have la:(v.cells.zipIdx.foldl (fun cs (c,j)=>cs.setIfInBounds (off+j) c) A).toList=ah A.toList off v.cells.toList:=by
     have:=Uh v.cells.toList 0 off A zV;rw [← Array.foldl_toList];simpa using this
    obtain ⟨A',r1,r2⟩:=pH place ps vs _ _ _ (by rw [la];exact hA.ah k1 off) (by simpa using hl) (fun j v p hv hq=>hp (j+1) v p hv hq) h;refine ⟨A',?_,r2⟩;unfold Instr.fill;simp only [fH];rw [if_neg (by simp [rI];omega)];exact r1
   ·cases h
def ab.parts (s:ab) (ps:Array (Nat×Operand)):List (Nat×FV):=ps.toList.map fun p=>(p.1,s.ev p.2)
theorem FR.parts (h:FR c.N w0 J s a w β) (ps:Array (Nat×Operand)) {place:Nat→Option (Nat×Nat)} {cs cZ : List FV} {A:Array Value} (hA:az w (aK J w β s) A.toList cs) (hf:xG place cs (s.parts ps)=some cZ) :
  ∃ A',Instr.fill place A (ps.map fun (i,x)=>(i,a.eval x)).toList=some A'∧az w (aK J w β s) A'.toList cZ:=by
 have bj:∀ (l:List (Nat×FV)) (cs cZ : List FV),xG place cs l=some cZ→∀ p∈l,p.2.hand=none:=by
  intro l
  induction l with
  | nil => intro _ _ _ p hp; simp at hp
  | cons q l ih=>
   intro cs cZ hq p hp;obtain ⟨i,f⟩:=q;unfold xG at hq;cases fH:place i with
   | none => rw [fH] at hq; cases hq
   | some z=>
    rw [fH] at hq;dsimp only at hq;split at hq
    ·rename_i hc;rcases zU.1 hp with e|e
     ·subst e;exact Rd.fp hc.1
     ·exact ih _ _ hq p e
    ·cases hq
 refine pH place (s.parts ps) _ A cs cZ hA (by simp [ab.parts]) (fun j v p hv hp=>?_) hf;have rj:=zH hp;simp only [ab.parts,yW,Option.map_eq_some_iff] at hp;obtain ⟨q,hq,rfl⟩:=hp;have fI : (ps.toList.map fun p=>(p.1,a.eval p.2))[j]? = some v:=by simpa using hv
 simp only [yW,hq,xe,zI] at fI;subst fI;exact ⟨rfl,h.aV rfl (bj _ _ _ hf _ rj)⟩
theorem tx (h:FR c.N w0 J s a w β) {T:Nat} (hT:(c.ty T).k=.au fs) (gm:∀ p∈fs,(c.ty p.2).k≠.other) (ps:Array (Nat×Operand)) {cs:List FV}
  (hf:xG (fun i=>(fs[i]?).map fun p=>(p.1,(c.ty p.2).size)) (c.ty T).zero (s.parts ps)=some cs):yy c w0 J s a ⟨dst,.build T ps,ty,pos,after,g⟩ w (.agg cs) []:=by
 obtain ⟨d,i,z,ht⟩:=c.get hT zd;have hd:=ht.k;rw [hT] at hd;obtain ⟨gs,rfl,oX,_⟩:=ZS hd;obtain ⟨A',h1,h2⟩:=h.parts ps (A:=z.cells) (az.zeros ht.zr) hf;have hp:gs.toList.mapM (fun f=>(c.P.info? f.type).map fun i=>(f.offset,i.size))=some (gs.toList.map fun f=>(f.offset,(c.ty f.type).size)):=by
  have key:∀ (l:List Field),(∀ f∈l,(c.ty f.type).k≠.other)→l.mapM (fun f=>(c.P.info? f.type).map fun i=>(f.offset,i.size))=some (l.map fun f=>(f.offset,(c.ty f.type).size)):=by
   intro l
   induction l with
   | nil => intro _; rfl
   | cons f l ih =>
    intro hl;obtain ⟨d',i',z',bU⟩:=c.get rfl (hl f zd);simp only [List.mapM_cons,bU.info,xe,Option.bind_eq_bind,Zv,ih (fun f hf=>hl f (by simp [hf])),Option.pure_def,bU.size,yf]
  refine key _ (fun f hf=>gm (f.offset,f.type) ?_);rw [oX];exact zM.2 ⟨f,hf,rfl⟩
 have hb:c.P.built T (ps.map fun (i,x)=>(i,a.eval x)).toList=some A':=by
  unfold Program.built;simp only [ht.info,ht.u,ht.zo,hp];rw [← h1];congr 1;funext i;rw [oX];simp [Function.comp_def]
 refine .rd h (v:=.agg A') (by simp only [execOp,xf,run_build w T _ A' hb,xW,xg]) ?_ rfl;have:=Rd.agg (w:=w) (I:=aK J w β s) A'.toList cs h2.1 h2.2;simpa using this
theorem sy (h:FR c.N w0 J s a w β) {T e:Nat} (hT:(c.ty T).k=.arr n e) (he:(c.ty e).k≠.other) (ps:Array (Nat×Operand)) {cs:List FV}
  (hf:xG (fun i=>some (i * (c.ty e).size,(c.ty e).size)) (c.ty T).zero (s.parts ps)=some cs):yy c w0 J s a ⟨dst,.build T ps,ty,pos,after,g⟩ w (.agg cs) []:=by
 obtain ⟨d,i,z,ht⟩:=c.get hT zd;have hd:=ht.k;rw [hT] at hd;obtain rfl:=VF hd;obtain ⟨A',h1,h2⟩:=h.parts ps (A:=z.cells) (az.zeros ht.zr) hf;obtain ⟨d',i',z',bU⟩:=c.get rfl he;have hb:c.P.built T (ps.map fun (i,x)=>(i,a.eval x)).toList=some A':=by
  unfold Program.built;simp only [ht.info,ht.u,ht.zo,bU.info,bU.size];exact h1
 refine .rd h (v:=.agg A') (by simp only [execOp,xf,run_build w T _ A' hb,xW,xg]) ?_ rfl;have:=Rd.agg (w:=w) (I:=aK J w β s) A'.toList cs h2.1 h2.2;simpa using this
theorem az.ig {w:World} (us:List Value):az w I us (List.replicate us.length .undef):=by
 refine ⟨by simp,fun j u f hu hf=>?_⟩;rw [List.getElem?_replicate] at hf;split at hf
 ·injection hf with hf;subst hf;exact .undef u
 ·cases hf
theorem YF (h:FR c.N w0 J s a w β) {o:Oper} (d E sz:Nat) (es:List (List FV)) (cur:Array Value) (hw:∀ e∈es,e.length=sz) (ho:∀ f∈es.flatten,f.one=true) (hr:az w (aK J w β s) cur.toList es.flatten) (hm:es.length≤maxLen)
  (bm:(execOp a.eval o).run c.P w=.ok (.value (.slice (some ⟨w.heap.size,0,none⟩) es.length es.length)) (w.alloc (.cells cur E))) :
  yy c w0 J s a o w (.own d ((s.ob d).aa+1) 0 es.length) [(d,⟨(s.ob d).aa+1,.own,E,sz,es⟩)]:=by
 obtain ⟨h1,h2⟩:=h.newRow d E sz es cur hw ho hr hm;refine ⟨_,_,_,bm,h1,fun _ _=>?_,fun id aa e=>?_⟩
 ·show WA _ (YY β d (some w.heap.size) d) (ab.ob (ab.set s d _) d) _ _ _;rw [yP,ab.ao,if_pos rfl];exact WA.eG h2 rfl rfl rfl rfl
 ·simp only [FV.hands,yg,yi] at e;obtain ⟨e1,e2⟩:=e;replace e1:=e1.symm;replace e2:=e2.symm;subst e1;subst e2;show _≤(ab.ob (ab.set s d _) d).aa;rw [ab.ao,if_pos rfl];exact zm _
theorem XZ (h:FR c.N w0 J s a w β) (d:Nat) {T e:Nat} (hT:(c.ty T).k=.slice e) (he:(c.ty e).k≠.other) (ps:Array (Nat×Operand)) (es:List (List FV)) (hn:es.length=n) (hw:∀ x∈es,x.length=(c.ty e).size) (ho:∀ f∈es.flatten,f.one=true)
  (cH:n * (c.ty e).size≤16777216) (gY:n≤16777216)
  (hf:xG (fun i=>some (i * (c.ty e).size,(c.ty e).size)) (List.replicate (n * (c.ty e).size) .undef) (s.parts ps)=some es.flatten) :
  yy c w0 J s a ⟨some d,.buildSlice T n ps,ty,pos,after,g⟩ w (.own d ((s.ob d).aa+1) 0 n) [(d,⟨(s.ob d).aa+1,.own,e,(c.ty e).size,es⟩)]:=by
 obtain ⟨dd,i,z,ht⟩:=c.get hT zd;have hd:=ht.k;rw [hT] at hd;obtain rfl:=zZ hd;have hs:=yl (c:=c) he w;obtain ⟨zz,hz,_,_⟩:=Zp he w;obtain ⟨A0,dv⟩:∃ A0:Array Value,(if n * (c.ty e).size=0 then (Array.range (n * (c.ty e).size)).map (fun x=>(#[]:Array Value)[x % (#[]:Array Value).size]!) else (Array.range (n * (c.ty e).size)).map (fun x=>zz.cells[x % zz.cells.size]!))=A0:=⟨_,rfl⟩
 have aF:A0.size=n * (c.ty e).size:=by rw [← dv];split <;> simp
 have hu:=az.ig (w:=w) (I:=aK J w β s) A0.toList;rw [Vp,aF] at hu;obtain ⟨A',h1,h2⟩:=h.parts ps hu hf;subst hn;refine YF h d e (c.ty e).size es A' hw ho h2 (by unfold maxLen;omega) ?_;have gL : ¬ (16777216<es.length * (c.ty e).size):=by omega
 by_cases h0:es.length * (c.ty e).size=0
 ·rw [if_pos h0] at dv;simp [execOp,Instr.buildSlice,run_underlying ht.u,hs,h0,newRow] at dv h1 ⊢;rw [dv,h1];simp
 ·rw [if_neg h0] at dv;simp [execOp,Instr.buildSlice,run_underlying ht.u,hs,gL,h0,hz,newRow,dv] at h1 ⊢;rw [h1];simp
theorem WL (h:FR c.N w0 J s a w β) {o:Oper} (E sz:Nat) (es:List (List FV)) (cur:Array Value) (hw:∀ e∈es,e.length=sz) (ho:∀ f∈es.flatten,f.one=true) (hr:az w (aK J w β s) cur.toList es.flatten)
  (bm:(execOp a.eval o).run c.P w=.ok (.value (.slice (some ⟨w.heap.size,0,none⟩) es.length es.length)) (w.alloc (.cells cur E))):yy c w0 J s a o w (.list sz es) []:=by
 have hb:Below w.heap.size w (w.alloc (.cells cur E)):=(YR _ _).alloc (zm _) _;have hG:=h.grow hb;refine ⟨_,_,β,bm,hG,?_,fun _ _ e=>(FV.aU rfl e).elim⟩;refine VR.bk (Rd.list (some ⟨w.heap.size,0,none⟩) es.length es.length sz es cur.toList rfl (zm _) hw ho (fun _=>⟨w.heap.size,0,rfl,⟨?_,h.fresh _ h.bN.size (.inl (zm _)),fun id hl e=>?_⟩,fun j u hu=>?_⟩) hr.1 (fun j u f hu hf=>(hr.2 j u f hu hf).mono fun b aE=>aE.grow hb)) rfl
 ·show w.heap.size<(w.heap.push _).size;simp
 ·have:=((h.obj id (yT.bg hl)).lt e).2;omega
 ·have aR:(w.alloc (.cells cur E)).heap[w.heap.size]? = some (.cells cur E (0,0)):=by show (w.heap.push _)[w.heap.size]? = _;simp
  rw [cell_of_row _ w.heap.size _ cur E (0,0) aR];simpa using hu
theorem Xh (h:FR c.N w0 J s a w β) (d:Nat) {T e:Nat} (hT:(c.ty T).k=.slice e) (he:(c.ty e).k≠.other) (ps:Array (Nat×Operand)) (es:List (List FV)) (hn:es.length=n) (hw:∀ x∈es,x.length=(c.ty e).size) (ho:∀ f∈es.flatten,f.one=true)
  (cH:n * (c.ty e).size≤16777216) (gY:n≤16777216)
  (hf:xG (fun i=>some (i * (c.ty e).size,(c.ty e).size)) (List.replicate (n * (c.ty e).size) .undef) (s.parts ps)=some es.flatten) :
  yy c w0 J s a ⟨some d,.buildSlice T n ps,ty,pos,after,g⟩ w (.list (c.ty e).size es) []:=by
 obtain ⟨dd,i,z,ht⟩:=c.get hT zd;have hd:=ht.k;rw [hT] at hd;obtain rfl:=zZ hd;have hs:=yl (c:=c) he w;obtain ⟨zz,hz,_,_⟩:=Zp he w;obtain ⟨A0,dv⟩:∃ A0:Array Value,(if n * (c.ty e).size=0 then (Array.range (n * (c.ty e).size)).map (fun x=>(#[]:Array Value)[x % (#[]:Array Value).size]!) else (Array.range (n * (c.ty e).size)).map (fun x=>zz.cells[x % zz.cells.size]!))=A0:=⟨_,rfl⟩
 have aF:A0.size=n * (c.ty e).size:=by rw [← dv];split <;> simp
 have hu:=az.ig (w:=w) (I:=aK J w β s) A0.toList;rw [Vp,aF] at hu;obtain ⟨A',h1,h2⟩:=h.parts ps hu hf;subst hn;refine WL h e (c.ty e).size es A' hw ho h2 ?_;have gL : ¬ (16777216<es.length * (c.ty e).size):=by omega
 by_cases h0:es.length * (c.ty e).size=0
 ·rw [if_pos h0] at dv;simp [execOp,Instr.buildSlice,run_underlying ht.u,hs,h0,newRow] at dv h1 ⊢;rw [dv,h1];simp
 ·rw [if_neg h0] at dv;simp [execOp,Instr.buildSlice,run_underlying ht.u,hs,gL,h0,hz,newRow,dv] at h1 ⊢;rw [h1];simp
theorem Za {α:Type} {sz:Nat}:∀ (es:List (List α)),(∀ e∈es,e.length=sz)→∀ k,(es.take k).flatten=es.flatten.take (k * sz)
 | [], _, k => by simp
 | e :: es, he, 0 => by simp
 | e :: es, he, k+1 => by
  have h1:=he e zd;rw [List.take_succ_cons,zS,zS,Za es (fun x hx=>he x (by simp [hx])) k,zE,Zu,ZP,← h1,pF]
theorem xv {α:Type} {sz:Nat}:∀ (es:List (List α)),(∀ e∈es,e.length=sz)→∀ k,(es.drop k).flatten=es.flatten.drop (k * sz)
 | [], _, k => by simp
 | e :: es, he, 0 => by simp
 | e :: es, he, k+1 => by
  have h1:=he e zd;rw [List.drop_succ_cons,zS,xv es (fun x hx=>he x (by simp [hx])) k,zE,Zu,ZP,← h1,pC]
theorem WK (h:FR c.N w0 J s a w β) (d:Nat) {T e:Nat} (hT:(c.ty T).k=.slice e) (he:(c.ty e).k≠.other) (x y:Operand) {k1:IntKind} (ex:s.ev x=.int k1 n) (ey:s.ev y=.int k2 n) (ho:(c.ty e).zero.all FV.one=true)
  (hb:(c.ty e).bytes * n≤281474976710656) (hn:n≤281474976710656) :
  yy c w0 J s a ⟨some d,.makeSlice T x y,ty,pos,after,g⟩ w (.own d ((s.ob d).aa+1) 0 n) [(d,⟨(s.ob d).aa+1,.own,e,(c.ty e).size,List.replicate n (c.ty e).zero⟩)]:=by
 obtain ⟨dd,i,z,ht⟩:=c.get hT zd;have hd:=ht.k;rw [hT] at hd;obtain rfl:=zZ hd;obtain ⟨d',i',z',bU⟩:=c.get rfl he;have eL:(i'.bytes:Int) * (n:Int)≤281474976710656:=by
  have:((i'.bytes * n:Nat):Int)≤281474976710656:=by rw [bU.bytes];omega
  rwa [Int.natCast_mul] at this
 have hr:=run_make (P:=c.P) w T e i' z' ht.u bU.info bU.zo k1 k2 n n zc (Int.le_refl _) eL zc;simp only [Int.toNat_natCast] at hr;have pk:=(az.zeros (w:=w) (I:=aK J w β s) bU.zr)
 have rO:z'.cells.size=(c.ty e).size:=by have:=pk.1;rw [bU.zl] at this;simpa using this
 have hlen:(List.replicate n (c.ty e).zero).length=n:=by simp
 have hg:=YF h (o:=⟨some d,.makeSlice T x y,ty,pos,after,g⟩) d e (c.ty e).size (List.replicate n (c.ty e).zero) (madeCells z'.cells (n * i'.size)) (fun x hx=>by rw [Xq hx,bU.zl]) (fun f hf=>by
   obtain ⟨q,hq,lb⟩:=yv.1 hf;rw [Xq hq] at lb;exact zG.1 ho f lb) ⟨?_,?_⟩ (by rw [hlen];unfold maxLen;omega) (by
    rw [hlen];simp only [execOp,h.aT ex,h.aT ey,xf,hr,xW,xg])
 ·rwa [hlen] at hg
 ·rw [yq (sz:=(c.ty e).size) (fun x hx=>by rw [Xq hx,bU.zl]),hlen];simp [madeCells,bU.size]
 ·intro j u f hu hf;rw [bU.size] at hu;have hj:j<n * (c.ty e).size:=by
   have:=(zK.1 hu).1;simpa [madeCells] using this
  have pb:0<(c.ty e).size:=by
   rcases XC (c.ty e).size with h0|h0
   ·rw [h0] at hj;simp at hj
   ·exact h0
  have np:=Nat.mod_lt j pb;have rB : z'.cells.toList[j % (c.ty e).size]? = some u:=by
   have e1:(madeCells z'.cells (n * (c.ty e).size)).toList[j]? = some (z'.cells[j % z'.cells.size]!):=by
    simp [madeCells,hj]
   rw [e1] at hu;injection hu with hu
   rw [rO] at hu;rw [← hu];have aM:j % (c.ty e).size<z'.cells.size:=by omega
   simp [aM]
  have bw : (c.ty e).zero[j % (c.ty e).size]? = some f:=by
   have key:∀ (m q r:Nat),r<(c.ty e).size→q<m→(List.replicate m (c.ty e).zero).flatten[q * (c.ty e).size+r]? = (c.ty e).zero[r]?:=by
    intro m q r hr hq;have hw:∀ x∈List.replicate m (c.ty e).zero,x.length=(c.ty e).size:=fun x hx=>by rw [Xq hx,bU.zl]
    have:=Zy _ hw q r (by simpa using hq) zc;have h2:((List.replicate m (c.ty e).zero).flatten.drop (q * (c.ty e).size+r))[0]? = (c.ty e).zero[r]?:=by
     rw [this,yE,List.getElem?_replicate,if_pos hq,Yt,xo (by rw [ZM,bU.zl];omega),yV,xN]
    rwa [yV,xN] at h2
   have gM:=Nat.div_add_mod j (c.ty e).size;rw [Nat.mul_comm] at gM;rw [← key n (j / (c.ty e).size) (j % (c.ty e).size) np (by rw [Nat.div_lt_iff_lt_mul pb];exact hj),gM];exact hf
  exact pk.2 _ u f rB bw
def qp (a:Act):Option Operand→Nat→Prop
 | none, l => l=0
 | some y, l => ∃ k, a.eval y=.int k (l:Nat)
def qo (a:Act):Option Operand→Nat→Nat→Prop
 | none, m, u => u=m
 | some y, _, u => ∃ k, a.eval y=.int k (u:Nat)
theorem Ww {T e:Nat} (hT:(c.ty T).k=.slice e) (he:(c.ty e).k≠.other) (x:Operand) (lo hi:Option Operand) {m u:Nat} (ex:a.eval x=.slice A m cc)
  (cS:qp a lo l) (ct:qo a hi m u) (h1:l≤u) (h2:u≤cc) :
  (execOp a.eval ⟨dst,.slice T x lo hi none,ty,pos,after,g⟩).run c.P w=.ok (.value (.slice (if cc=l then A else A.map (·.add (l * (c.ty e).size))) (u - l) (cc - l))) w:=by
 obtain ⟨dd,i,z,ht⟩:=c.get hT zd;have hd:=ht.k;rw [hT] at hd;obtain rfl:=zZ hd;have hs:=yl (c:=c) he w;cases lo with
 | none=>
  change l=0 at cS;subst cS;cases hi with
  | none =>
   change u=m at ct;subst ct;simp [execOp,Instr.sliceAt,Instr.slice,Instr.sliceBounds,run_underlying ht.u,ex,hs]
  | some y =>
   obtain ⟨k,hk⟩:=ct;simp [execOp,Instr.sliceAt,Instr.slice,Instr.sliceBounds,Instr.sliceBound,asIntOf,run_underlying ht.u,ex,hs,hk,h2]
 | some z=>
  obtain ⟨k',iu⟩:=cS;cases hi with
  | none =>
   change u=m at ct;subst ct;simp [execOp,Instr.sliceAt,Instr.slice,Instr.sliceBounds,Instr.sliceBound,asIntOf,run_underlying ht.u,ex,hs,iu,h1]
  | some y =>
   obtain ⟨k,hk⟩:=ct;simp [execOp,Instr.sliceAt,Instr.slice,Instr.sliceBounds,Instr.sliceBound,asIntOf,run_underlying ht.u,ex,hs,hk,iu,h1,h2]
end
section
variable {c:Ctx} {w0 w:World} {J:JJ} {s:ab} {a:Act} {β:Nat→Option Nat} {dst:Option Nat} {ty:TypeId} {pos:String} {after:Array Edge} {g:Option (Nat×Bool)}
def ab.lo (s:ab):Option Operand→Nat→Prop
 | none, l => l=0
 | some y, l => ∃ k, s.ev y=.int k (l:Nat)
def ab.hi (s:ab):Option Operand→Nat→Nat→Prop
 | none, m, u => u=m
 | some y, _, u => ∃ k, s.ev y=.int k (u:Nat)
theorem FR.lo (h:FR c.N w0 J s a w β) {lo:Option Operand} (hl:s.lo lo l):qp a lo l:=by
 cases lo with
 | none => exact hl
 | some y => obtain ⟨k, hk⟩ := hl; exact ⟨k, h.aT hk⟩
theorem FR.hi (h:FR c.N w0 J s a w β) {hi:Option Operand} {m u:Nat} (hl:s.hi hi m u):qo a hi m u:=by
 cases hi with
 | none => exact hl
 | some y => obtain ⟨k, hk⟩ := hl; exact ⟨k, h.aT hk⟩
theorem WN (h:FR c.N w0 J s a w β) {T e:Nat} (hT:(c.ty T).k=.slice e) (he:(c.ty e).k≠.other) (x:Operand) (lo hi:Option Operand) {id aa o m u:Nat} (ex:s.ev x=.own id aa o m) (hl:s.live id aa) (aF:(c.ty e).size=(s.ob id).sz)
  (cS:s.lo lo l) (ct:s.hi hi m u) (h1:l≤u) (h2:u≤m):yy c w0 J s a ⟨dst,.slice T x lo hi none,ty,pos,after,g⟩ w (.own id aa (o+l) (u - l)) []:=by
 have a9:=(h.bu ex hl.1 hl.2).row;obtain ⟨A,cc,e1,e2,e3,e4,e5⟩:=(h.bu ex hl.1 hl.2).ex;have hr:=Ww (c:=c) (w:=w) (dst:=dst) (ty:=ty) (pos:=pos) (after:=after) (g:=g) hT he x lo hi e1 (h.lo cS) (h.hi ct) h1 zc;refine .pure h hr (fun _ _=>⟨a9,_,_,rfl,by omega,by omega,fun hb=>?_,fun b hb=>?_⟩) (fun aN bo e=>h.cj x (by rw [ex];exact e))
 ·obtain ⟨rfl,rfl⟩:=e4 hb;obtain rfl:l=0:=by omega
  simp
 ·obtain ⟨o',rfl,k2,k3⟩:=e5 b hb;by_cases bO:cc=l
  ·rw [if_pos bO];refine ⟨o',rfl,fun nu=>?_,fun cur hc=>?_⟩
   ·rcases nu with nu|nu
    ·omega
    ·have:o=0:=by omega
     have ma:l=0:=by omega
     rw [k2 (.inr this),this,ma]
   ·rw [k3 cur hc];congr 1;omega
  ·rw [if_neg bO];have:=k2 (.inl zc);subst this;refine ⟨(o+l) * (s.ob id).sz,by rw [aF];simp [yD,zE],fun _=>rfl,fun cur hc=>?_⟩;rw [k3 cur hc];congr 1;omega
theorem We (h:FR c.N w0 J s a w β) {T e:Nat} (hT:(c.ty T).k=.slice e) (he:(c.ty e).k≠.other) (x:Operand) (lo hi:Option Operand) {sz u:Nat} {es:List (List FV)} (ex:s.ev x=.list sz es) (aF:(c.ty e).size=sz)
  (cS:s.lo lo l) (ct:s.hi hi es.length u) (h1:l≤u) (h2:u≤es.length):yy c w0 J s a ⟨dst,.slice T x lo hi none,ty,pos,after,g⟩ w (.list sz ((es.drop l).take (u - l))) []:=by
 have hr:=h.aV ex rfl;generalize hx:a.eval x=v at hr;cases hr with
 | list A m cc sz es us hn hc hw ho hA hl iw=>
  subst hn;have bm:=Ww (c:=c) (w:=w) (dst:=dst) (ty:=ty) (pos:=pos) (after:=after) (g:=g) hT he x lo hi hx (h.lo cS) (h.hi ct) h1 zc;have iy:∀ e∈es.drop l,e.length=sz:=fun e he=>hw e (yK he);have bJ:((es.drop l).take (u - l)).flatten=(es.flatten.drop (l * sz)).take ((u - l) * sz):=by rw [Za _ iy,xv _ hw]
  have hR:az w (aK J w β s) ((us.drop (l * sz)).take ((u - l) * sz)) ((es.drop l).take (u - l)).flatten:=by
   rw [bJ];exact (az.drop ⟨hl,iw⟩ _).take _
  refine .rd h bm (.list _ _ _ sz _ ((us.drop (l * sz)).take ((u - l) * sz)) zV zc (fun e he=>iy e (yF he)) (fun f hf=>?_) (fun h0=>?_) hR.1 hR.2) rfl
  ·rw [bJ] at hf;exact ho f (yK (yF hf))
  ·obtain ⟨b,off,rfl,hI,aO⟩:=hA zc;rw [if_neg zc];refine ⟨b,off+l * sz,by rw [aF];simp [yD],hI,fun j u' hu=>?_⟩;rw [yr] at hu;split at hu
   ·rw [yV] at hu;have:=aO _ u' hu;rwa [show off+(l * sz+j)=off+l * sz+j by omega] at this
   ·cases hu
theorem WM (h:FR c.N w0 J s a w β) {T e:Nat} (hT:(c.ty T).k=.slice e) (he:(c.ty e).k≠.other) (x:Operand) (lo hi:Option Operand) (ex:s.ev x=.nil)
  (cS:s.lo lo 0) (ct:s.hi hi 0 0):yy c w0 J s a ⟨dst,.slice T x lo hi none,ty,pos,after,g⟩ w .nil []:=by
 have bm:=Ww (c:=c) (w:=w) (dst:=dst) (ty:=ty) (pos:=pos) (after:=after) (g:=g) hT he x lo hi (h.cp ex) (h.lo cS) (h.hi ct) (zm _) (zm _);exact .rd h bm (by simpa using Rd.nil) rfl
theorem Ul (h:FR c.N w0 J s a w β) (x:Operand) {fs:List FV} {f:FV} (ex:s.ev x=.bG fs) (hf:fs[i]? = some f) (hn:f.hand=none):yy c w0 J s a ⟨dst,.extract x i,ty,pos,after,g⟩ w f []:=by
 have hr:=h.aV ex rfl;generalize hx:a.eval x=v at hr;cases hr with
 | bG us fs hl hr =>
  have hi:i<us.length:=by rw [hl];exact (zK.1 hf).1
  have hu:us[i]? = some us[i]:=by simp [hi]
  exact .rd h (v:=us[i]) (by simp [execOp,Instr.extract,hx,hu]) (hr i _ f hu hf) hn
theorem YT (h:FR c.N w0 J s a w β) (x:Operand) {id aa o:Nat} (ex:s.ev x=.ptr id aa i o) (hl:s.live id aa):yy c w0 J s a ⟨dst,.nilCheck x,ty,pos,after,g⟩ w (.ptr id aa i o) []:=by
 obtain ⟨_,b,hb,hv⟩:=h.bL ex hl.1 hl.2;refine .pure h (v:=a.eval x) (by simp [execOp,hv]) ?_ (fun aN bo e=>h.cj x (by rw [ex];exact e));have:=h.ev x;rwa [ex] at this
theorem YG (h:FR c.N w0 J s a w β) (x:Operand) {sz o:Nat} {es:List (List FV)} (ex:s.ev x=.aH sz es i o):yy c w0 J s a ⟨dst,.nilCheck x,ty,pos,after,g⟩ w (.aH sz es i o) []:=by
 obtain ⟨b,off,us,hv,_⟩:=h.dt ex;refine .rd h (v:=a.eval x) (by simp [execOp,hv]) (h.aV ex rfl) rfl
inductive Src (s:ab):FV→Nat→List (List FV)→Prop where
 | nil (sz:Nat):Src s .nil sz []
 | list (sz:Nat) (es:List (List FV)):Src s (.list sz es) sz es
 | own (id aa o n:Nat) (hl:s.live id aa) (a9:(s.ob id).ag.row=true):Src s (.own id aa o n) (s.ob id).sz (((s.ob id).es.drop o).take n)
theorem FR.src (h:FR c.N w0 J s a w β) {f:FV} {sz:Nat} {es:List (List FV)} (ex:s.ev x=f) (hs:Src s f sz es):(∀ e∈es,e.length=sz)∧(∀ f∈es.flatten,f.one=true)∧
  ∃ A cc us,a.eval x=.slice A es.length cc∧es.length≤cc∧az w (aK J w β s) us es.flatten∧(A=none→us=[]∧es=[])∧(∀ ad,A=some ad→∀ (j:Nat) u,us[j]? = some u→w.cell? (ad.add j)=some u):=by
 cases hs with
 | nil sz => exact ⟨by simp, by simp, none, 0, [], h.cp ex, zm _, az.nil, fun _ => ⟨rfl, rfl⟩, fun _ e => by cases e⟩
 | list sz es=>
  have hr:=h.aV ex rfl;generalize hx:a.eval x=v at hr;cases hr with
  | list A m cc sz es us hn hc hw ho hA hl iw=>
   subst hn;refine ⟨hw,ho,A,cc,us,rfl,hc,⟨hl,iw⟩,fun dv=>?_,fun ad kX j u hu=>?_⟩
   ·have:es.length=0:=by
     rcases XC es.length with h0|h0
     ·exact h0
     ·obtain ⟨b,off,e,_⟩:=hA zc;rw [dv] at e;cases e
    have:es=[]:=xJ this;subst this;exact ⟨by simpa using hl,rfl⟩
   ·have h0:es.length≠0:=fun h0=>by
     have:es=[]:=xJ h0;subst this;have:us=[]:=by simpa using hl
     subst this;simp at hu
    obtain ⟨b,off,e,_,aO⟩:=hA h0;rw [kX] at e;injection e with e
    subst e;rw [yD];exact aO j u hu
 | own id aa o n hl a9=>
  obtain ⟨A,cc,e1,e2,e3,e4,e5⟩:=(h.bu ex hl.1 hl.2).ex;have hw:=((h.obj id hl.1).bl a9).wide;have bj:=((h.obj id hl.1).bl a9).one;have iy:∀ e∈(s.ob id).es.drop o,e.length=(s.ob id).sz:=fun e he=>hw e (yK he);have hlen:(((s.ob id).es.drop o).take n).length=n:=by simp;omega
  have bJ:(((s.ob id).es.drop o).take n).flatten=((s.ob id).es.flatten.drop (o * (s.ob id).sz)).take (n * (s.ob id).sz):=by rw [Za _ iy,xv _ hw]
  refine ⟨fun e he=>iy e (yF he),fun f hf=>by rw [bJ] at hf;exact bj f (yK (yF hf)),?_⟩;cases hb:β id with
  | none =>
   obtain ⟨rfl,rfl⟩:=e4 hb;obtain rfl:n=0:=by omega
   exact ⟨none,0,[],by simpa using e1,by simp,by simpa using az.nil,fun _=>⟨rfl,by simp⟩,fun _ e=>by cases e⟩
  | some b=>
   obtain ⟨o',rfl,k2,k3⟩:=e5 b hb;obtain ⟨cur,cap,aR,hn,hm,aY,hr,aw⟩:=h.block hl.1 a9 hb;refine ⟨_,cc,((cur.toList.take ((s.ob id).es.length * (s.ob id).sz)).drop (o * (s.ob id).sz)).take (n * (s.ob id).sz),by rw [hlen];exact e1,by omega,by rw [bJ];exact (hr.drop _).take _,(fun e=>by cases e),fun ad kX j u hu=>?_⟩;injection kX with kX
   subst kX;rw [yD,cell_of_row w b _ cur _ (0,0) aR];rw [yr] at hu;split at hu
   ·rename_i hj;have kA:n≠0:=by rintro rfl;simp at hj
    have:=k2 (.inl zc);subst this;rw [yV,yr] at hu;split at hu
    ·simpa using hu
    ·cases hu
   ·cases hu
inductive gy (s:ab):FV→Nat→List (List FV)→Option Nat→Prop where
 | nil (sz:Nat):gy s .nil sz [] none
 | own (id aa:Nat) (hl:(s.ob id).ag=.own) (hv:(s.ob id).aa=aa) (n:Nat) (hn:n=(s.ob id).es.length):gy s (.own id aa 0 n) (s.ob id).sz (s.ob id).es (some id)
def Zf (s:ab) (d:Nat) (E sz:Nat) (es:List (List FV)):Option Nat→List (Nat×yb)
 | none => [(d, ⟨(s.ob d).aa+1, .own, E, sz, es⟩)]
 | some i => [(i, { s.ob i with ag := .dead }), (d, ⟨(s.ob d).aa+1, .own, E, sz, es⟩)]
theorem XO (P:Program) (t ty:TypeId) (v:Value) (cc:Nat) (w:World):(Builtin.append_ #[t,t] ty #[v,.slice none 0 cc]).run P w=(Builtin.append_ #[t,t] ty #[v,.slice none 0 0]).run P w:=rfl
theorem XY (h:FR c.N w0 J s a w β) (d:Nat) {T e:Nat} (hT:(c.ty T).k=.slice e) (he:(c.ty e).k≠.other) (bh:0<(c.ty e).size) (x y:Operand) {f1 f2:FV} {bC ay:List (List FV)} {i:Option Nat} (ex:s.ev x=f1) (ey:s.ev y=f2)
  (h1:gy s f1 (c.ty e).size bC i) (hE:∀ k,i=some k→(s.ob k).E=e) (h2:Src s f2 (c.ty e).size ay) (hb:(bC.length+ay.length) * (c.ty e).bytes≤140737488355328) (hm:bC.length+ay.length≤140737488355328) :
  yy c w0 J s a ⟨some d,.call { callee:=.builtin .append,args:=#[x,y],argTypes:=#[T,T] },ty,pos,after,g⟩ w (.own d ((s.ob d).aa+1) 0 (bC++ay).length) (Zf s d e (c.ty e).size (bC++ay) i):=by
 obtain ⟨dd,ii,z,ht⟩:=c.get hT zd;have hd:=ht.k;rw [hT] at hd;obtain rfl:=zZ hd;obtain ⟨d',i',z',bU⟩:=c.get rfl he;have mh:z'.cells.size=(c.ty e).size:=by
  have:=(az.zeros (w:=w) (I:=aK J w β s) bU.zr).1;rw [bU.zl] at this;simpa using this
 obtain ⟨hZ,iI,A2,c2,cD,hy,fR,g5,jG,cq⟩:=h.src ey h2;obtain ⟨v1,eN,rE,g8,rq,ix,kC,iZ⟩:∃ v1 eN,a.eval x=v1∧w.ownsRow w0.heap.size e (c.ty e).size v1 bC.length eN∧az w (aK J w β s) eN bC.flatten∧(∀ q∈bC,q.length=(c.ty e).size)∧(∀ f∈bC.flatten,f.one=true)∧v1.ownBlock=i.bind β:=by
  generalize aF:(c.ty e).size=sz at h1 ⊢;cases h1 with
  | nil sz => exact ⟨_, [], h.cp ex, Yu _ _ _ _, az.nil, by simp, by simp, rfl⟩
  | own id aa hl hv n hn=>
   have ai:(s.ob id).ag≠.dead:=by rw [hl];decide
   have oM:=hE id rfl;obtain ⟨A,cc,e1,e2,e3,e4,e5⟩:=(h.bu ex ai hv).ex;have a9:(s.ob id).ag.row=true:=by rw [hl];rfl
   obtain ⟨v,us,r1,r2,r3⟩:=((h.obj id ai).bl a9).row;have hw:=((h.obj id ai).bl a9).wide;have bj:=((h.obj id ai).bl a9).one;rw [oM] at r1;refine ⟨v,us,?_,r1,r3,hw,bj,r2⟩;rw [e1];rcases r1.2 with ⟨rfl,h0⟩|⟨b,cap,cur,rfl,_,dx,_,_,aY,_⟩
   ·have fD:β id=none:=by rw [← r2];rfl
    obtain ⟨rfl,rfl⟩:=e4 fD;rw [hn,h0]
   ·have fD:β id=some b:=by rw [← r2];rfl
    obtain ⟨o',rfl,k2,k3⟩:=e5 b fD;have:=k3 cur (by rw [oM];exact dx);rw [aY,zR] at this;have mT:cap=cc:=XA (by rw [aF] at bh;exact bh) this;rw [k2 (.inr rfl),mT,hn];simp
 have qT:∀ k,i=some k→(s.ob k).ag=.own:=by
  intro k hk;generalize (c.ty e).size=sz at h1;cases h1 with
  | nil => cases hk
  | own id aa hl hv n hn => injection hk with hk; subst hk; exact hl
 have gU:cD.length=ay.length * (c.ty e).size:=by rw [g5.1,yq hZ]
 have mK:∀ u∈cD,u.oneCell'=true:=by
  intro u hu;obtain ⟨j,hj,rfl⟩:=yu hu;have eU:j<ay.flatten.length:=by rw [← g5.1];exact hj
  exact (g5.2 j _ ay.flatten[j] (by simp [hj]) zd).dB (iI _ (yt eU))
 obtain ⟨v',w',bm,bX,ld,nb⟩:∃ v' w',(Builtin.append_ #[T,T] ty #[v1,.slice A2 ay.length c2]).run c.P w=.ok v' w'∧w'.ownsRow w0.heap.size e (c.ty e).size v' (bC.length+ay.length) (eN++cD)∧w.grownBy w' v1.ownBlock∧
   (v'.ownBlock=v1.ownBlock∨v'.ownBlock=some w.heap.size):=by
  cases hA:A2 with
  | none =>
   obtain ⟨rfl,rfl⟩:=jG hA;rw [Vn,XO];refine ⟨v1,w,run_append_owned_none (P:=c.P) (w:=w) w0.heap.size T ty e i' (c.ty e).size ht.u bU.info v1 bC.length eN g8,by simpa using g8,⟨rfl,rfl,rfl,zm _,fun _ _ _=>rfl⟩,.inl rfl⟩
  | some ad =>
   obtain ⟨v',w',q1,q2,q3,_,q5⟩:=run_append_own_at (P:=c.P) w w0.heap.size T ty e i' z' (c.ty e).size (c.ty e).bytes ht.u bU.info bU.zo bU.size bU.bytes mh bh v1 bC.length eN g8 ad ay.length c2 cD gU (cq ad hA) mK (by unfold maxLen;omega) hb h.bN.size;exact ⟨v',w',q1,q2,q3,q5⟩
 have eT:(execOp a.eval ⟨some d,.call { callee:=.builtin .append,args:=#[x,y],argTypes:=#[T,T] },ty,pos,after,g⟩).run c.P w=.ok (.value v') w':=by
  simp [execOp,resolve,invoke,builtin,rE,hy,bm]
 rw [← ye] at bX;have kW:FR c.N w0 J (s.wr (Zf s d e (c.ty e).size (bC++ay) i)) a w' (YY β d v'.ownBlock):=by
  refine h.make i d (es:=bC++ay) (fun k hk=>by rw [qT k hk];rfl) (by rw [← iZ];exact ld) ?_ ?_ bX ?_ ?_ (fun k=>?_) (fun k=>ab.cg _ _ _)
  ·intro q hq;rcases yJ.1 hq with h'|h'
   ·exact ix q h'
   ·exact hZ q h'
  ·intro f hf;rw [xK] at hf;rcases yJ.1 hf with h'|h'
   ·exact kC f h'
   ·exact iI f h'
  ·rw [xK];exact rq.append g5
  ·rw [← iZ];rcases nb with e|e
   ·exact .inl e
   ·exact .inr (.inr ⟨_,e,zm _⟩)
  ·cases i with
   | none =>
    show (ab.set s d _).ob k=_;rw [ab.ao];split
    ·rfl
    ·simp
   | some i=>
    show (ab.set (ab.set s i _) d _).ob k=_;rw [ab.ao,ab.ao];by_cases fS:d=k
    ·rw [if_pos fS,if_pos fS]
    ·rw [if_neg fS,if_neg fS];by_cases gR:i=k
     ·subst gR;simp
     ·rw [if_neg gR,if_neg (by simpa using gR)]
 have cE:(s.wr (Zf s d e (c.ty e).size (bC++ay) i)).ob d=⟨(s.ob d).aa+1,.own,e,(c.ty e).size,bC++ay⟩:=by
  cases i with
  | none => show (ab.set s d _).ob d=_; rw [ab.ao, if_pos rfl]
  | some i => show (ab.set (ab.set s i _) d _).ob d=_; rw [ab.ao, if_pos rfl]
 refine ⟨v',w',_,eT,kW,fun _ _=>?_,fun id aa e=>?_⟩
 ·rw [cE,yP];exact WA.eG bX rfl rfl rfl rfl
 ·simp only [FV.hands,yg,yi] at e;obtain ⟨e1,e2⟩:=e;replace e1:=e1.symm;replace e2:=e2.symm;subst e1;subst e2;rw [cE];exact zm _
theorem Uk (h:FR c.N w0 J s a w β) (d:Nat) {T e:Nat} (hT:(c.ty T).k=.slice e) (he:(c.ty e).k≠.other) (bh:0<(c.ty e).size) (x y:Operand) {f1 f2:FV} {bC ay:List (List FV)} {i:Option Nat} (ex:s.ev x=f1) (ey:s.ev y=f2)
  (h1:gy s f1 (c.ty e).size bC i) (hE:∀ k,i=some k→(s.ob k).E=e) (h2:Src s f2 (c.ty e).size ay) (hb:(bC.length+ay.length) * (c.ty e).bytes≤140737488355328) (hm:bC.length+ay.length≤140737488355328) :
  yy c w0 J s a ⟨some d,.call { callee:=.builtin .append,args:=#[x,y],argTypes:=#[T,T] },ty,pos,after,g⟩ w (.list (c.ty e).size (bC++ay)) (Zf s d e (c.ty e).size (bC++ay) i++[(d,⟨(s.ob d).aa+1,.dead,e,(c.ty e).size,bC++ay⟩)]):=by
 obtain ⟨v,w',aP,bm,hF,hV,_⟩:=XY (ty:=ty) (pos:=pos) (after:=after) (g:=g) h d hT he bh x y ex ey h1 hE h2 hb hm;have cE:(s.wr (Zf s d e (c.ty e).size (bC++ay) i)).ob d=⟨(s.ob d).aa+1,.own,e,(c.ty e).size,bC++ay⟩:=by
  cases i with
  | none => show (ab.set s d _).ob d=_; rw [ab.ao, if_pos rfl]
  | some i => show (ab.set (ab.set s i _) d _).ob d=_; rw [ab.ao, if_pos rfl]
 have rJ:s.wr (Zf s d e (c.ty e).size (bC++ay) i++[(d,⟨(s.ob d).aa+1,.dead,e,(c.ty e).size,bC++ay⟩)])=(s.wr (Zf s d e (c.ty e).size (bC++ay) i)).set d ⟨(s.ob d).aa+1,.dead,e,(c.ty e).size,bC++ay⟩:=by
  unfold ab.wr;rw [List.foldl_append];rfl
 unfold yy;rw [rJ];generalize s.wr (Zf s d e (c.ty e).size (bC++ay) i)=s1 at hF hV cE ⊢;have hl:(s1.ob d).ag≠.dead:=by rw [cE];exact fun q=>by cases q
 have a9:(s1.ob d).ag.row=true:=by rw [cE];rfl
 obtain ⟨A,cc,e1,e2,e3,e4,e5⟩:=(hV hl (by rw [cE])).ex;have qH:FR c.N w0 J (s1.set d ⟨(s.ob d).aa+1,.dead,e,(c.ty e).size,bC++ay⟩) a w' aP:=
  hF.fJ d .dead (fun q=>by cases q) (fun _=>rfl) (fun q=>absurd rfl q) (fun k=>by rw [ab.ao,cE]) (fun _=>rfl) (fun q=>absurd rfl q)
 have hI:∀ b,aK J w' aP s1 b→aK J w' aP (s1.set d ⟨(s.ob d).aa+1,.dead,e,(c.ty e).size,bC++ay⟩) b∧w'.heap[b]? = w'.heap[b]?:=fun b aE=>by
  refine ⟨⟨aE.1,aE.2.1,fun id hq=>?_⟩,rfl⟩;rw [ab.ao] at hq;split at hq
  ·cases hq
  ·exact aE.2.2 id hq
 have hw:=((hF.obj d hl).bl a9).wide;have bj:=((hF.obj d hl).bl a9).one;rw [cE] at hw bj;refine ⟨v,w',aP,bm,qH,?_,fun _ _ q=>(FV.aU rfl q).elim⟩;refine VR.bk ?_ rfl;rw [e1];cases jL:aP d with
 | none =>
  obtain ⟨rfl,rfl⟩:=e4 jL;have kA:(bC++ay).length=0:=by omega
  have gX:bC++ay=[]:=xJ kA;exact Rd.list none _ 0 _ _ [] rfl zc hw bj (fun q=>absurd kA q) (by rw [gX];rfl) (fun j u f hu=>by simp at hu)
 | some b=>
  obtain ⟨cur,cap,aR,hn,ji,aY,hr,aw⟩:=hF.block hl a9 jL;obtain ⟨o',rfl,k2,k3⟩:=e5 b jL;have dI : o'=0:=by have:=k2 (.inr rfl);rw [xy] at this;exact this
  subst dI;rw [cE] at aR aY hr aw hn;have hlen:(bC++ay).flatten.length=(bC++ay).length * (c.ty e).size:=yq hw;refine Rd.list (some ⟨b,0,none⟩) _ cc _ _ (cur.toList.take ((bC++ay).length * (c.ty e).size)) rfl e2 hw bj (fun _=>⟨b,0,rfl,⟨?_,?_,fun id hq rm=>?_⟩,fun j u hu=>?_⟩) hr.1 (fun j u f hu hf=>(hr.2 j u f hu hf).mono hI)
  ·exact ((hF.obj d hl).lt jL).2
  ·exact hF.fresh b ((hF.obj d hl).lt jL).1 (.inr ⟨d,hl,jL⟩)
  ·rw [ab.ao] at hq;split at hq
   ·cases hq
   ·rename_i bM;exact bM (hF.inj d id b hl (yT.bg hq) jL rm)
  ·rw [cell_of_row w' b _ cur _ (0,0) aR];rw [yr] at hu;split at hu
   ·simpa using hu
   ·cases hu
end
end Go.Proofs.YtedkppfghdipdaaGreatDoor
