/-
  Some texts as one: Base, FmA, FmB, FmC, FmD, FmE, FmF, FmG, FmH.
-/
import Derived.WalkKit
import Derived.WalkLawsBesides
import Derived.WalkSpells
import Derived.BigQuiet
import Derived.Deep.QuietTactic
import Derived.Handy
import Derived.Lib.Hide
import Derived.Maps.AppendAt
import Derived.StillTailTactics
import Derived.Deep.Draws
import Derived.Laws.OwnMore
import Derived.Maps.OwnSet
import Derived.Laws.MakeOwn
namespace Go.Proofs.Ytmnmakhpjgjdaaa
set_option linter.unusedVariables false
set_option maxHeartbeats 16000000
open Go.RowKit
structure zj9 (P:Prop):Prop where
 out:P
theorem yh {P Q:Prop} (h:P) (f:zj9 P→Q:=by intro h;(repeat (first|refine FW.seq ?_|refine FW.region ?_|refine FW.block ?_|refine FW.skip ?_|refine FW.exit ?_|refine zn.nil ?_));exact h.out):Q:=f ⟨h⟩
theorem zb {P Q:Prop} (h:P) (f:zj9 P→Q:=by intro h;(repeat (first|refine FW.seq ?_|refine FW.region ?_|refine FW.block ?_|refine FW.skip ?_|refine FW.exit ?_|refine FW.condT rfl ?_|refine FW.condF rfl ?_|refine zn.nil ?_|(refine zn7 ?_;first|refine zG rfl rfl rfl ?_|refine zV rfl rfl rfl ?_|(refine zbx ?_;first|refine xc rfl rfl rfl (by first|omega|(simp;omega)|(simp;done)) (by first|exact yd (by omega)|rfl) rfl rfl rfl rfl ?_|refine ZJ rfl rfl rfl rfl rfl (by first|omega|(simp;omega)|(simp;done)) (by first|exact yd (by omega)|rfl) rfl rfl rfl rfl ?_|refine zlH rfl rfl rfl (by decide) (by first|omega|(simp;omega)|(simp;done)) (by first|exact yd (by omega)|rfl) rfl rfl rfl ?_|refine zfU rfl rfl rfl (by decide) rfl rfl (by first|omega|(simp;omega)|(simp;done)) (by first|exact yd (by omega)|rfl) rfl rfl rfl ?_|refine Ws rfl rfl rfl rfl rfl rfl rfl ?_)|(refine zjB ?_;first|refine zbB rfl rfl rfl rfl rfl rfl rfl rfl rfl ?_|refine zc6 rfl rfl rfl rfl rfl rfl rfl rfl rfl ?_|refine zbA rfl rfl rfl rfl rfl rfl (by first|omega|(simp;omega)|(simp;done)) (by first|exact yd (by omega)|rfl) rfl rfl rfl ?_|refine zjI rfl rfl rfl rfl rfl rfl (by decide) (by first|omega|(simp;omega)|(simp;done)) rfl ?_|refine zjG rfl rfl rfl rfl rfl rfl (by decide) (by first|omega|(simp;omega)|(simp;done)) rfl ?_)|(refine Uo ?_;first|refine zbw rfl rfl rfl rfl rfl rfl rfl ?_|refine VG rfl rfl rfl rfl rfl rfl (by decide) rfl rfl ?_)|(refine zc4 ?_;first|refine XM rfl rfl (by first|rfl|exact (Int.toNat_of_nonneg (by omega)).symm) rfl rfl rfl (by first|omega|(simp;omega)|(simp;done)) rfl rfl ?_|refine xS rfl rfl (by first|rfl|exact (Int.toNat_of_nonneg (by omega)).symm) rfl rfl rfl (by decide) rfl (by first|omega|(simp;omega)|(simp;done)) rfl rfl ?_|refine zjA rfl rfl (by first|rfl|exact (Int.toNat_of_nonneg (by omega)).symm) rfl rfl rfl rfl (by decide) (by first|omega|(simp;omega)|(simp;done)) rfl rfl ?_|refine zc3 rfl rfl (by first|rfl|exact (Int.toNat_of_nonneg (by omega)).symm) rfl rfl rfl (by first|omega|(simp;omega)|(simp;done)) rfl rfl ?_)|(refine zfS ?_;first|refine zd9 rfl rfl rfl rfl ?_|refine zam rfl rfl rfl rfl ?_)|(refine zh8 ?_;first|refine zlF rfl rfl rfl rfl ?_|refine zlK rfl rfl rfl rfl ?_|refine zh9 rfl rfl rfl rfl ?_|refine zo1 rfl rfl rfl rfl ?_|refine znx rfl rfl rfl rfl ?_|refine znw rfl rfl rfl rfl ?_|refine UI rfl rfl (by omega) rfl rfl ?_|refine zlR rfl rfl (by omega) rfl rfl ?_|refine zo3 rfl rfl (by omega) rfl rfl ?_|refine zo4 rfl rfl (by omega) rfl rfl ?_)|refine zc5 rfl rfl rfl ?_|refine zak rfl rfl rfl rfl rfl rfl rfl ?_|refine zn3 rfl rfl rfl rfl rfl rfl rfl ?_|refine zfQ rfl rfl rfl rfl ?_|refine zjz rfl rfl rfl rfl rfl rfl rfl rfl rfl ?_|refine zc2 rfl rfl rfl rfl rfl rfl ?_|refine YM rfl rfl rfl rfl rfl rfl rfl rfl ?_|refine zg3 rfl rfl rfl rfl rfl rfl rfl rfl rfl rfl ?_|refine zg4 rfl (by first|rfl|exact (Int.toNat_of_nonneg (by omega)).symm) rfl (by first|rfl|exact (Int.toNat_of_nonneg (by omega)).symm) rfl rfl rfl rfl (by first|omega|(simp;omega)|(simp;done)) (by first|omega|(simp;omega)|(simp;done)) rfl rfl rfl ?_|refine zlQ rfl rfl rfl rfl (by decide) rfl (by first|exact LoR.none|exact LoR.some rfl|exact LoR.lit rfl (by first|rfl|exact (Int.toNat_of_nonneg (by omega)).symm)) (by first|exact HiR.none|exact HiR.some rfl|exact HiR.lit rfl (by first|rfl|exact (Int.toNat_of_nonneg (by omega)).symm)) (by first|omega|(simp;omega)|(simp;done)) (by first|omega|(simp;omega)|(simp;done)) rfl rfl ?_|refine Um rfl rfl rfl rfl rfl ?_|refine zm1 rfl rfl rfl (by first|omega|(simp;done)|(simp;omega)) rfl rfl ?_|refine zm0 rfl rfl rfl (by omega) rfl rfl ?_|refine zjC rfl rfl rfl rfl ?_|refine zjD rfl rfl rfl rfl rfl rfl rfl rfl ?_|refine zjE rfl rfl rfl rfl ?_|refine zmX rfl rfl rfl rfl ?_|refine zlM rfl rfl (by decide) rfl rfl ?_|refine zlL rfl rfl rfl ?_|refine zjF rfl rfl rfl (by kernel_rfl) rfl rfl ?_|refine zg5 rfl rfl (by kernel_rfl) rfl rfl ?_|refine zjL rfl rfl rfl (by kernel_rfl) rfl rfl ?_|refine zn6 rfl rfl rfl rfl rfl (by first|exact Zv.own rfl rfl (by decide) (by first|exact List.length_map _|exact (List.length_map _).symm|exact List.length_replicate|rfl|(simp;done)|omega|(simp;omega))|exact Zv.list rfl|exact Zv.nil rfl|exact Zv.part rfl rfl (by decide)) rfl rfl ?_|refine zlA rfl rfl (by first|exact List.length_map _|exact (List.length_map _).symm|exact List.length_replicate|rfl|(simp;done)|omega|(simp;omega)) rfl rfl rfl (by decide) (by first|exact Zv.own rfl rfl (by decide) (by first|exact List.length_map _|exact (List.length_map _).symm|exact List.length_replicate|rfl|(simp;done)|omega|(simp;omega))|exact Zv.list rfl|exact Zv.nil rfl|exact Zv.part rfl rfl (by decide)) (by first|omega|(simp;omega)|(simp;done)) (by first|omega|(simp;omega)|(simp;done)) rfl rfl rfl ?_|refine zby rfl rfl rfl (by decide) rfl rfl ?_|refine YN rfl rfl (by first|exact List.length_map _|exact (List.length_map _).symm|exact List.length_replicate|rfl|(simp;done)|omega|(simp;omega)) rfl rfl ?_|refine zfT rfl rfl rfl rfl ?_|refine zlN rfl rfl rfl ?_)|(refine zo0 ?_;first|refine zG rfl rfl ⟨_,_,rfl,rfl,rfl⟩ ?_|(refine zbx ?_;first|refine xc rfl rfl rfl (by first|omega|(simp;omega)|(simp;done)) (by first|exact yd (by omega)|rfl) rfl rfl rfl ⟨_,_,rfl,rfl,rfl⟩ ?_|refine ZJ rfl rfl rfl rfl rfl (by first|omega|(simp;omega)|(simp;done)) (by first|exact yd (by omega)|rfl) rfl rfl rfl ⟨_,_,rfl,rfl,rfl⟩ ?_|refine zfU rfl rfl rfl (by decide) rfl rfl (by first|omega|(simp;omega)|(simp;done)) (by first|exact yd (by omega)|rfl) rfl rfl ⟨_,_,rfl,rfl,rfl⟩ ?_)|(refine Uo ?_;first|refine zbw rfl rfl rfl rfl rfl rfl ⟨_,_,rfl,rfl,rfl⟩ ?_|refine VG rfl rfl rfl rfl rfl rfl (by decide) rfl ⟨_,_,rfl,rfl,rfl⟩ ?_)|(refine zc4 ?_;first|refine XM rfl rfl (by first|rfl|exact (Int.toNat_of_nonneg (by omega)).symm) rfl rfl rfl (by first|omega|(simp;omega)|(simp;done)) rfl ⟨_,_,rfl,rfl,rfl⟩ ?_|refine xS rfl rfl (by first|rfl|exact (Int.toNat_of_nonneg (by omega)).symm) rfl rfl rfl (by decide) rfl (by first|omega|(simp;omega)|(simp;done)) rfl ⟨_,_,rfl,rfl,rfl⟩ ?_|refine zc3 rfl rfl (by first|rfl|exact (Int.toNat_of_nonneg (by omega)).symm) rfl rfl rfl (by first|omega|(simp;omega)|(simp;done)) rfl ⟨_,_,rfl,rfl,rfl⟩ ?_)|(refine zfS ?_;first|refine zd9 rfl rfl rfl ⟨_,_,rfl,rfl,rfl⟩ ?_|refine zam rfl rfl rfl ⟨_,_,rfl,rfl,rfl⟩ ?_)|(refine zh8 ?_;first|refine zlF rfl rfl rfl ⟨_,_,rfl,rfl,rfl⟩ ?_|refine zlK rfl rfl rfl ⟨_,_,rfl,rfl,rfl⟩ ?_|refine zn8 rfl rfl rfl rfl ⟨_,_,rfl,rfl,rfl⟩ ?_|refine zlI rfl rfl rfl rfl ⟨_,_,rfl,rfl,rfl⟩ ?_|refine zlJ rfl rfl rfl rfl (by decide) (by first|omega|(simp;omega)|(simp;done)) rfl ⟨_,_,rfl,rfl,rfl⟩ ?_|refine zh9 rfl rfl rfl ⟨_,_,rfl,rfl,rfl⟩ ?_|refine znx rfl rfl rfl ⟨_,_,rfl,rfl,rfl⟩ ?_|refine znw rfl rfl rfl ⟨_,_,rfl,rfl,rfl⟩ ?_|refine UI rfl rfl (by omega) rfl ⟨_,_,rfl,rfl,rfl⟩ ?_|refine zlR rfl rfl (by omega) rfl ⟨_,_,rfl,rfl,rfl⟩ ?_)|refine zc2 rfl rfl rfl rfl rfl ⟨_,_,rfl,rfl,rfl⟩ ?_|refine zlP rfl rfl rfl rfl (by first|exact LoR.none|exact LoR.some rfl|exact LoR.lit rfl (by first|rfl|exact (Int.toNat_of_nonneg (by omega)).symm)) (by first|exact HiR.none|exact HiR.some rfl|exact HiR.lit rfl (by first|rfl|exact (Int.toNat_of_nonneg (by omega)).symm)) (by first|omega|(simp;omega)|(simp;done)) (by first|omega|(simp;omega)|(simp;done)) rfl ⟨_,_,rfl,rfl,rfl⟩ ?_|refine zlM rfl rfl (by decide) rfl ⟨_,_,rfl,rfl,rfl⟩ ?_|refine zlA rfl rfl (by first|exact List.length_map _|exact (List.length_map _).symm|exact List.length_replicate|rfl|(simp;done)|omega|(simp;omega)) rfl rfl rfl (by decide) (by first|exact Zv.own rfl rfl (by decide) (by first|exact List.length_map _|exact (List.length_map _).symm|exact List.length_replicate|rfl|(simp;done)|omega|(simp;omega))|exact Zv.list rfl|exact Zv.nil rfl|exact Zv.part rfl rfl (by decide)) (by first|omega|(simp;omega)|(simp;done)) (by first|omega|(simp;omega)|(simp;done)) rfl rfl ⟨_,_,rfl,rfl,rfl⟩ ?_|refine zby rfl rfl rfl (by decide) rfl ⟨_,_,rfl,rfl,rfl⟩ ?_|refine YN rfl rfl (by first|exact List.length_map _|exact (List.length_map _).symm|exact List.length_replicate|rfl|(simp;done)|omega|(simp;omega)) rfl ⟨_,_,rfl,rfl,rfl⟩ ?_|refine zfT rfl rfl rfl ⟨_,_,rfl,rfl,rfl⟩ ?_|refine zo2 rfl rfl rfl ⟨_,_,rfl,rfl,rfl⟩ ?_|refine zlN rfl rfl ⟨_,_,rfl,rfl,rfl⟩ ?_|refine zlO rfl rfl ⟨_,_,rfl,rfl,rfl⟩ ?_)|refine Yh.nil ?_|refine Yh.one rfl rfl rfl rfl rfl ?_|refine Yh.agg rfl rfl rfl rfl (List.cons_ne_nil _ _) rfl ?_));exact h.out):Q:=f ⟨h⟩
theorem zQ {P Q:Prop} (h:P) (f:zj9 P→Q:=by intro h;(repeat (first|refine FW.seq ?_|refine FW.region ?_|refine FW.block ?_|refine FW.skip ?_|refine FW.exit ?_|refine FW.condF rfl ?_|refine zn.nil ?_|(refine zn7 ?_;first|refine zG rfl rfl rfl ?_|refine zV rfl rfl rfl ?_|refine zam rfl rfl rfl rfl ?_|refine zh9 rfl rfl rfl rfl ?_|refine zak rfl rfl rfl rfl rfl rfl rfl ?_|refine Um rfl rfl rfl rfl rfl ?_)|(refine zo0 ?_;first|refine zG rfl rfl ⟨_,_,rfl,rfl,rfl⟩ ?_|refine zh9 rfl rfl rfl ⟨_,_,rfl,rfl,rfl⟩ ?_)|refine Yh.nil ?_|refine Yh.one rfl rfl rfl rfl rfl ?_|refine FW.draw ?_|refine zN.nil ?_|(refine zoR ?_;first|refine Yt rfl rfl rfl ?_|refine zbm rfl rfl rfl ?_|(refine VD ?_;first|refine Wp rfl rfl rfl (by first|omega|(simp;omega)|(simp;done)) (by first|exact yd (by omega)|rfl) rfl rfl rfl rfl ?_|refine Yn rfl rfl rfl rfl rfl (by first|omega|(simp;omega)|(simp;done)) (by first|exact yd (by omega)|rfl) rfl rfl rfl rfl ?_|refine zlj rfl rfl rfl (by decide) (by first|omega|(simp;omega)|(simp;done)) (by first|exact yd (by omega)|rfl) rfl rfl rfl ?_|refine zh3 rfl rfl rfl rfl rfl rfl rfl ?_)|(refine zjq ?_;first|refine zfJ rfl rfl rfl rfl rfl rfl (by first|omega|(simp;omega)|(simp;done)) (by first|exact yd (by omega)|rfl) rfl rfl rfl ?_|refine zcZ rfl rfl rfl rfl rfl rfl (by decide) (by first|omega|(simp;omega)|(simp;done)) rfl ?_)|(refine Wo ?_;first|refine XJ rfl rfl rfl rfl rfl rfl rfl ?_|refine XK rfl rfl rfl rfl rfl rfl (by decide) rfl rfl ?_)|(refine zcX ?_;first|refine XL rfl rfl (by first|rfl|exact (Int.toNat_of_nonneg (by omega)).symm) rfl rfl rfl (by first|omega|(simp;omega)|(simp;done)) rfl rfl ?_|refine zbo rfl rfl (by first|rfl|exact (Int.toNat_of_nonneg (by omega)).symm) rfl rfl rfl (by decide) rfl (by first|omega|(simp;omega)|(simp;done)) rfl rfl ?_|refine YK rfl rfl (by first|rfl|exact (Int.toNat_of_nonneg (by omega)).symm) rfl rfl rfl rfl (by decide) (by first|omega|(simp;omega)|(simp;done)) rfl rfl ?_)|(refine zbp ?_;first|refine zd5 rfl rfl rfl rfl ?_|refine zd4 rfl rfl rfl rfl ?_)|(refine zaj ?_;first|refine zh2 rfl rfl rfl rfl ?_|refine zln rfl rfl rfl rfl ?_|refine znt rfl rfl rfl rfl ?_|refine zoT rfl rfl rfl rfl ?_|refine zoW rfl rfl (by omega) rfl rfl ?_)|refine zfH rfl rfl rfl rfl ?_|refine zjo rfl rfl rfl rfl rfl rfl rfl rfl rfl ?_|refine Uj rfl rfl rfl rfl rfl rfl rfl rfl ?_|refine zbn rfl rfl rfl rfl rfl rfl rfl rfl rfl rfl ?_|refine zlp rfl rfl rfl rfl (by decide) rfl (by first|exact LoR.none|exact LoR.some rfl|exact LoR.lit rfl (by first|rfl|exact (Int.toNat_of_nonneg (by omega)).symm)) (by first|exact HiR.none|exact HiR.some rfl|exact HiR.lit rfl (by first|rfl|exact (Int.toNat_of_nonneg (by omega)).symm)) (by first|omega|(simp;omega)|(simp;done)) (by first|omega|(simp;omega)|(simp;done)) rfl rfl ?_|refine znY rfl rfl (by decide) rfl rfl ?_|refine zd3 rfl rfl rfl ?_|refine zjs rfl rfl rfl (by kernel_rfl) rfl rfl ?_|refine znW rfl rfl rfl rfl rfl (by first|exact Zv.own rfl rfl (by decide) (by first|exact List.length_map _|exact (List.length_map _).symm|exact List.length_replicate|rfl|(simp;done)|omega|(simp;omega))|exact Zv.list rfl|exact Zv.nil rfl|exact Zv.part rfl rfl (by decide)) rfl rfl ?_|refine zg0 rfl rfl (by first|exact List.length_map _|exact (List.length_map _).symm|exact List.length_replicate|rfl|(simp;done)|omega|(simp;omega)) rfl rfl rfl (by decide) (by first|exact Zv.own rfl rfl (by decide) (by first|exact List.length_map _|exact (List.length_map _).symm|exact List.length_replicate|rfl|(simp;done)|omega|(simp;omega))|exact Zv.list rfl|exact Zv.nil rfl|exact Zv.part rfl rfl (by decide)) (by first|omega|(simp;omega)|(simp;done)) (by first|omega|(simp;omega)|(simp;done)) rfl rfl rfl ?_|refine zli rfl rfl rfl (by decide) rfl rfl ?_|refine zcY rfl rfl (by first|exact List.length_map _|exact (List.length_map _).symm|exact List.length_replicate|rfl|(simp;done)|omega|(simp;omega)) rfl rfl ?_|refine znu rfl rfl rfl ?_)|(refine zoS ?_;first|refine Yt rfl rfl ⟨_,_,rfl,rfl,rfl⟩ ?_|(refine VD ?_;first|refine Wp rfl rfl rfl (by first|omega|(simp;omega)|(simp;done)) (by first|exact yd (by omega)|rfl) rfl rfl rfl ⟨_,_,rfl,rfl,rfl⟩ ?_|refine Yn rfl rfl rfl rfl rfl (by first|omega|(simp;omega)|(simp;done)) (by first|exact yd (by omega)|rfl) rfl rfl rfl ⟨_,_,rfl,rfl,rfl⟩ ?_)|(refine Wo ?_;first|refine XJ rfl rfl rfl rfl rfl rfl ⟨_,_,rfl,rfl,rfl⟩ ?_|refine XK rfl rfl rfl rfl rfl rfl (by decide) rfl ⟨_,_,rfl,rfl,rfl⟩ ?_)|refine XL rfl rfl (by first|rfl|exact (Int.toNat_of_nonneg (by omega)).symm) rfl rfl rfl (by first|omega|(simp;omega)|(simp;done)) rfl ⟨_,_,rfl,rfl,rfl⟩ ?_|(refine zbp ?_;first|refine zd5 rfl rfl rfl ⟨_,_,rfl,rfl,rfl⟩ ?_|refine zd4 rfl rfl rfl ⟨_,_,rfl,rfl,rfl⟩ ?_)|(refine zaj ?_;first|refine zh2 rfl rfl rfl ⟨_,_,rfl,rfl,rfl⟩ ?_|refine zln rfl rfl rfl ⟨_,_,rfl,rfl,rfl⟩ ?_)|refine zd3 rfl rfl ⟨_,_,rfl,rfl,rfl⟩ ?_|refine znu rfl rfl ⟨_,_,rfl,rfl,rfl⟩ ?_|refine zlo rfl rfl ⟨_,_,rfl,rfl,rfl⟩ ?_)));exact h.out):Q:=f ⟨h⟩
theorem ZQ {P Q:Prop} (h:P) (f:zj9 P→Q:=by intro h;(repeat (first|refine FW.seq ?_|refine FW.region ?_|refine FW.skip ?_|refine zn.nil ?_|(refine zn7 ?_;first|refine zG rfl rfl rfl ?_|refine zV rfl rfl rfl ?_|(refine zbx ?_;first|refine xc rfl rfl rfl (by first|omega|(simp;omega)|(simp;done)) (by first|exact yd (by omega)|rfl) rfl rfl rfl rfl ?_|refine ZJ rfl rfl rfl rfl rfl (by first|omega|(simp;omega)|(simp;done)) (by first|exact yd (by omega)|rfl) rfl rfl rfl rfl ?_)|refine zbB rfl rfl rfl rfl rfl rfl rfl rfl rfl ?_|(refine Uo ?_;first|refine zbw rfl rfl rfl rfl rfl rfl rfl ?_|refine VG rfl rfl rfl rfl rfl rfl (by decide) rfl rfl ?_)|refine XM rfl rfl (by first|rfl|exact (Int.toNat_of_nonneg (by omega)).symm) rfl rfl rfl (by first|omega|(simp;omega)|(simp;done)) rfl rfl ?_|refine zg4 rfl (by first|rfl|exact (Int.toNat_of_nonneg (by omega)).symm) rfl (by first|rfl|exact (Int.toNat_of_nonneg (by omega)).symm) rfl rfl rfl rfl (by first|omega|(simp;omega)|(simp;done)) (by first|omega|(simp;omega)|(simp;done)) rfl rfl rfl ?_|refine zlL rfl rfl rfl ?_)));exact h.out):Q:=f ⟨h⟩
theorem zp {P Q:Prop} (h:P) (f:zj9 P→Q:=by intro h;(repeat (first|refine Yh.nil ?_|refine Yh.one rfl rfl rfl rfl rfl ?_|refine Yh.agg rfl rfl rfl rfl (List.cons_ne_nil _ _) rfl ?_|refine zN.nil ?_|(refine zoR ?_;first|refine Yt rfl rfl rfl ?_|refine zbm rfl rfl rfl ?_|(refine VD ?_;first|refine Wp rfl rfl rfl (by first|omega|(simp;omega)|(simp;done)) (by first|exact yd (by omega)|rfl) rfl rfl rfl rfl ?_|refine Yn rfl rfl rfl rfl rfl (by first|omega|(simp;omega)|(simp;done)) (by first|exact yd (by omega)|rfl) rfl rfl rfl rfl ?_|refine zlk rfl rfl rfl (by decide) rfl rfl (by first|omega|(simp;omega)|(simp;done)) (by first|exact yd (by omega)|rfl) rfl rfl rfl ?_)|refine zjr rfl rfl rfl rfl rfl rfl rfl rfl rfl ?_|(refine Wo ?_;first|refine XJ rfl rfl rfl rfl rfl rfl rfl ?_|refine XK rfl rfl rfl rfl rfl rfl (by decide) rfl rfl ?_)|(refine zcX ?_;first|refine XL rfl rfl (by first|rfl|exact (Int.toNat_of_nonneg (by omega)).symm) rfl rfl rfl (by first|omega|(simp;omega)|(simp;done)) rfl rfl ?_|refine YK rfl rfl (by first|rfl|exact (Int.toNat_of_nonneg (by omega)).symm) rfl rfl rfl rfl (by decide) (by first|omega|(simp;omega)|(simp;done)) rfl rfl ?_)|(refine zbp ?_;first|refine zd5 rfl rfl rfl rfl ?_|refine zd4 rfl rfl rfl rfl ?_)|(refine zaj ?_;first|refine zh2 rfl rfl rfl rfl ?_|refine zns rfl rfl (by omega) rfl rfl ?_|refine zoV rfl rfl (by omega) rfl rfl ?_)|refine zfH rfl rfl rfl rfl ?_|refine Uj rfl rfl rfl rfl rfl rfl rfl rfl ?_|refine zbn rfl rfl rfl rfl rfl rfl rfl rfl rfl rfl ?_|refine zjp rfl rfl rfl rfl rfl ?_|refine zd3 rfl rfl rfl ?_|refine znV rfl rfl rfl rfl (by decide) (by first|exact Zv.own rfl rfl (by decide) (by first|exact List.length_map _|exact (List.length_map _).symm|exact List.length_replicate|rfl|(simp;done)|omega|(simp;omega))|exact Zv.list rfl|exact Zv.nil rfl|exact Zv.part rfl rfl (by decide)) (by first|omega|(simp;omega)|(simp;done)) (by first|omega|(simp;omega)|(simp;done)) rfl rfl rfl ?_|refine zg0 rfl rfl (by first|exact List.length_map _|exact (List.length_map _).symm|exact List.length_replicate|rfl|(simp;done)|omega|(simp;omega)) rfl rfl rfl (by decide) (by first|exact Zv.own rfl rfl (by decide) (by first|exact List.length_map _|exact (List.length_map _).symm|exact List.length_replicate|rfl|(simp;done)|omega|(simp;omega))|exact Zv.list rfl|exact Zv.nil rfl|exact Zv.part rfl rfl (by decide)) (by first|omega|(simp;omega)|(simp;done)) (by first|omega|(simp;omega)|(simp;done)) rfl rfl rfl ?_|refine zcY rfl rfl (by first|exact List.length_map _|exact (List.length_map _).symm|exact List.length_replicate|rfl|(simp;done)|omega|(simp;omega)) rfl rfl ?_)|(refine zoS ?_;first|refine Yt rfl rfl ⟨_,_,rfl,rfl,rfl⟩ ?_|(refine VD ?_;first|refine Wp rfl rfl rfl (by first|omega|(simp;omega)|(simp;done)) (by first|exact yd (by omega)|rfl) rfl rfl rfl ⟨_,_,rfl,rfl,rfl⟩ ?_|refine Yn rfl rfl rfl rfl rfl (by first|omega|(simp;omega)|(simp;done)) (by first|exact yd (by omega)|rfl) rfl rfl rfl ⟨_,_,rfl,rfl,rfl⟩ ?_)|(refine Wo ?_;first|refine XJ rfl rfl rfl rfl rfl rfl ⟨_,_,rfl,rfl,rfl⟩ ?_|refine XK rfl rfl rfl rfl rfl rfl (by decide) rfl ⟨_,_,rfl,rfl,rfl⟩ ?_)|refine XL rfl rfl (by first|rfl|exact (Int.toNat_of_nonneg (by omega)).symm) rfl rfl rfl (by first|omega|(simp;omega)|(simp;done)) rfl ⟨_,_,rfl,rfl,rfl⟩ ?_|(refine zaj ?_;first|refine zh2 rfl rfl rfl ⟨_,_,rfl,rfl,rfl⟩ ?_|refine zln rfl rfl rfl ⟨_,_,rfl,rfl,rfl⟩ ?_|refine znX rfl rfl rfl rfl ⟨_,_,rfl,rfl,rfl⟩ ?_|refine znt rfl rfl rfl ⟨_,_,rfl,rfl,rfl⟩ ?_)|refine zd3 rfl rfl ⟨_,_,rfl,rfl,rfl⟩ ?_|refine zlo rfl rfl ⟨_,_,rfl,rfl,rfl⟩ ?_)));exact h.out):Q:=f ⟨h⟩
theorem zmk {P:Prop} (h:P:=by repeat (first|exact xq.nil|refine xq.cons (.plain rfl rfl) ?_|refine xq.cons (.ptr (.head _) rfl) ?_|refine xq.cons (.own (.head _) rfl rfl rfl) ?_|refine xq.cons (.omap (.head _) rfl) ?_|refine xq.cons (.ptr (.tail _ (.head _)) rfl) ?_|refine xq.cons (.own (.tail _ (.head _)) rfl rfl rfl) ?_|refine xq.cons (.omap (.tail _ (.head _)) rfl) ?_|refine xq.cons (.ptr (.tail _ (.tail _ (.head _))) rfl) ?_|refine xq.cons (.own (.tail _ (.tail _ (.head _))) rfl rfl rfl) ?_|refine xq.cons (.omap (.tail _ (.tail _ (.head _))) rfl) ?_|refine xq.cons (.ptr (.tail _ (.tail _ (.tail _ (.head _)))) rfl) ?_|refine xq.cons (.own (.tail _ (.tail _ (.tail _ (.head _)))) rfl rfl rfl) ?_|refine xq.cons (.omap (.tail _ (.tail _ (.tail _ (.head _)))) rfl) ?_|refine xq.cons (.ptr (.tail _ (.tail _ (.tail _ (.tail _ (.head _))))) rfl) ?_|refine xq.cons (.own (.tail _ (.tail _ (.tail _ (.tail _ (.head _))))) rfl rfl rfl) ?_|refine xq.cons (.omap (.tail _ (.tail _ (.tail _ (.tail _ (.head _))))) rfl) ?_)):P:=h
theorem zmj {P:Prop} (h:P:=by repeat (first|exact xq.nil|refine xq.cons (.plain rfl rfl) ?_|refine xq.cons (.nil (.head _) rfl) ?_|refine xq.cons (.own (.tail _ (.head _)) rfl (by first|rfl|(simp;done)|(congr 1;omega)|(simp;omega)|(simp [List.take_of_length_le];done)|(refine congrArg (FV.int .i64) ?_;omega)) (by first|rfl|(simp;done)|(congr 1;omega)|(simp;omega)|(simp [List.take_of_length_le];done)|(refine congrArg (FV.int .i64) ?_;omega))) ?_|refine xq.cons (.nil (.tail _ (.head _)) rfl) ?_|refine xq.cons (.own (.tail _ (.tail _ (.head _))) rfl (by first|rfl|(simp;done)|(congr 1;omega)|(simp;omega)|(simp [List.take_of_length_le];done)|(refine congrArg (FV.int .i64) ?_;omega)) (by first|rfl|(simp;done)|(congr 1;omega)|(simp;omega)|(simp [List.take_of_length_le];done)|(refine congrArg (FV.int .i64) ?_;omega))) ?_|refine xq.cons (.nil (.tail _ (.tail _ (.head _))) rfl) ?_|refine xq.cons (.omap (.tail _ (.tail _ (.head _))) rfl) ?_|refine xq.cons (.own (.tail _ (.tail _ (.tail _ (.head _)))) rfl (by first|rfl|(simp;done)|(congr 1;omega)|(simp;omega)|(simp [List.take_of_length_le];done)|(refine congrArg (FV.int .i64) ?_;omega)) (by first|rfl|(simp;done)|(congr 1;omega)|(simp;omega)|(simp [List.take_of_length_le];done)|(refine congrArg (FV.int .i64) ?_;omega))) ?_)):P:=h
theorem znG {P:Prop} (h:P:=by repeat (first|exact .nil|refine .cons (.nil (.head _) rfl) ?_|refine .cons (.own (.tail _ (.head _)) rfl (by first|rfl|(simp;done)|(congr 1;omega)|(simp;omega)|(simp [List.take_of_length_le];done)|(refine congrArg (FV.int .i64) ?_;omega)) (by first|rfl|(simp;done)|(congr 1;omega)|(simp;omega)|(simp [List.take_of_length_le];done)|(refine congrArg (FV.int .i64) ?_;omega))) ?_|refine .cons (.ptr (.tail _ (.tail _ (.head _))) rfl) ?_|refine .cons (.own (.tail _ (.tail _ (.tail _ (.head _)))) rfl (by first|rfl|(simp;done)|(congr 1;omega)|(simp;omega)|(simp [List.take_of_length_le];done)|(refine congrArg (FV.int .i64) ?_;omega)) (by first|rfl|(simp;done)|(congr 1;omega)|(simp;omega)|(simp [List.take_of_length_le];done)|(refine congrArg (FV.int .i64) ?_;omega))) ?_|refine .cons (.ptr (.tail _ (.tail _ (.tail _ (.head _)))) rfl) ?_|refine .cons (.own (.tail _ (.tail _ (.tail _ (.tail _ (.head _))))) rfl (by first|rfl|(simp;done)|(congr 1;omega)|(simp;omega)|(simp [List.take_of_length_le];done)|(refine congrArg (FV.int .i64) ?_;omega)) (by first|rfl|(simp;done)|(congr 1;omega)|(simp;omega)|(simp [List.take_of_length_le];done)|(refine congrArg (FV.int .i64) ?_;omega))) ?_)):P:=h
theorem zd {P:Prop} (h:P:=by repeat (first|exact .nil|refine .cons (.plain rfl rfl (by first|rfl|(simp;done)|(congr 1;omega)|(simp;omega)|(simp [List.take_of_length_le];done)|(refine congrArg (FV.int .i64) ?_;omega))) ?_|refine .cons (.own rfl (.head _) rfl (by first|rfl|(simp;done)|(congr 1;omega)|(simp;omega)|(simp [List.take_of_length_le];done)|(refine congrArg (FV.int .i64) ?_;omega))) ?_|refine .cons (.nil rfl (.head _) rfl) ?_|refine .cons (.ptr rfl (.head _) rfl) ?_|refine .cons (.omap rfl (.head _) rfl) ?_|refine .cons (.own rfl (.tail _ (.head _)) rfl (by first|rfl|(simp;done)|(congr 1;omega)|(simp;omega)|(simp [List.take_of_length_le];done)|(refine congrArg (FV.int .i64) ?_;omega))) ?_|refine .cons (.ptr rfl (.tail _ (.head _)) rfl) ?_|refine .cons (.ptr rfl (.tail _ (.tail _ (.head _))) rfl) ?_|refine .cons (.omap rfl (.tail _ (.tail _ (.tail _ (.tail _ (.head _))))) rfl) ?_|refine .cons (.ptr rfl (.tail _ (.tail _ (.tail _ (.tail _ (.tail _ (.head _)))))) rfl) ?_|refine .cons (.ptr rfl (.tail _ (.tail _ (.tail _ (.tail _ (.tail _ (.tail _ (.head _))))))) rfl) ?_|refine .cons (.nilList rfl) ?_|refine .cons (.wrap rfl zmk) ?_)):P:=h
theorem zf {P:Prop} (h:P:=by repeat (first|exact .nil|refine .old rfl (by decide) (by first|rfl|(simp;done)|(congr 1;omega)|(simp;omega)|(simp [List.take_of_length_le];done)|(refine congrArg (FV.int .i64) ?_;omega)) ?_|refine .oldH rfl znG ?_|refine .oldK rfl (Vc.cons zmj rfl Vc.nil) ?_|refine .new ?_)):P:=h
theorem YZ {P:Prop} (h:P:=by repeat (first|exact zu.nil|refine zu.cons (by first|exact zhb.plain rfl rfl|exact zhb.own rfl rfl (by decide) (by first|exact (fun _=>rfl)|(intro h;cases h)) (by first|rfl|(simp;done)|(congr 1;omega)|(simp;omega)|(simp [List.take_of_length_le];done)|(refine congrArg (FV.int .i64) ?_;omega))|exact zhb.nil rfl|exact zhb.sub rfl rfl (by repeat (first|exact FV.le.refl _|exact FV.le.nil _|refine FV.le.agg ?_|refine FV.le.tup ?_|exact LeL.nil|refine LeL.cons ?_ ?_|exact FV.le.undef _))|exact zhb.part rfl rfl (by decide) (by first|exact (fun _=>rfl)|(intro h;cases h))) ?_)):P:=h
theorem Xa {P:Prop} (h:P:=by first|exact yd (by omega)|rfl):P:=h
theorem XW {P:Prop} (h:P:=by first|(simp;done)|(simp;omega)):P:=h
theorem ya {P:Prop} (h:P:=by simp [Op.operands,Call.operands]):P:=h
theorem zw {P:Prop} (h:P:=by exact Nat.le_of_ble_eq_true rfl):P:=h
theorem yQ {P:Prop} (h:P:=by first|omega|(simp;omega)):P:=h
theorem zB {P:Prop} (h:P:=by repeat (first|exact .nil)):P:=h
theorem zm {P:Prop} (h:P:=by exact zhb.plain rfl rfl):P:=h
theorem XX {P:Prop} (h:P:=by simp [Value.oneCell']):P:=h
theorem zi {P:Prop} (h:P:=by simp [Op.operands]):P:=h
theorem zH {P:Prop} (h:P:=by simp [FV.hand]):P:=h
theorem zx {P:Prop} (h:P:=by simp;omega):P:=h
theorem zj {P:Prop} (h:P:=by kernel_rfl):P:=h
theorem xG {P:Prop} (h:P:=by simp;done):P:=h
theorem zg {P:Prop} (h:P:=by decide):P:=h
theorem za {P:Prop} (h:P:=by omega):P:=h
theorem zc {P:Prop} (h:P:=by simp):P:=h
def flat {α:Type} (vals:α→List Value) (l:List α):List Value:=l.flatMap vals
def znC {α:Type} (sz:Nat) (vals:α→List Value):Prop:=∀ a,(vals a).length=sz
section
variable {α:Type} {sz:Nat} {vals:α→List Value}
theorem zmz (h:znC sz vals) (l:List α):(flat vals l).length=l.length * sz:=by
 induction l with
 | nil => simp [flat]
 | cons a l ih => simp only [flat, List.flatMap_cons, List.length_append, List.length_cons] at *; rw [ih, h a, Nat.add_mul]; omega
theorem xj (l m:List α):flat vals (l++m)=flat vals l++flat vals m:=by simp [flat]
theorem Ym (a:α):flat vals [a]=vals a:=by simp [flat]
theorem zad (h:znC sz vals):∀ (l:List α) (i j:Nat) (hi:i<l.length),j<sz→(flat vals l)[i * sz+j]? = (vals l[i])[j]?
 | [], i, _, hi, _ => by simp at hi
 | a :: l, 0, j, _, hj => by
  simp only [flat,List.flatMap_cons,Nat.zero_mul,Nat.zero_add,List.getElem_cons_zero];rw [List.getElem?_append_left (by rw [h a];exact hj)]
 | a :: l, i+1, j, hi, hj => by
  have ih:=zad h l i j (by simpa using hi) hj;simp only [flat,List.flatMap_cons,List.getElem_cons_succ] at *;rw [List.getElem?_append_right (by rw [h a,Nat.add_mul];omega),h a,← ih];congr 1;rw [Nat.add_mul];omega
theorem zhC (h:znC sz vals):∀ (l:List α) (i j:Nat) (u:Value) (a' : α) (hi:i<l.length),j<sz→vals a'=(vals l[i]).set j u→(flat vals l).set (i * sz+j) u=flat vals (l.set i a')
 | [], i, _, _, _, hi, _, _ => by simp at hi
 | a :: l, 0, j, u, a', _, hj, ha => by
  simp only [flat,List.flatMap_cons,Nat.zero_mul,Nat.zero_add,List.set_cons_zero,List.getElem_cons_zero] at *;rw [List.set_append_left _ _ (by rw [h a];exact hj),ha]
 | a :: l, i+1, j, u, a', hi, hj, ha => by
  have ih:=zhC h l i j u a' (by simpa using hi) hj (by simpa using ha);simp only [flat,List.flatMap_cons,List.set_cons_succ] at *;rw [List.set_append_right _ _ (by rw [h a,Nat.add_mul];omega),h a,← ih];congr 2;rw [Nat.add_mul];omega
def Sl (vals:α→List Value) (w:World) (B:Nat) (A:Option Addr) (l:List α):Prop:=
 l≠[]→∃ b off,A=some ⟨b,off,none⟩∧b<B∧∀ j u,(flat vals l)[j]? = some u→w.cell? ⟨b,off+j,none⟩=some u
variable {w w' : World} {B B' : Nat} {A:Option Addr} {l:List α}
theorem Sl.nil_ (vals:α→List Value) (w:World) (B:Nat) (A:Option Addr):Sl vals w B A []:=fun h=>absurd rfl h
theorem Sl.keep (h:Sl vals w B A l) (hk:∀ p:Addr,p.block<B→w'.cell? p=w.cell? p):Sl vals w' B A l:=fun hl=>by
 obtain ⟨b,off,ha,hb,hc⟩:=h hl;exact ⟨b,off,ha,hb,fun j u hu=>(hk _ hb).trans (hc j u hu)⟩
theorem Sl.more (h:Sl vals w B A l) (hB:B≤B'):Sl vals w B' A l:=fun hl=>by
 obtain ⟨b,off,ha,hb,hc⟩:=h hl;exact ⟨b,off,ha,by omega,hc⟩
theorem Sl.below (h:Sl vals w B A l) (hb:Below B w w'):Sl vals w' B A l:=h.keep fun _ hp=>hb.cell hp
theorem Sl.ext (h:Sl vals w w.heap.size A l) (hb:Below w.heap.size w w'):Sl vals w' w'.heap.size A l:=(h.below hb).more hb.size
theorem Sl.get (h:Sl vals w B A l) (hs:znC sz vals) {i:Nat} (hi:i<l.length):∃ b off,A=some ⟨b,off,none⟩∧b<B∧∀ j u,j<sz→(vals l[i])[j]? = some u→w.cell? ⟨b,off+i * sz+j,none⟩=some u:=by
 obtain ⟨b,off,ha,hb,hc⟩:=h (by rintro rfl;simp at hi);refine ⟨b,off,ha,hb,fun j u hj hu=>?_⟩;rw [Nat.add_assoc];exact hc _ u (by rw [zad hs l i j hi hj];exact hu)
theorem Sl.of_own {base:Nat} {e:TypeId} {n c:Nat} (h:w.ownsRow base e sz (.slice A n c) n (flat vals l)) (hl:n=l.length):Sl vals w w.heap.size A l:=fun hne=>by
 rcases h.2 with ⟨hv,h0⟩|⟨g,cap,cur,hv,hg,hh,hn,hm,hc,ht⟩
 ·subst h0;exact absurd (List.eq_nil_of_length_eq_zero hl.symm) hne
 ·have hA:A=some ⟨g,0,none⟩:=by injection hv
  subst hA;have hlt:g<w.heap.size:=(Array.getElem?_eq_some_iff.1 hh).1;refine ⟨g,0,rfl,hlt,fun j u hu=>?_⟩;rw [Nat.zero_add,cell_of_row w g j cur e (0,0) hh];rw [← ht,List.getElem?_take] at hu;split at hu
  ·simpa using hu
  ·cases hu
theorem zmP {base:Nat} {e:TypeId} {v:Value} {n:Nat} {xs:List Value} (h:w.ownsRow base e sz v n xs):∃ A c,v=.slice A n c:=by
 rcases h.2 with ⟨hv,h0⟩|⟨g,cap,cur,hv,_⟩
 ·subst h0;exact ⟨none,0,hv⟩
 ·exact ⟨_,_,hv⟩
theorem zhU {base:Nat} {e:TypeId} {A:Option Addr} {n c:Nat} {xs:List Value} (h:w.ownsRow base e sz (.slice A n c) n xs) (hn:0<n):∃ g,A=some ⟨g,0,none⟩∧base≤g∧g<w.heap.size:=by
 rcases h.2 with ⟨hv,h0⟩|⟨g,cap,cur,hv,hb,hg,_⟩
 ·omega
 ·injection hv with hA
  exact ⟨g,hA,hb,(Array.getElem?_eq_some_iff.1 hg).1⟩
theorem XH {base:Nat} {e:TypeId} {v:Value} {n:Nat} {xs:List Value} (h:w.ownsRow base e sz v n xs) (hb:Below w.heap.size w w'):w'.ownsRow base e sz v n xs:=by
 refine ⟨h.1,?_⟩;rcases h.2 with hn|⟨g,cap,cur,rfl,hb',hgg,rest⟩
 ·exact .inl hn
 ·exact .inr ⟨g,cap,cur,rfl,hb',(hb.block g (Array.getElem?_eq_some_iff.1 hgg).1).trans hgg,rest⟩
theorem Wn {base base' : Nat} {e:TypeId} {v:Value} {n:Nat} {xs:List Value} (h:w.ownsRow base e sz v n xs) (hb:base'≤base):w.ownsRow base' e sz v n xs:=by
 refine ⟨h.1,?_⟩;rcases h.2 with hn|⟨g,cap,cur,rfl,hb',r⟩
 ·exact .inl hn
 ·exact .inr ⟨g,cap,cur,rfl,by omega,r⟩
end
theorem Yz {B:Nat} {a w:World} (h:Below B a w) (n:Nat):Below B a (w.drewN n):=⟨h.os,h.tape,h.output,h.size,h.block⟩
theorem zoz {B:Nat} {a w:World} (h:Below B a w):Below B a w.drew:=⟨h.os,h.tape,h.output,h.size,h.block⟩
theorem zpb {w w1 w2:World} (h:Below w.heap.size w w1) (k:Below w1.heap.size w1 w2):Below w.heap.size w w2:=h.trans (k.mono h.size)
theorem zoB {B:Nat} {w w' : World} {v:Value} {e:TypeId} {sz n:Nat} {xs:List Value} (h:w.ownsRow B e sz v n xs) (hB:B≤w.heap.size) (hg:w.grownBy w' v.ownBlock):Below B w w':=
 (Below.refl B w).grown hg hB fun k hk=>(h.lt k hk).1
def Blk (w:World) (g:Nat) (t:TypeId) (cs:List Value):Prop:=w.heap[g]? = some (.cells cs.toArray t (0,0))
section
variable {w w' : World} {g:Nat} {t:TypeId} {cs:List Value}
theorem Blk.lt (h:Blk w g t cs):g<w.heap.size:=by
 rcases Nat.lt_or_ge g w.heap.size with hlt|hge
 ·exact hlt
 ·unfold Blk at h;rw [Array.getElem?_eq_none hge] at h;cases h
theorem Blk.cell (h:Blk w g t cs) (i:Nat):w.cell? ⟨g,i,none⟩=cs[i]?:=by rw [cell_of_row w g i cs.toArray t (0,0) h];simp
theorem Blk.frozen (h:Blk w g t cs) (i:Nat):w.frozen? ⟨g,i,none⟩=false:=by
 unfold Blk at h;simp [World.frozen?,h]
theorem Blk.new (w:World) (t:TypeId) (cs:List Value):Blk (w.alloc (.cells cs.toArray t)) w.heap.size t cs:=heap_alloc_new w _
theorem Blk.drew (h:Blk w g t cs):Blk w.drew g t cs:=h
theorem Blk.drewN (h:Blk w g t cs) (n:Nat):Blk (w.drewN n) g t cs:=h
theorem Blk.alloc (h:Blk w g t cs) (o:Obj):Blk (w.alloc o) g t cs:=(Below.heap_alloc w o g h.lt).trans h
theorem Blk.set_ (h:Blk w g t cs) (i:Nat) (u:Value):Blk (w.setCell ⟨g,i,none⟩ u) g t (cs.set i u):=by
 unfold Blk at h ⊢;simp [World.setCell,Array.getElem?_modify,h]
theorem Blk.far (h:Blk w g t cs) {p:Addr} (hp:g≠p.block) (u:Value):Blk (w.setCell p u) g t cs:=(Below.heap_setCell w p u g hp).trans h
theorem Blk.below {B:Nat} (h:Blk w g t cs) (hb:Below B w w') (hg:g<B):Blk w' g t cs:=(hb.block g hg).trans h
theorem Blk.grown {row:Option Nat} (h:Blk w g t cs) (hb:w.grownBy w' row) (hg:some g≠row):Blk w' g t cs:=(hb.block g h.lt hg).trans h
end
def nth {α:Type} [Inhabited α] (l:List α) (i:Nat):α:=l.getD i default
theorem nth_eq {α:Type} [Inhabited α] {l:List α} {i:Nat} (h:i<l.length):nth l i=l[i]:=by simp [nth,h]
theorem yE {α:Type} [Inhabited α] {l m:List α} {i:Nat} (h:i<l.length):nth (l++m) i=nth l i:=by
 rw [nth_eq h,nth_eq zx,List.getElem_append_left h]
theorem zC {α:Type} [Inhabited α] {l:List α} {i:Nat} (h:i<l.length):nth l i∈l:=by rw [nth_eq h];exact List.getElem_mem h
theorem yX {α:Type} [Inhabited α] {l:List α} {a:α}:nth (l++[a]) l.length=a:=by rw [nth_eq zc];simp
theorem zM {α:Type} [Inhabited α] {l:List α} {i:Nat} {a:α} (h:i<l.length):nth (l.set i a) i=a:=by rw [nth_eq (by simpa using h),List.getElem_set_self]
theorem zZ {α:Type} [Inhabited α] {l:List α} {i j:Nat} {a:α} (h:i≠j):nth (l.set i a) j=nth l j:=by
 simp only [nth,List.getD_eq_getElem?_getD,List.getElem?_set_ne h]
def Ue {σ:Type} (f:Nat→σ→σ) (s:σ):Nat→σ
 | 0 => s
 | k+1 => f k (Ue f s k)
def I64 (x:Int):Prop:=-9223372036854775808≤x∧x≤9223372036854775807
theorem Vb (x:Int) (h:I64 x):IntKind.i64.wrap x=x:=by
 unfold I64 at h;rw [IntKind.wrap_i64];omega
theorem zjZ (x:Int) (h1:-1000000000000≤x) (h2:x≤1000000000000):IntKind.i64.wrap x=x:=Vb x ⟨by omega,by omega⟩
structure zhc (P:Program) (T E sz by_:Nat):Prop where
 u:P.underlying T=some (.slice E)
 i:∃ i z,P.info? E=some i∧i.zero=some z∧i.size=sz∧i.bytes=by_∧z.cells.size=sz
 pos:0<sz
theorem xp {P:Program} {T E sz by_:Nat} (hT:zhc P T E sz by_) {W:World} {ops:Array Oper} {rest:List Oper} {o:Oper} {a:Act} {Q:Exit→Act→World→Prop}
  {base:Nat} {v:Value} {n:Nat} {xs:List Value} (hown:W.ownsRow base E sz v n xs) {cs:List Value} {E' : TypeId}
  (hgd:o.guard=none) (s x:Operand) (ho:o.op=.call { callee:=.builtin .append,args:=#[s,x],argTypes:=#[T,T] })
  (hs:a.eval s=v) (hx:a.eval x=.slice (some ⟨W.heap.size,0,none⟩) 1 1) (hl:cs.length=sz) (h1:∀ u∈cs,u.oneCell'=true)
  (hn:n≤1000000000) (hby:by_≤100000) (hbase:base≤W.heap.size)
  (h:∀ A' c' w',w'.ownsRow base E sz (.slice A' (n+1) c') (n+1) (xs++cs)→Below base W w'→W.grownBy w' v.ownBlock→((Value.slice A' (n+1) c').ownBlock=v.ownBlock∨(∃ g,(Value.slice A' (n+1) c').ownBlock=some g∧W.heap.size≤g))→
   wpList P ops Q rest (a.put o.dst (.slice A' (n+1) c')) w') :
  wpList P ops Q (o::rest) a (W.alloc (.cells cs.toArray E')):=by
 obtain ⟨i,z,hi,hz,hsz,hbz,hzs⟩:=hT.i;have hown1:=hown.alloc (.cells cs.toArray E');refine wpList_append_own_at _ hgd s x T ho base E i z sz by_ hT.u hi hz hsz hbz hzs hT.pos v n xs hs hown1 ⟨W.heap.size,0,none⟩ 1 1 cs hx za ?_ h1 ?_ ?_ ?_ ?_
 ·intro j u hu;have e:(⟨W.heap.size,0,none⟩:Addr).add j=⟨W.heap.size,j,none⟩:=by unfold Addr.add;split <;> simp_all
  rw [e,cell_of_row _ _ j cs.toArray E' (0,0) (heap_alloc_new W _)];simpa using hu
 ·unfold maxLen;omega
 ·have:(n+1) * by_≤1000000001 * 100000:=Nat.mul_le_mul za hby;omega
 ·simp;omega
 ·intro v' w' ho' hg _ hloc;obtain ⟨A',c',rfl⟩:=zmP ho';have hall:=(World.grownBy_alloc W (.cells cs.toArray E') v.ownBlock).trans hg;refine h A' c' w' ho' (zoB hown hbase hall) hall (hloc.imp id fun hh=>⟨_,hh,by simp⟩)
theorem YI {w:World} {g:Nat} {t:TypeId} {cs:List Value} {base:Nat} {e:TypeId} {size n:Nat} {v:Value} {xs:List Value} (h:w.ownsRow base e size v n xs) (hg:Blk w g t cs) (hne:e≠t):some g≠v.ownBlock:=by
 rcases h.2 with ⟨rfl,_⟩|⟨g',cap,cur,rfl,_,hh,_⟩
 ·simp [Value.ownBlock]
 ·intro he;have:g=g':=by simpa [Value.ownBlock] using he
  subst this;unfold Blk at hg;rw [hg] at hh;injection hh with hh
  injection hh with _ ht
  exact hne ht.symm
theorem xJ {w:World} {base base' : Nat} {e e' : TypeId} {sz sz' n n' : Nat} {v v' : Value} {xs xs' : List Value} (h:w.ownsRow base e sz v n xs) (h' : w.ownsRow base' e' sz' v' n' xs') (hne:e≠e'):v.ownBlock=none∨v.ownBlock≠v'.ownBlock:=by
 rcases h.2 with ⟨rfl,_⟩|⟨g,cap,cur,rfl,_,hh,_⟩
 ·exact .inl rfl
 ·rcases h'.2 with ⟨rfl,_⟩|⟨g',cap',cur',rfl,_,hh',_⟩
  ·right;simp [Value.ownBlock]
  ·right;intro he;have:g=g':=by simpa [Value.ownBlock] using he
   subst this;rw [hh] at hh';injection hh' with hh'
   injection hh' with _ ht
   exact hne ht
theorem Blk.int {w:World} {g:Nat} {t:TypeId} {l:List Int} (h:Blk w g t (flat (fun x=>[Value.int .i64 x]) l)) {i:Nat} (hi:i<l.length):w.cell? ⟨g,i,none⟩=some (.int .i64 (nth l i)):=by
 rw [h.cell i];have:=zad (sz:=1) (vals:=fun x=>[Value.int .i64 x]) (fun _=>rfl) l i 0 hi za;rw [nth_eq hi];simpa using this
inductive Wk where
 | fn (f:Nat)|bound (f:Nat)|agg|tup|ifc (t:Nat)
 deriving Inhabited,DecidableEq
inductive FV where
 | undef
 | int (k:IntKind) (n:Int)
 | bool (b:Bool)
 | str (s:ByteArray)
 | nil
 | nilm
 | list (sz:Nat) (es:List (List FV))
 | eptr (sz:Nat) (es:List (List FV)) (i off:Nat)
 | agg (cs:List FV)
 | tup (vs:List FV)
 | own (id ver o n:Nat)
 | ptr (id ver i off:Nat)
 | omap (id ver:Nat)
 | smap (es:List (List FV))
 | fn (f:Nat) (caps:List FV)
 | iface (t:Nat) (f:FV)
 | wrap (k:Wk) (fs:List FV)
 | perm (sz:Nat) (es:List (List FV))
 | bnd (f:Nat) (caps:List FV)
 deriving Inhabited
def Wk.mk:Wk→List Value→Value
 | .fn f, us => .func (.func f) #[] us.toArray
 | .bound f, us => .func (.func f) us.toArray #[]
 | .agg, us => .agg us.toArray
 | .tup, us => .tuple us.toArray
 | .ifc t, us => .iface t (us.headD .nilFunc)
def FV.one:FV→Bool
 | .int _ _|.bool _|.str _|.nil|.nilm|.list _ _|.smap _|.fn _ _|.iface _ _|.bnd _ _|.eptr _ _ _ _ => true
 | _ => false
def FV.val1:FV→Value
 | .int k n => .int k n
 | .bool b => .bool b
 | .str s => .string s
 | _ => .nilFunc
def FV.val:FV→Value
 | .agg cs => .agg (cs.map FV.val1).toArray
 | f => f.val1
def FV.simple1:FV→Bool
 | .int _ _|.bool _|.str _ => true
 | _ => false
def FV.simple:FV→Bool
 | .agg cs => cs.all FV.simple1
 | f => f.simple1
inductive Rd (w:World) (I:Nat→Prop):Value→FV→Prop where
 | undef (v:Value):Rd w I v .undef
 | int (k:IntKind) (n:Int):Rd w I (.int k n) (.int k n)
 | bool (b:Bool):Rd w I (.bool b) (.bool b)
 | str (s:ByteArray):Rd w I (.string s) (.str s)
 | nil:Rd w I (.slice none 0 0) .nil
 | nilm:Rd w I (.map none) .nilm
 | list (A:Option Addr) (n c sz:Nat) (es:List (List FV)) (us:List Value) (hn:es.length=n) (hc:n≤c) (he:∀ e∈es,e.length=sz) (ho:∀ f∈es.flatten,f.one=true)
   (hA:n≠0→∃ b off,A=some ⟨b,off,none⟩∧I b∧∀ (j:Nat) u,us[j]? = some u→w.cell? ⟨b,off+j,none⟩=some u)
   (hl:us.length=es.flatten.length) (hr:∀ (j:Nat) u f,us[j]? = some u→es.flatten[j]? = some f→Rd w I u f):Rd w I (.slice A n c) (.list sz es)
 | eptr (b off sz:Nat) (es:List (List FV)) (i o:Nat) (us:List Value) (hI:I b) (he:∀ e∈es,e.length=sz) (ho:∀ f∈es.flatten,f.one=true)
   (hA:∀ (j:Nat) u,us[j]? = some u→w.cell? ⟨b,off+j,none⟩=some u)
   (hl:us.length=es.flatten.length) (hr:∀ (j:Nat) u f,us[j]? = some u→es.flatten[j]? = some f→Rd w I u f):Rd w I (.pointer (some ⟨b,off+(i * sz+o),none⟩)) (.eptr sz es i o)
 | smap (b clock:Nat) (ents:Array MapEntry) (es:List (List FV)) (hI:I b) (hb:w.heap[b]? = some (.map ents clock)) (hst:MapKept.Stamped ents clock) (hl:ents.size=es.length)
   (hk:∀ (j:Nat) e row,ents[j]? = some e→es[j]? = some row→∃ kf vf,row=[kf,vf]∧kf.simple=true∧e.key=kf.val)
   (hr:∀ (j:Nat) e row f,ents[j]? = some e→es[j]? = some row→row[1]? = some f→Rd w I e.val f):Rd w I (.map (some b)) (.smap es)
 | fn (f:Nat) (us:List Value) (fs:List FV) (hl:us.length=fs.length) (hr:∀ (j:Nat) u g, us[j]? = some u → fs[j]? = some g → Rd w I u g):Rd w I (.func (.func f) #[] us.toArray) (.fn f fs)
 | iface (t:Nat) (v:Value) (f:FV) (hr:Rd w I v f):Rd w I (.iface t v) (.iface t f)
 | agg (us:List Value) (fs:List FV) (hl:us.length=fs.length) (hr:∀ (j:Nat) u f, us[j]? = some u → fs[j]? = some f → Rd w I u f):Rd w I (.agg us.toArray) (.agg fs)
 | tup (us:List Value) (fs:List FV) (hl:us.length=fs.length) (hr:∀ (j:Nat) u f, us[j]? = some u → fs[j]? = some f → Rd w I u f):Rd w I (.tuple us.toArray) (.tup fs)
 | bnd (f:Nat) (us:List Value) (fs:List FV) (hl:us.length=fs.length) (hr:∀ (j:Nat) u g, us[j]? = some u → fs[j]? = some g → Rd w I u g):Rd w I (.func (.func f) us.toArray #[]) (.bnd f fs)
 | perm (v:Value) (sz:Nat) (es es' : List (List FV)) (hp:es'.Perm es) (hr:Rd w I v (.list sz es')):Rd w I v (.perm sz es)
def RdL (w:World) (I:Nat→Prop) (us:List Value) (fs:List FV):Prop:=us.length=fs.length∧∀ (j:Nat) u f,us[j]? = some u→fs[j]? = some f→Rd w I u f
theorem Rd.mono {w w' : World} {I I' : Nat→Prop} (hI:∀ b,I b→I' b∧w'.heap[b]? = w.heap[b]?) {v:Value} {f:FV} (h:Rd w I v f):Rd w' I' v f:=by
 induction h with
 | undef v => exact .undef v
 | int k n => exact .int k n
 | bool b => exact .bool b
 | str s => exact .str s
 | nil => exact .nil
 | nilm => exact .nilm
 | list A n c sz es us hn hc he ho hA hl hr ih =>
  refine .list A n c sz es us hn hc he ho (fun h0=>?_) hl ih;obtain ⟨b,off,ha,hb,hcell⟩:=hA h0;exact ⟨b,off,ha,(hI b hb).1,fun j u hu=>(World.cell?_of_block (w:=w) (w':=w') (a:=⟨b,off+j,none⟩) (hI b hb).2).trans (hcell j u hu)⟩
 | eptr b off sz es i o us hb he ho hA hl hr ih =>
  exact .eptr b off sz es i o us (hI b hb).1 he ho (fun j u hu=>(World.cell?_of_block (w:=w) (w':=w') (a:=⟨b,off+j,none⟩) (hI b hb).2).trans (hA j u hu)) hl ih
 | smap b clock ents es hb hbl hst hl hk hr ih => exact .smap b clock ents es (hI b hb).1 ((hI b hb).2.trans hbl) hst hl hk ih
 | agg us fs hl hr ih => exact .agg us fs hl ih
 | iface t v f hr ih => exact .iface t v f ih
 | fn f us fs hl hr ih => exact .fn f us fs hl ih
 | tup us fs hl hr ih => exact .tup us fs hl ih
 | bnd f us fs hl hr ih => exact .bnd f us fs hl ih
 | perm v sz es es' hp hr ih => exact .perm v sz es es' hp ih
theorem RdL.mono {w w' : World} {I I' : Nat→Prop} (hI:∀ b,I b→I' b∧w'.heap[b]? = w.heap[b]?) {us:List Value} {fs:List FV} (h:RdL w I us fs):RdL w' I' us fs:=
 ⟨h.1,fun j u f hu hf=>(h.2 j u f hu hf).mono hI⟩
theorem RdL.nil {w:World} {I:Nat→Prop}:RdL w I [] []:=⟨rfl,fun j u f hu=>by simp at hu⟩
theorem RdL.append {w:World} {I:Nat→Prop} {us vs:List Value} {fs gs:List FV} (h:RdL w I us fs) (k:RdL w I vs gs):RdL w I (us++vs) (fs++gs):=by
 refine ⟨by simp [h.1,k.1],fun j u f hu hf=>?_⟩;rcases Nat.lt_or_ge j us.length with hj|hj
 ·rw [List.getElem?_append_left hj] at hu;rw [List.getElem?_append_left (by rw [← h.1];exact hj)] at hf;exact h.2 j u f hu hf
 ·rw [List.getElem?_append_right hj] at hu;rw [List.getElem?_append_right (by rw [← h.1];exact hj),← h.1] at hf;exact k.2 _ u f hu hf
theorem RdL.cons {w:World} {I:Nat→Prop} {u:Value} {us:List Value} {f:FV} {fs:List FV} (h:Rd w I u f) (k:RdL w I us fs):RdL w I (u::us) (f::fs):=by
 refine ⟨by simp [k.1],fun j u' f' hu hf=>?_⟩;cases j with
 | zero => simp at hu hf; subst hu; subst hf; exact h
 | succ j => simp at hu hf; exact k.2 j u' f' hu hf
theorem RdL.take {w:World} {I:Nat→Prop} {us:List Value} {fs:List FV} (h:RdL w I us fs) (n:Nat):RdL w I (us.take n) (fs.take n):=by
 refine ⟨by simp [h.1],fun j u f hu hf=>?_⟩;rw [List.getElem?_take] at hu hf;split at hu
 ·rename_i hj;rw [if_pos hj] at hf;exact h.2 j u f hu hf
 ·cases hu
theorem RdL.drop {w:World} {I:Nat→Prop} {us:List Value} {fs:List FV} (h:RdL w I us fs) (n:Nat):RdL w I (us.drop n) (fs.drop n):=by
 refine ⟨by simp [h.1],fun j u f hu hf=>?_⟩;rw [List.getElem?_drop] at hu hf;exact h.2 _ u f hu hf
inductive yf where
 | dead|own|shut|mapo|maps|hrow|roomy|full|hmap
 deriving DecidableEq,Inhabited
def yf.row:yf→Bool
 | .own|.shut|.roomy|.full => true
 | _ => false
def yf.slic:yf→Bool
 | .own|.shut|.roomy|.full|.hrow => true
 | _ => false
def yf.mine:yf→Bool
 | .own|.mapo|.roomy|.full|.hrow|.hmap => true
 | _ => false
theorem yf.row_ne {l:yf} (h:l.row=true):l≠.dead:=by rintro rfl;cases h
theorem yf.row_slic {l:yf} (h:l.row=true):l.slic=true:=by cases l <;> first|rfl|cases h
theorem yf.mine_ne {l:yf} (h:l.mine=true):l≠.dead:=by rintro rfl;cases h
structure zq where
 ver:Nat:=0
 life:yf:=.dead
 E:TypeId:=0
 sz:Nat:=0
 es:List (List FV):=[]
 deriving Inhabited
def look {α:Type} (d:α):List (Nat×α)→Nat→α
 | [], _ => d
 | (i, a) :: l, k => bif Nat.beq i k then a else look d l k
theorem zI {α:Type} (d:α) (i:Nat) (a:α) (l:List (Nat×α)) (k:Nat):look d ((i,a)::l) k=if i=k then a else look d l k:=by
 show (bif Nat.beq i k then a else look d l k)=_;by_cases h:i=k
 ·subst h;simp
 ·have hb:Nat.beq i k=false:=by
   cases hb:Nat.beq i k with
   | true => exact absurd (Nat.eq_of_beq_eq_true hb) h
   | false => rfl
  rw [hb,if_neg h];rfl
structure FSt where
 t:List (Nat×FV)
 o:List (Nat×zq)
def FSt.get (s:FSt) (d:Nat):FV:=look .undef s.t d
def FSt.ob (s:FSt) (id:Nat):zq:=look {} s.o id
def FSt.put (s:FSt) (d:Nat) (v:FV):FSt:=⟨(d,v)::s.t,s.o⟩
def FSt.set (s:FSt) (id:Nat) (b:zq):FSt:=⟨s.t,(id,b)::s.o⟩
theorem FSt.get_put (s:FSt) (d:Nat) (v:FV) (k:Nat):(s.put d v).get k=if d=k then v else s.get k:=zI _ _ _ _ _
theorem FSt.ob_set (s:FSt) (d:Nat) (b:zq) (k:Nat):(s.set d b).ob k=if d=k then b else s.ob k:=zI _ _ _ _ _
structure Wv (w:World) (βid:Option Nat) (ob:zq) (v:Value) (o n:Nat):Prop where
 row:ob.life.slic=true
 ex:∃ A c,v=.slice A n c∧n≤c∧o+n≤ob.es.length∧(βid=none→A=none∧c=0)∧
  ∀ b,βid=some b→∃ o',A=some ⟨b,o',none⟩∧(c≠0∨o=0→o'=o * ob.sz)∧∀ cur,w.heap[b]? = some (.cells cur ob.E (0,0))→cur.size=(o+c) * ob.sz
def VR1 (w:World) (I:Nat→Prop) (β:Nat→Option Nat) (s:FSt) (v:Value):FV→Prop
 | .own id ver o n => (s.ob id).life ≠ .dead → (s.ob id).ver=ver → Wv w (β id) (s.ob id) v o n
 | .ptr id ver i off => (s.ob id).life ≠ .dead → (s.ob id).ver=ver → (s.ob id).life.slic=true ∧ ∃ b, β id=some b ∧ v=.pointer (some ⟨b, i * (s.ob id).sz+off, none⟩)
 | .omap id ver => (s.ob id).life ≠ .dead → (s.ob id).ver=ver → (s.ob id).life.slic=false ∧ ∃ b, β id=some b ∧ v=.map (some b)
 | f => Rd w I v f
def VR (w:World) (I:Nat→Prop) (β:Nat→Option Nat) (s:FSt) (v:Value):FV→Prop
 | .own id ver o n => (s.ob id).life ≠ .dead → (s.ob id).ver=ver → Wv w (β id) (s.ob id) v o n
 | .ptr id ver i off => (s.ob id).life ≠ .dead → (s.ob id).ver=ver → (s.ob id).life.slic=true ∧ ∃ b, β id=some b ∧ v=.pointer (some ⟨b, i * (s.ob id).sz+off, none⟩)
 | .omap id ver => (s.ob id).life ≠ .dead → (s.ob id).ver=ver → (s.ob id).life.slic=false ∧ ∃ b, β id=some b ∧ v=.map (some b)
 | .wrap k fs => ∃ us:List Value, v=k.mk us ∧ us.length=fs.length ∧ ∀ (j:Nat) u f, us[j]? = some u → fs[j]? = some f → VR1 w I β s u f
 | f => Rd w I v f
def FV.hand:FV→Option (Nat×Nat)
 | .own id ver _ _ => some (id, ver)
 | .ptr id ver _ _ => some (id, ver)
 | .omap id ver => some (id, ver)
 | .wrap _ _ => some (0, 0)
 | _ => none
def FV.hands:FV→List (Nat×Nat)
 | .own id ver _ _ => [(id, ver)]
 | .ptr id ver _ _ => [(id, ver)]
 | .omap id ver => [(id, ver)]
 | .wrap _ fs => fs.filterMap FV.hand
 | _ => []
theorem FV.hands_none {f:FV} (h:f.hand=none):f.hands=[]:=by cases f <;> first|rfl|(simp [FV.hand] at h)
theorem FV.no_hands {f:FV} (h:f.hand=none) {p:Nat×Nat} (hp:p∈f.hands):False:=by rw [FV.hands_none h] at hp;cases hp
structure znB (w:World) (base:Nat) (I:Nat→Prop) (βid:Option Nat) (ob:zq):Prop where
 wide:∀ e∈ob.es,e.length=ob.sz
 one:∀ f∈ob.es.flatten,f.one=true
 row:∃ v us,w.ownsRow base ob.E ob.sz v ob.es.length us∧v.ownBlock=βid∧RdL w I us ob.es.flatten
structure zom (w:World) (base:Nat) (I:Nat→Prop) (βid:Option Nat) (ob:zq):Prop where
 ex:∃ b clock ents,βid=some b∧base≤b∧w.heap[b]? = some (.map ents clock)∧MapKept.Stamped ents clock∧ents.size=ob.es.length∧
  (∀ (j:Nat) e row,ents[j]? = some e→ob.es[j]? = some row→∃ kf vf,row=[kf,vf]∧kf.simple=true∧e.key=kf.val)∧
  ∀ (j:Nat) e row f,ents[j]? = some e→ob.es[j]? = some row→row[1]? = some f→Rd w I e.val f
structure zon (w:World) (base:Nat) (I:Nat→Prop) (β:Nat→Option Nat) (s:FSt) (βid:Option Nat) (ob:zq):Prop where
 wide:∀ e∈ob.es,e.length=ob.sz
 vers:∀ f∈ob.es.flatten,∀ id ver,(id,ver)∈f.hands→ver≤(s.ob id).ver
 row:∃ v us,w.ownsRow base ob.E ob.sz v ob.es.length us∧v.ownBlock=βid∧us.length=ob.es.flatten.length∧∀ (j:Nat) u f,us[j]? = some u→ob.es.flatten[j]? = some f→VR w I β s u f
structure zol (w:World) (base:Nat) (I:Nat→Prop) (β:Nat→Option Nat) (s:FSt) (βid:Option Nat) (ob:zq):Prop where
 vers:∀ f∈ob.es.flatten,∀ id ver,(id,ver)∈f.hands→ver≤(s.ob id).ver
 ex:∃ b clock ents,βid=some b∧base≤b∧w.heap[b]? = some (.map ents clock)∧MapKept.Stamped ents clock∧ents.size=ob.es.length∧
  (∀ (j:Nat) e row,ents[j]? = some e→ob.es[j]? = some row→∃ kf vf,row=[kf,vf]∧kf.simple=true∧e.key=kf.val)∧
  ∀ (j:Nat) e row f,ents[j]? = some e→ob.es[j]? = some row→row[1]? = some f→VR w I β s e.val f
def Ww (w:World) (βid:Option Nat) (ob:zq):Prop:=
 match ob.life with
 | .roomy => ∃ b cur, βid=some b ∧ w.heap[b]? = some (.cells cur ob.E (0, 0)) ∧ (ob.es.length+1) * ob.sz ≤ cur.size
 | .full => ∀ b cur, βid=some b → w.heap[b]? = some (.cells cur ob.E (0, 0)) → cur.size=ob.es.length * ob.sz
 | _ => True
def ObR (w:World) (base:Nat) (I:Nat→Prop) (β:Nat→Option Nat) (s:FSt) (βid:Option Nat) (ob:zq):Prop:=
 if ob.life.row=true then znB w base I βid ob∧Ww w βid ob else if ob.life.slic=true then zon w base I β s βid ob else if ob.life=.hmap then zol w base I β s βid ob else zom w base I βid ob
section
variable {w:World} {base:Nat} {I:Nat→Prop} {β:Nat→Option Nat} {s:FSt} {βid:Option Nat} {ob:zq}
theorem ObR.rowR (h:ObR w base I β s βid ob) (hr:ob.life.row=true):znB w base I βid ob:=by unfold ObR at h;rw [if_pos hr] at h;exact h.1
theorem ObR.roomR (h:ObR w base I β s βid ob) (hr:ob.life.row=true):Ww w βid ob:=by unfold ObR at h;rw [if_pos hr] at h;exact h.2
theorem ObR.rowH (h:ObR w base I β s βid ob) (hr:ob.life.row=false) (hs:ob.life.slic=true):zon w base I β s βid ob:=by unfold ObR at h;rwa [if_neg (by rw [hr];decide),if_pos hs] at h
theorem ObR.mapR (h:ObR w base I β s βid ob) (hr:ob.life.slic=false) (hm:ob.life≠.hmap):zom w base I βid ob:=by
 unfold ObR at h;rwa [if_neg (fun e=>by rw [yf.row_slic e] at hr;cases hr),if_neg (by rw [hr];decide),if_neg hm] at h
theorem ObR.mapH (h:ObR w base I β s βid ob) (hm:ob.life=.hmap):zol w base I β s βid ob:=by
 unfold ObR at h;rwa [if_neg (by rw [hm];decide),if_neg (by rw [hm];decide),if_pos hm] at h
theorem ObR.mapB (h:ObR w base I β s βid ob) (hr:ob.life.slic=false):∃ b clock ents,βid=some b∧base≤b∧w.heap[b]? = some (.map ents clock):=by
 by_cases hm:ob.life=.hmap
 ·obtain ⟨b,clock,ents,h1,h2,h3,_⟩:=(h.mapH hm).ex;exact ⟨b,clock,ents,h1,h2,h3⟩
 ·obtain ⟨b,clock,ents,h1,h2,h3,_⟩:=(h.mapR hr hm).ex;exact ⟨b,clock,ents,h1,h2,h3⟩
theorem ObR.ofRow (h:znB w base I βid ob) (hm:Ww w βid ob) (hr:ob.life.row=true):ObR w base I β s βid ob:=by unfold ObR;rw [if_pos hr];exact ⟨h,hm⟩
theorem ObR.ofH (h:zon w base I β s βid ob) (hr:ob.life=.hrow):ObR w base I β s βid ob:=by unfold ObR;rw [if_neg (by rw [hr];decide),if_pos (by rw [hr];rfl)];exact h
theorem ObR.ofMap (h:zom w base I βid ob) (hr:ob.life.slic=false) (hm:ob.life≠.hmap):ObR w base I β s βid ob:=by
 unfold ObR;rwa [if_neg (fun e=>by rw [yf.row_slic e] at hr;cases hr),if_neg (by rw [hr];decide),if_neg hm]
theorem ObR.ofMH (h:zol w base I β s βid ob) (hm:ob.life=.hmap):ObR w base I β s βid ob:=by
 unfold ObR;rwa [if_neg (by rw [hm];decide),if_neg (by rw [hm];decide),if_pos hm]
theorem Ww.own (hl:ob.life=.own):Ww w βid ob:=by unfold Ww;rw [hl];trivial
theorem Ww.shut (hl:ob.life=.shut):Ww w βid ob:=by unfold Ww;rw [hl];trivial
end
structure JJ where
 ok:Nat→Prop
 K:Nat→Prop:=fun _=>False
 h0:Nat→Option Obj:=fun _=>none
 gh:Value→FV→Prop:=fun _ _=>False
 ds:List Deferred:=[]
instance:CoeFun JJ fun _=>Nat→Prop:=⟨JJ.ok⟩
def zh:Nat:=5000
def Imm (J:JJ) (w:World) (β:Nat→Option Nat) (s:FSt) (b:Nat):Prop:=b<w.heap.size∧J b∧∀ id,(s.ob id).life.mine=true→β id≠some b
structure FR (N:Nat) (w0:World) (J:JJ) (s:FSt) (a:Act) (w:World) (β:Nat→Option Nat):Prop where
 size:a.tmps.size=N
 defers:a.defers=J.ds
 bel:Below w0.heap.size w0 w
 fresh0:∀ b,w0.heap.size≤b→J b∨J.K b
 slot:∀ d,VR w (Imm J w β s) β s (a.tmps.getD d undef) (s.get d)
 vers:∀ d id ver,(id,ver)∈(s.get d).hands→ver≤(s.ob id).ver
 obj:∀ id,(s.ob id).life≠.dead→ObR w w0.heap.size (Imm J w β s) β s (β id) (s.ob id)
 inj:∀ id id' b,(s.ob id).life≠.dead→(s.ob id').life≠.dead→β id=some b→β id'=some b→id=id'
 kept:∀ b,J.K b→b<w.heap.size∧(∀ id,(s.ob id).life≠.dead→β id≠some b)∧w.heap[b]? = J.h0 b
 gh:∀ v f,J.gh v f→VR w (Imm J w β s) β s v f∧∀ id ver,(id,ver)∈f.hands→zh≤id∧ver≤(s.ob id).ver
theorem FR.fresh {N:Nat} {w0 w:World} {J:JJ} {s:FSt} {a:Act} {β:Nat→Option Nat} (h:FR N w0 J s a w β) (b:Nat) (hb:w0.heap.size≤b) (hx:w.heap.size≤b∨∃ id,(s.ob id).life≠.dead∧β id=some b):J b:=by
 rcases h.fresh0 b hb with h1|h1
 ·exact h1
 ·obtain ⟨k1,k2,_⟩:=h.kept b h1;rcases hx with hx|⟨id,hl,e⟩
  ·omega
  ·exact absurd e (k2 id hl)
theorem Wv.mono {w w' : World} {βid:Option Nat} {ob:zq} {v:Value} {o n:Nat} (h:Wv w βid ob v o n) (hb:∀ b,βid=some b→w'.heap[b]? = w.heap[b]?):Wv w' βid ob v o n:=by
 obtain ⟨A,c,h1,h2,h3,h4,h5⟩:=h.ex;refine ⟨h.row,A,c,h1,h2,h3,h4,fun b hbb=>?_⟩;obtain ⟨o',k1,k2,k3⟩:=h5 b hbb;exact ⟨o',k1,k2,fun cur hc=>k3 cur (by rw [← hb b hbb];exact hc)⟩
theorem zfx {w w' : World} {base:Nat} {e:TypeId} {sz n:Nat} {v:Value} {xs:List Value} (h:w.ownsRow base e sz v n xs) (hb:∀ b,v.ownBlock=some b→w'.heap[b]? = w.heap[b]?):w'.ownsRow base e sz v n xs:=by
 refine ⟨h.1,?_⟩;rcases h.2 with hn|⟨g,cap,cur,rfl,hb',hgg,rest⟩
 ·exact .inl hn
 ·exact .inr ⟨g,cap,cur,rfl,hb',(hb g rfl).trans hgg,rest⟩
theorem znB.mono {w w' : World} {base:Nat} {I I' : Nat→Prop} {βid:Option Nat} {ob:zq} (h:znB w base I βid ob) (hI:∀ b,I b→I' b∧w'.heap[b]? = w.heap[b]?) (hb:∀ b,βid=some b→w'.heap[b]? = w.heap[b]?) :
  znB w' base I' βid ob:=by
 obtain ⟨v,us,h1,h2,h3⟩:=h.row;exact ⟨h.wide,h.one,v,us,zfx h1 (fun b hv=>hb b (h2▸hv)),h2,h3.mono hI⟩
theorem zom.mono {w w' : World} {base:Nat} {I I' : Nat→Prop} {βid:Option Nat} {ob:zq} (h:zom w base I βid ob) (hI:∀ b,I b→I' b∧w'.heap[b]? = w.heap[b]?) (hb:∀ b,βid=some b→w'.heap[b]? = w.heap[b]?) :
  zom w' base I' βid ob:=by
 obtain ⟨b,clock,ents,h1,h2,h3,h4,h5,h6,h7⟩:=h.ex;exact ⟨b,clock,ents,h1,h2,(hb b h1).trans h3,h4,h5,h6,fun j e row f a b c=>(h7 j e row f a b c).mono hI⟩
theorem Ww.mono {w w' : World} {βid:Option Nat} {ob:zq} (h:Ww w βid ob) (hb:∀ b,βid=some b→w'.heap[b]? = w.heap[b]?):Ww w' βid ob:=by
 unfold Ww at h ⊢;cases hl:ob.life with
 | roomy =>
  rw [hl] at h;obtain ⟨b,cur,h1,h2,h3⟩:=h;exact ⟨b,cur,h1,(hb b h1).trans h2,h3⟩
 | full =>
  rw [hl] at h;exact fun b cur h1 h2=>h b cur h1 ((hb b h1).symm.trans h2)
 | _ => trivial
theorem zon.mono {w w' : World} {base:Nat} {I I' : Nat→Prop} {β β' : Nat→Option Nat} {s s' : FSt} {βid:Option Nat} {ob:zq} (h:zon w base I β s βid ob) (hb:∀ b,βid=some b→w'.heap[b]? = w.heap[b]?)
  (T:∀ v f,VR w I β s v f→(∀ id ver,(id,ver)∈f.hands→ver≤(s.ob id).ver)→VR w' I' β' s' v f) (hv:∀ id,(s.ob id).ver≤(s'.ob id).ver):zon w' base I' β' s' βid ob:=by
 obtain ⟨v,us,h1,h2,h3,h4⟩:=h.row;exact ⟨h.wide,fun f hf id ver e=>Nat.le_trans (h.vers f hf id ver e) (hv id),v,us,zfx h1 (fun b hv=>hb b (h2▸hv)),h2,h3,fun j u f hu hf=>T u f (h4 j u f hu hf) (h.vers f (List.mem_of_getElem? hf))⟩
theorem zol.mono {w w' : World} {base:Nat} {I I' : Nat→Prop} {β β' : Nat→Option Nat} {s s' : FSt} {βid:Option Nat} {ob:zq} (h:zol w base I β s βid ob) (hb:∀ b,βid=some b→w'.heap[b]? = w.heap[b]?)
  (T:∀ v f,VR w I β s v f→(∀ id ver,(id,ver)∈f.hands→ver≤(s.ob id).ver)→VR w' I' β' s' v f) (hv:∀ id,(s.ob id).ver≤(s'.ob id).ver):zol w' base I' β' s' βid ob:=by
 obtain ⟨b,clock,ents,h1,h2,h3,h4,h5,h6,h7⟩:=h.ex;exact ⟨fun f hf id ver e=>Nat.le_trans (h.vers f hf id ver e) (hv id),b,clock,ents,h1,h2,by rw [hb b h1];exact h3,h4,h5,h6,fun j e row f he hr hf=>T _ f (h7 j e row f he hr hf) (h.vers f (List.mem_flatten.2 ⟨row,List.mem_of_getElem? hr,List.mem_of_getElem? hf⟩))⟩
theorem ObR.mono {w w' : World} {base:Nat} {I I' : Nat→Prop} {β β' : Nat→Option Nat} {s s' : FSt} {βid:Option Nat} {ob:zq} (h:ObR w base I β s βid ob) (hI:∀ b,I b→I' b∧w'.heap[b]? = w.heap[b]?) (hb:∀ b,βid=some b→w'.heap[b]? = w.heap[b]?)
  (T:∀ v f,VR w I β s v f→(∀ id ver,(id,ver)∈f.hands→ver≤(s.ob id).ver)→VR w' I' β' s' v f) (hv:∀ id,(s.ob id).ver≤(s'.ob id).ver):ObR w' base I' β' s' βid ob:=by
 cases hr:ob.life.row with
 | true => exact .ofRow ((h.rowR hr).mono hI hb) ((h.roomR hr).mono hb) hr
 | false=>
  cases hs:ob.life.slic with
  | true =>
   refine .ofH ((h.rowH hr hs).mono hb T hv) ?_;cases hl:ob.life <;> rw [hl] at hr hs <;> first|rfl|(simp [yf.row,yf.slic] at hr hs;done)
  | false =>
   by_cases hm:ob.life=.hmap
   ·exact .ofMH ((h.mapH hm).mono hb T hv) hm
   ·exact .ofMap ((h.mapR hs hm).mono hI hb) hs hm
theorem ObR.lt {w:World} {base:Nat} {I:Nat→Prop} {β:Nat→Option Nat} {s:FSt} {βid:Option Nat} {ob:zq} (h:ObR w base I β s βid ob) {b:Nat} (hb:βid=some b):base≤b∧b<w.heap.size:=by
 cases hr:ob.life.row with
 | true =>
  obtain ⟨v,us,h1,h2,h3⟩:=(h.rowR hr).row;exact h1.lt b (h2.trans hb)
 | false=>
  cases hs:ob.life.slic with
  | true =>
   obtain ⟨v,us,h1,h2,h3⟩:=(h.rowH hr hs).row;exact h1.lt b (h2.trans hb)
  | false =>
   obtain ⟨b',clock,ents,h1,h2,h3⟩:=h.mapB hs;rw [hb] at h1;injection h1 with h1
   subst h1;exact ⟨h2,(Array.getElem?_eq_some_iff.1 h3).1⟩
theorem VR1.mono {w w' : World} {I I' : Nat→Prop} {β β' : Nat→Option Nat} {s s' : FSt} {v:Value} {f:FV} (h:VR1 w I β s v f) (hI:∀ b,I b→I' b∧w'.heap[b]? = w.heap[b]?)
  (hh:∀ id ver,f.hand=some (id,ver)→(s'.ob id).life≠.dead→(s'.ob id).ver=ver→(s.ob id).life≠.dead∧(s.ob id).ver=ver∧β' id=β id∧(s'.ob id).sz=(s.ob id).sz∧(s'.ob id).life.slic=(s.ob id).life.slic∧
   ∀ v o n,Wv w (β id) (s.ob id) v o n→Wv w' (β' id) (s'.ob id) v o n):VR1 w' I' β' s' v f:=by
 cases f with
 | own id ver o n =>
  intro h1 h2;obtain ⟨k1,k2,_,_,_,k3⟩:=hh id ver rfl h1 h2;exact k3 v o n (h k1 k2)
 | ptr id ver i off =>
  intro h1 h2;obtain ⟨k1,k2,k3,k4,k5,_⟩:=hh id ver rfl h1 h2;obtain ⟨hrow,b,hb,hv⟩:=h k1 k2;exact ⟨by rw [k5];exact hrow,b,by rw [k3];exact hb,by rw [k4];exact hv⟩
 | omap id ver =>
  intro h1 h2;obtain ⟨k1,k2,k3,k4,k5,_⟩:=hh id ver rfl h1 h2;obtain ⟨hrow,b,hb,hv⟩:=h k1 k2;exact ⟨by rw [k5];exact hrow,b,by rw [k3];exact hb,hv⟩
 | _ => exact Rd.mono hI h
theorem VR.of1 {w:World} {I:Nat→Prop} {β:Nat→Option Nat} {s:FSt} {v:Value} {f:FV} (h:VR1 w I β s v f):VR w I β s v f:=by
 cases f with
 | wrap k fs => have h' : Rd w I v (.wrap k fs) := h; cases h'
 | _ => exact h
theorem VR.to1 {w:World} {I:Nat→Prop} {β:Nat→Option Nat} {s:FSt} {v:Value} {f:FV} (h:VR w I β s v f) (hw:∀ k fs,f≠.wrap k fs):VR1 w I β s v f:=by
 cases f with
 | wrap k fs => exact absurd rfl (hw k fs)
 | _ => exact h
theorem VR.mono {w w' : World} {I I' : Nat→Prop} {β β' : Nat→Option Nat} {s s' : FSt} {v:Value} {f:FV} (h:VR w I β s v f) (hI:∀ b,I b→I' b∧w'.heap[b]? = w.heap[b]?)
  (hh:∀ id ver,(id,ver)∈f.hands→(s'.ob id).life≠.dead→(s'.ob id).ver=ver→(s.ob id).life≠.dead∧(s.ob id).ver=ver∧β' id=β id∧(s'.ob id).sz=(s.ob id).sz∧(s'.ob id).life.slic=(s.ob id).life.slic∧
   ∀ v o n,Wv w (β id) (s.ob id) v o n→Wv w' (β' id) (s'.ob id) v o n):VR w' I' β' s' v f:=by
 have key:∀ g:FV,(∀ k fs,g≠.wrap k fs)→∀ id ver,g.hand=some (id,ver)→(id,ver)∈g.hands:=fun g hg id ver e=>by
  cases g with
  | wrap k fs => exact absurd rfl (hg k fs)
  | own|ptr|omap => simp only [FV.hand, Option.some.injEq] at e; rw [← e]; exact List.mem_singleton.2 rfl
  | _ => cases e
 by_cases hw:∃ k fs,f=.wrap k fs
 ·obtain ⟨k,fs,rfl⟩:=hw;obtain ⟨us,e,hl,hr⟩:=h;refine ⟨us,e,hl,fun j u g hu hg=>(hr j u g hu hg).mono hI fun id ver hf=>hh id ver ?_⟩;exact List.mem_filterMap.2 ⟨g,List.mem_of_getElem? hg,hf⟩
 ·have hw' : ∀ k fs,f≠.wrap k fs:=fun k fs e=>hw ⟨k,fs,e⟩;exact VR.of1 ((h.to1 hw').mono hI fun id ver hf=>hh id ver (key f hw' id ver hf))
theorem VR.of_rd {w:World} {I:Nat→Prop} {β:Nat→Option Nat} {s:FSt} {v:Value} {f:FV} (h:Rd w I v f) (hf:f.hand=none):VR w I β s v f:=by
 cases f <;> first|exact h|(simp [FV.hand] at hf)
theorem VR.rd {w:World} {I:Nat→Prop} {β:Nat→Option Nat} {s:FSt} {v:Value} {f:FV} (h:VR w I β s v f) (hf:f.hand=none):Rd w I v f:=by
 cases f <;> first|exact h|(simp [FV.hand] at hf)
theorem FR.step {N:Nat} {w0 w w' : World} {J:JJ} {s s' : FSt} {a a' : Act} {β β' : Nat→Option Nat} (h:FR N w0 J s a w β) (C:Nat→Prop)
  (size:a'.tmps.size=N) (defers:a'.defers=J.ds) (bel:Below w0.heap.size w0 w')
  (hI:∀ b,Imm J w β s b→Imm J w' β' s' b∧w'.heap[b]? = w.heap[b]?)
  (hslot:∀ k,(a'.tmps.getD k undef=a.tmps.getD k undef∧s'.get k=s.get k)∨
   (VR w' (Imm J w' β' s') β' s' (a'.tmps.getD k undef) (s'.get k)∧∀ id ver,(id,ver)∈(s'.get k).hands→ver≤(s'.ob id).ver))
  (hob:∀ id,¬ C id→s'.ob id=s.ob id∧β' id=β id∧((s.ob id).life≠.dead→∀ b,β id=some b→w'.heap[b]? = w.heap[b]?))
  (hver:∀ id,C id→(s.ob id).ver≤(s'.ob id).ver)
  (hsame:∀ id,C id→(s'.ob id).life≠.dead→(s'.ob id).ver=(s.ob id).ver→(s.ob id).life≠.dead∧β' id=β id∧(s'.ob id).sz=(s.ob id).sz∧(s'.ob id).life.slic=(s.ob id).life.slic∧∀ v o n,Wv w (β id) (s.ob id) v o n→Wv w' (β' id) (s'.ob id) v o n)
  (hnew:∀ id,C id→(s'.ob id).life≠.dead→(∀ v f,VR w (Imm J w β s) β s v f→(∀ id ver,(id,ver)∈f.hands→ver≤(s.ob id).ver)→VR w' (Imm J w' β' s') β' s' v f)→ObR w' w0.heap.size (Imm J w' β' s') β' s' (β' id) (s'.ob id))
  (inj:∀ id id' b,(s'.ob id).life≠.dead→(s'.ob id').life≠.dead→β' id=some b→β' id'=some b→id=id')
  (hH:∀ b,b<w.heap.size→(∀ id,(s.ob id).life≠.dead→β id≠some b)→w'.heap[b]? = w.heap[b]?∧∀ id,(s'.ob id).life≠.dead→β' id≠some b):FR N w0 J s' a' w' β':=by
 have T:∀ v f,VR w (Imm J w β s) β s v f→(∀ id ver,(id,ver)∈f.hands→ver≤(s.ob id).ver)→VR w' (Imm J w' β' s') β' s' v f:=fun v f hv hle=>by
  refine hv.mono hI fun id ver hf h1 h2=>?_;have hle:=hle id ver hf;by_cases hC:C id
  ·have:=hver id hC;have hv:(s'.ob id).ver=(s.ob id).ver:=by omega
   obtain ⟨k1,k2,k3,k4,k5⟩:=hsame id hC h1 hv;exact ⟨k1,by omega,k2,k3,k4,k5⟩
  ·obtain ⟨e,e',hb⟩:=hob id hC;rw [e] at h1 h2;refine ⟨h1,h2,e',by rw [e],by rw [e],fun v o n hv=>?_⟩;rw [e,e'];exact hv.mono (hb h1)
 have hv:∀ id,(s.ob id).ver≤(s'.ob id).ver:=fun id=>by
  by_cases hC:C id
  ·exact hver id hC
  ·rw [(hob id hC).1];exact Nat.le_refl _
 refine { size:=size,defers:=defers,bel:=bel,fresh0:=h.fresh0,slot:=fun k=>?_,vers:=fun k id ver hf=>?_,obj:=fun id hl=>?_,inj:=inj,
          kept:=fun b hb=>by
           obtain ⟨k1,k2,k3⟩:=h.kept b hb;obtain ⟨q1,q2⟩:=hH b k1 k2;have:w'.heap[b]? = some w.heap[b]:=q1.trans (by simp [k1]);exact ⟨(Array.getElem?_eq_some_iff.1 this).1,q2,q1.trans k3⟩,
          gh:=fun v f hg=>⟨T v f (h.gh v f hg).1 fun id ver hf=>((h.gh v f hg).2 id ver hf).2,fun id ver hf=>⟨((h.gh v f hg).2 id ver hf).1,Nat.le_trans ((h.gh v f hg).2 id ver hf).2 (hv id)⟩⟩ }
 ·rcases hslot k with ⟨e1,e2⟩|⟨hv,_⟩
  ·rw [e1,e2];exact T _ _ (h.slot k) (h.vers k)
  ·exact hv
 ·rcases hslot k with ⟨e1,e2⟩|⟨_,hv'⟩
  ·rw [e2] at hf;exact Nat.le_trans (h.vers k id ver hf) (hv id)
  ·exact hv' id ver hf
 ·by_cases hC:C id
  ·exact hnew id hC hl T
  ·obtain ⟨e,e',hb⟩:=hob id hC;rw [e] at hl ⊢;rw [e'];exact (h.obj id hl).mono hI (hb hl) T hv
theorem yo (a:Act) (d:Nat) (v:Value) (k:Nat) (hd:d<a.tmps.size):(a.put (some d) v).tmps.getD k undef=if d=k then v else a.tmps.getD k undef:=by
 simp only [Act.put,Array.getD_eq_getD_getElem?,Array.getElem?_setIfInBounds];split
 ·rename_i h;subst h;simp
 ·rfl
theorem FR.put {N:Nat} {w0 w:World} {J:JJ} {s:FSt} {a:Act} {β:Nat→Option Nat} (h:FR N w0 J s a w β) {d:Nat} {v:Value} {f:FV} (hd:d<N) (hv:VR w (Imm J w β s) β s v f)
  (hver:∀ id ver,(id,ver)∈f.hands→ver≤(s.ob id).ver):FR N w0 J (s.put d f) (a.put (some d) v) w β:=by
 refine h.step (C:=fun _=>False) (by simp [Act.put,h.size]) h.defers h.bel (fun b hb=>⟨hb,rfl⟩) (fun k=>?_) (fun id _=>⟨rfl,rfl,fun _ _ _=>rfl⟩) (fun _ h=>h.elim) (fun _ h=>h.elim) (fun _ h=>h.elim) h.inj (fun b _ hn=>⟨rfl,hn⟩);rw [yo a d v k (h.size▸hd),FSt.get_put];split
 ·exact .inr ⟨hv.mono (fun b hb=>⟨hb,rfl⟩) (fun id ver _ h1 h2=>⟨h1,h2,rfl,rfl,rfl,fun _ _ _ h=>h⟩),fun id ver hf=>hver id ver hf⟩
 ·exact .inl ⟨rfl,rfl⟩
theorem Imm.grow {J:JJ} {w w' : World} {β:Nat→Option Nat} {s:FSt} {b:Nat} (h:Imm J w β s b) (hb:Below w.heap.size w w'):Imm J w' β s b∧w'.heap[b]? = w.heap[b]?:=
 ⟨⟨Nat.lt_of_lt_of_le h.1 hb.size,h.2⟩,hb.block b h.1⟩
theorem FR.grow {N:Nat} {w0 w w' : World} {J:JJ} {s:FSt} {a:Act} {β:Nat→Option Nat} (h:FR N w0 J s a w β) (hb:Below w.heap.size w w'):FR N w0 J s a w' β:=by
 refine h.step (C:=fun _=>False) h.size h.defers (h.bel.trans (hb.mono h.bel.size)) (fun b hbb=>hbb.grow hb) (fun k=>.inl ⟨rfl,rfl⟩) (fun id _=>⟨rfl,rfl,fun hl b e=>?_⟩) (fun _ h=>h.elim) (fun _ h=>h.elim) (fun _ h=>h.elim) h.inj (fun b hlt hn=>⟨hb.block b hlt,hn⟩);exact hb.block b ((h.obj id hl).lt e).2
def XV (β:Nat→Option Nat) (j:Nat) (x:Option Nat):Nat→Option Nat:=fun k=>if k=j then x else β k
theorem FR.make {N:Nat} {w0 w w' : World} {J:JJ} {s:FSt} {a:Act} {β:Nat→Option Nat} (h:FR N w0 J s a w β) (i:Option Nat) (j:Nat) {E sz:Nat} {es:List (List FV)} {v:Value} {xs:List Value}
  (hi:∀ k,i=some k→(s.ob k).life.mine=true) (hg:w.grownBy w' (i.bind β)) (hw:∀ e∈es,e.length=sz) (ho:∀ f∈es.flatten,f.one=true) (hv:w'.ownsRow w0.heap.size E sz v es.length xs) (hr:RdL w (Imm J w β s) xs es.flatten)
  (hb:(v.ownBlock=i.bind β)∨v.ownBlock=none∨∃ b,v.ownBlock=some b∧w.heap.size≤b) {s' : FSt}
  (hs:∀ k,s'.ob k=if j=k then ⟨(s.ob j).ver+1,.own,E,sz,es⟩ else if i=some k then { s.ob k with life:=.dead } else s.ob k) (hst:∀ k,s'.get k=s.get k) :
  FR N w0 J s' a w' (XV β j v.ownBlock):=by
 have hlow:∀ k,i.bind β=some k→w0.heap.size≤k:=fun k hk=>by
  cases i with
  | none => simp at hk
  | some i => exact ((h.obj i (yf.mine_ne (hi i rfl))).lt (by simpa using hk)).1
 have hne:∀ b,Imm J w β s b→some b≠i.bind β:=fun b hbb e=>by
  cases i with
  | none => simp at e
  | some i => exact hbb.2.2 i (hi i rfl) (by simpa using e.symm)
 have hI:∀ b,Imm J w β s b→Imm J w' (XV β j v.ownBlock) s' b∧w'.heap[b]? = w.heap[b]?:=fun b hbb=>by
  refine ⟨⟨Nat.lt_of_lt_of_le hbb.1 hg.size,hbb.2.1,fun id hl=>?_⟩,hg.block b hbb.1 (hne b hbb)⟩;rw [hs] at hl;unfold XV;by_cases hj:j=id
  ·rw [if_pos hj.symm];rcases hb with e|e|⟨b',e,hge⟩
   ·rw [e];exact fun e2=>hne b hbb e2.symm
   ·rw [e];simp
   ·rw [e];intro e2;injection e2 with e2;have:=hbb.1;omega
  ·rw [if_neg hj] at hl;rw [if_neg (fun e=>hj e.symm)];by_cases hii:i=some id
   ·rw [if_pos hii] at hl;cases hl
   ·rw [if_neg hii] at hl;exact hbb.2.2 id hl
 have hblk:∀ id b,id≠j→i≠some id→(s.ob id).life≠.dead→β id=some b→b<w.heap.size∧w'.heap[b]? = w.heap[b]?∧v.ownBlock≠some b:=fun id b hj hii hl hbb=>by
  have hlt:=((h.obj id hl).lt hbb).2;have hnn:some b≠i.bind β:=fun e=>by
   cases i with
   | none => simp at e
   | some i =>
    have:=h.inj id i b hl (yf.mine_ne (hi i rfl)) hbb (by simpa using e.symm);exact hii (by rw [this])
  refine ⟨hlt,hg.block b hlt hnn,?_⟩;rcases hb with e|e|⟨b',e,hge⟩
  ·rw [e];exact fun e2=>hnn e2.symm
  ·rw [e];simp
  ·rw [e];intro e2;injection e2 with e2;omega
 refine h.step (C:=fun id=>id=j∨i=some id) h.size h.defers (h.bel.grown hg h.bel.size hlow) hI (fun k=>.inl ⟨rfl,hst k⟩) (fun id hC=>?_) (fun id hC=>?_) (fun id hC hl hvv=>?_) (fun id hC hl _=>?_) ?_ ?_
 ·have hj:¬ id=j:=fun e=>hC (.inl e);have hii:¬ i=some id:=fun e=>hC (.inr e);refine ⟨by rw [hs,if_neg (fun e=>hj e.symm),if_neg hii],by unfold XV;rw [if_neg hj],fun hl b hbb=>(hblk id b hj hii hl hbb).2.1⟩
 ·rw [hs];split
  ·rename_i e;subst e;simp
  ·split <;> simp
 ·rw [hs] at hl hvv;split at hl
  ·rename_i e;rw [if_pos e] at hvv;subst e;simp at hvv
  ·rename_i e;rcases hC with hC|hC
   ·exact absurd hC.symm e
   ·rw [if_pos hC] at hl;simp at hl
 ·rw [hs] at hl ⊢;split at hl
  ·rename_i e;subst e;rw [if_pos rfl];unfold XV;rw [if_pos rfl];exact .ofRow ⟨hw,ho,v,xs,hv,rfl,hr.mono hI⟩ (.own rfl) rfl
  ·rename_i e;rcases hC with hC|hC
   ·exact absurd hC.symm e
   ·rw [if_pos hC] at hl;simp at hl
 ·intro id id' b hl hl' e e';unfold XV at e e';rw [hs] at hl hl';by_cases hj:id=j
  ·by_cases hj' : id'=j
   ·rw [hj,hj']
   ·rw [if_pos hj] at e;rw [if_neg hj'] at e';rw [if_neg (fun e=>hj' e.symm)] at hl';by_cases hii:i=some id'
    ·rw [if_pos hii] at hl';simp at hl'
    ·rw [if_neg hii] at hl';exact absurd e (hblk id' b hj' hii hl' e').2.2
  ·rw [if_neg hj] at e;rw [if_neg (fun e=>hj e.symm)] at hl;have hii:¬ i=some id:=fun hii=>by rw [if_pos hii] at hl;simp at hl
   rw [if_neg hii] at hl;by_cases hj' : id'=j
   ·rw [if_pos hj'] at e';exact absurd e' (hblk id b hj hii hl e).2.2
   ·rw [if_neg hj'] at e';rw [if_neg (fun e=>hj' e.symm)] at hl';have hii' : ¬ i=some id':=fun hii=>by rw [if_pos hii] at hl';simp at hl'
    rw [if_neg hii'] at hl';exact h.inj id id' b hl hl' e e'
 ·intro b hlt hn;have hnn:some b≠i.bind β:=fun e=>by
   cases i with
   | none => simp at e
   | some i => exact hn i (yf.mine_ne (hi i rfl)) (by simpa using e.symm)
  refine ⟨hg.block b hlt hnn,fun id hl e=>?_⟩;unfold XV at e;rw [hs] at hl;by_cases hj:id=j
  ·rw [if_pos hj] at e;rcases hb with e2|e2|⟨b',e2,hge⟩
   ·rw [e2] at e;exact hnn e.symm
   ·rw [e2] at e;simp at e
   ·rw [e2] at e;injection e with e;omega
  ·rw [if_neg hj] at e;rw [if_neg (fun e=>hj e.symm)] at hl;have hii:¬ i=some id:=fun hii=>by rw [if_pos hii] at hl;simp at hl
   rw [if_neg hii] at hl;exact hn id hl e
theorem FR.write {N:Nat} {w0 w w' : World} {J:JJ} {s:FSt} {a:Act} {β:Nat→Option Nat} (h:FR N w0 J s a w β) (i:Nat) {es:List (List FV)} {v:Value} {xs:List Value}
  (hi:(s.ob i).life=.own) (hg:w.grownBy w' (β i)) (hw:∀ e∈es,e.length=(s.ob i).sz) (ho:∀ f∈es.flatten,f.one=true) (hv:w'.ownsRow w0.heap.size (s.ob i).E (s.ob i).sz v es.length xs) (hvb:v.ownBlock=β i)
  (hr:RdL w (Imm J w β s) xs es.flatten) (hl:es.length=(s.ob i).es.length) (hsz:∀ b cur cur',β i=some b→w.heap[b]? = some (.cells cur (s.ob i).E (0,0))→w'.heap[b]? = some (.cells cur' (s.ob i).E (0,0))→cur'.size=cur.size)
  {s' : FSt} (hs:∀ k,s'.ob k=if i=k then { s.ob i with es:=es } else s.ob k) (hst:∀ k,s'.get k=s.get k):FR N w0 J s' a w' β:=by
 have hla:(s.ob i).life≠.dead:=by rw [hi];decide
 have hI:∀ b,Imm J w β s b→Imm J w' β s' b∧w'.heap[b]? = w.heap[b]?:=fun b hbb=>by
  refine ⟨⟨Nat.lt_of_lt_of_le hbb.1 hg.size,hbb.2.1,fun id hl=>?_⟩,hg.block b hbb.1 (fun e=>hbb.2.2 i (by rw [hi];rfl) e.symm)⟩;rw [hs] at hl;split at hl
  ·rename_i e;subst e;exact hbb.2.2 i (by rw [hi];rfl)
  ·exact hbb.2.2 id hl
 refine h.step (C:=fun id=>id=i) h.size h.defers (h.bel.grown hg h.bel.size fun k hk=>((h.obj i hla).lt hk).1) hI (fun k=>.inl ⟨rfl,hst k⟩) (fun id hC=>?_) (fun id hC=>?_) (fun id hC hl2 hvv=>?_) (fun id hC hl2 T=>?_) ?_ ?_
 ·refine ⟨by rw [hs,if_neg (fun e=>hC e.symm)],rfl,fun hl2 b hbb=>hg.block b ((h.obj id hl2).lt hbb).2 (fun e=>hC (h.inj id i b hl2 hla hbb e.symm))⟩
 ·subst hC;rw [hs,if_pos rfl];exact Nat.le_refl _
 ·subst hC;refine ⟨hla,rfl,by rw [hs,if_pos rfl],by rw [hs,if_pos rfl],fun v2 o n hv2=>?_⟩;rw [hs,if_pos rfl];obtain ⟨A,c,h1,h2,h3,h4,h5⟩:=hv2.ex;refine ⟨hv2.row,A,c,h1,h2,by dsimp only;omega,h4,fun b hbb=>?_⟩;obtain ⟨o',k1,k2,k3⟩:=h5 b hbb;refine ⟨o',k1,k2,fun cur' hc'=>?_⟩;obtain ⟨v0,us0,r1,r2,r3⟩:=((h.obj id hla).rowR (by rw [hi];rfl)).row;rcases r1.2 with ⟨rfl,_⟩|⟨g,cap,cur,rfl,_,hgg,_⟩
  ·rw [← r2] at hbb;simp [Value.ownBlock] at hbb
  ·have hgb:g=b:=by rw [← r2] at hbb;simpa [Value.ownBlock] using hbb
   subst hgb;rw [hsz g cur cur' hbb hgg hc'];exact k3 cur hgg
 ·subst hC;rw [hs,if_pos rfl];exact .ofRow ⟨hw,ho,v,xs,hv,hvb,hr.mono hI⟩ (.own hi) (by show (s.ob id).life.row=true;rw [hi];rfl)
 ·intro id id' b hl2 hl2' e e';refine h.inj id id' b ?_ ?_ e e'
  ·rw [hs] at hl2;split at hl2
   ·rename_i e;subst e;exact hla
   ·exact hl2
  ·rw [hs] at hl2';split at hl2'
   ·rename_i e;subst e;exact hla
   ·exact hl2'
 ·intro b hlt hn;refine ⟨hg.block b hlt (fun e=>hn i hla e.symm),fun id hl2=>hn id ?_⟩;rw [hs] at hl2;split at hl2
  ·rename_i e;subst e;exact hla
  ·exact hl2
theorem FR.lives {N:Nat} {w0 w:World} {J:JJ} {s:FSt} {a:Act} {β:Nat→Option Nat} (h:FR N w0 J s a w β) (i:Nat) (l:yf) (hll:l.mine=true→(s.ob i).life.mine=true) (hd:(s.ob i).life=.dead→l=.dead) (hslic:l≠.dead→l.slic=(s.ob i).life.slic)
  {s' : FSt} (hs:∀ k,s'.ob k=if i=k then { s.ob i with life:=l } else s.ob k) (hst:∀ k,s'.get k=s.get k)
  (htr:l≠.dead→ObR w w0.heap.size (Imm J w β s') β s' (β i) (s.ob i)→ObR w w0.heap.size (Imm J w β s') β s' (β i) { s.ob i with life:=l }):FR N w0 J s' a w β:=by
 have hsub:∀ id,(s'.ob id).life≠.dead→(s.ob id).life≠.dead:=fun id hl=>by
  rw [hs] at hl;split at hl
  ·rename_i e;subst e;exact fun e=>hl (hd e)
  ·exact hl
 have hI:∀ b,Imm J w β s b→Imm J w β s' b∧w.heap[b]? = w.heap[b]?:=fun b hbb=>by
  refine ⟨⟨hbb.1,hbb.2.1,fun id hl=>?_⟩,rfl⟩;rw [hs] at hl;split at hl
  ·rename_i e;subst e;exact hbb.2.2 i (hll hl)
  ·exact hbb.2.2 id hl
 have hv:∀ id,(s.ob id).ver≤(s'.ob id).ver:=fun id=>by
  rw [hs];split
  ·rename_i e;subst e;exact Nat.le_refl _
  ·exact Nat.le_refl _
 refine h.step (C:=fun id=>id=i) h.size h.defers h.bel hI (fun k=>.inl ⟨rfl,hst k⟩) (fun id hC=>?_) (fun id hC=>hv id) (fun id hC hl2 hvv=>?_) (fun id hC hl2 T=>?_) ?_ (fun b _ hn=>⟨rfl,fun id hl2=>hn id (hsub id hl2)⟩)
 ·exact ⟨by rw [hs,if_neg (fun e=>hC e.symm)],rfl,fun _ _ _=>rfl⟩
 ·have hl3:=hsub id hl2;subst hC;rw [hs,if_pos rfl] at hl2;have hrl:=hslic hl2;refine ⟨hl3,rfl,by rw [hs,if_pos rfl],by rw [hs,if_pos rfl];exact hrl,fun v2 o n hv2=>?_⟩;rw [hs,if_pos rfl];exact ⟨hrl.trans hv2.row,hv2.ex⟩
 ·have hl3:=hsub id hl2;subst hC;have ho:=(h.obj id hl3).mono hI (fun _ _=>rfl) T hv;rw [hs,if_pos rfl] at hl2 ⊢;exact htr hl2 ho
 ·intro id id' b hl2 hl2' e e';exact h.inj id id' b (hsub id hl2) (hsub id' hl2') e e'
inductive TK where
 | other|any|int (k:IntKind)|bool|str|slice (e:Nat)|strct (fs:List (Nat × Nat))|arr (n e:Nat)|map (k e:Nat)
 deriving Inhabited
def TK.agg?:TK→Option Bool
 | .strct _|.arr _ _ => some true
 | .int _|.bool|.str|.slice _|.map _ _|.any => some false
 | .other => none
structure TS where
 k:TK:=.other
 size:Nat:=0
 bytes:Nat:=0
 zero:List FV:=[]
 deriving Inhabited
def Zx:Value→FV→Bool
 | .int k n, .int k' n' => decide (k=k') && decide (n=n')
 | .bool a, .bool b => a == b
 | .string s, .str s' => s.size == 0 && s'.size == 0
 | .slice none 0 0, .nil => true
 | .map none, .nilm => true
 | _, .undef => true
 | _, _ => false
def Yo:List Value→List FV→Bool
 | [], [] => true
 | v :: vs, f :: fs => Zx v f && Yo vs fs
 | _, _ => false
def Zq (P:Program) (d:TypeDesc) (k:TK):Bool:=
 match k,d with
 | .other, _ => true
 | .any, .struct _ => false
 | .any, .array _ _ => false
 | .any, _ => true
 | .int k, .int k' => decide (k=k')
 | .bool, .bool => true
 | .str, .string => true
 | .slice e, .slice e' => decide (e=e')
 | .strct fs, .struct gs => decide (fs=gs.toList.map fun f => (f.offset, f.type)) && gs.toList.all fun f => decide (f.name ≠ "_")
 | .arr n e, .array n' e' => decide (n=n') && decide (e=e')
 | .map k e, .map k' e' => decide (k=k') && decide (e=e')
 | _, _ => false
def zoj (k:TK) (z:Value):Bool:=
 match k.agg? with
 | some true => match z with|.agg _ => true|_ => false
 | some false => match z with|.agg _ => false|_ => true
 | none => true
def WZ (P:Program) (T:Nat) (ts:TS):Bool:=
 match P.underlying T,P.info? T with
 | some d,some i=>
  Zq P d ts.k && decide (i.size=ts.size) && decide (i.bytes=ts.bytes) && decide (ts.zero.length=ts.size) &&
   (match i.zero with|some z=>Yo z.cells.toList ts.zero && zoj ts.k z|none=>false)
 | _, _ => false
structure zpu (P:Program) (T:Nat) (ts:TS) (d:TypeDesc) (i:TypeInfo) (z:Value):Prop where
 u:P.underlying T=some d
 k:Zq P d ts.k=true
 info:P.info? T=some i
 size:i.size=ts.size
 bytes:i.bytes=ts.bytes
 zo:i.zero=some z
 zl:ts.zero.length=ts.size
 zr:Yo z.cells.toList ts.zero=true
 zk:zoj ts.k z=true
theorem zjW {P:Program} {T:Nat} {ts:TS} (h:WZ P T ts=true):∃ d i z,zpu P T ts d i z:=by
 unfold WZ at h;cases hu:P.underlying T with
 | none => rw [hu] at h; cases h
 | some d=>
  cases hi:P.info? T with
  | none => rw [hu, hi] at h; cases h
  | some i=>
   rw [hu,hi] at h;simp only [Bool.and_eq_true,decide_eq_true_eq] at h;obtain ⟨⟨⟨⟨h1,h2⟩,h3⟩,h4⟩,h5⟩:=h;cases hz:i.zero with
   | none => rw [hz] at h5; cases h5
   | some z =>
    rw [hz] at h5;simp only [Bool.and_eq_true] at h5;exact ⟨d,i,z,hu,h1,hi,h2,h3,hz,h4,h5.1,h5.2⟩
structure Ctx where
 P:Program
 N:Nat
 ty:Nat→TS
 ok:∀ T,(match (ty T).k with|.other=>true|_=>WZ P T (ty T))=true
 mixed:P.follows .mixedOrders=true
theorem Ctx.get (c:Ctx) {T:Nat} {k:TK} (h:(c.ty T).k=k) (hk:k≠.other):∃ d i z,zpu c.P T (c.ty T) d i z:=by
 refine zjW ?_;have:=c.ok T;cases k <;> first|exact absurd rfl hk|(rw [h] at this;exact this)
theorem Rd.zero {w:World} {I:Nat→Prop} {v:Value} {f:FV} (h:Zx v f=true):Rd w I v f:=by
 cases f with
 | undef => exact .undef v
 | int k n =>
  cases v <;> simp [Zx] at h
  obtain ⟨rfl,rfl⟩:=h;exact .int _ _
 | bool b =>
  cases v <;> simp [Zx] at h
  subst h;exact .bool _
 | str s =>
  cases v <;> simp [Zx] at h
  rename_i t;have e:t=s:=by rw [h.1,h.2]
  subst e;exact .str _
 | nil=>
  cases v with
  | slice a n c =>
   cases a with
   | none => cases n <;> cases c <;> first|exact .nil|(simp [Zx] at h)
   | some a => simp [Zx] at h
  | _ => simp [Zx] at h
 | nilm=>
  cases v with
  | map a =>
   cases a with
   | none => exact .nilm
   | some a => simp [Zx] at h
  | _ => simp [Zx] at h
 | _ => cases v <;> first|(simp [Zx] at h; done)|(rename_i a n c; cases a <;> cases n <;> cases c <;> simp [Zx] at h)
theorem RdL.zeros {w:World} {I:Nat→Prop}:∀ {vs:List Value} {fs:List FV},Yo vs fs=true→RdL w I vs fs
 | [], [], _ => RdL.nil
 | [], _ :: _, h => by simp [Yo] at h
 | _ :: _, [], h => by simp [Yo] at h
 | v :: vs, f :: fs, h => by
  simp only [Yo,Bool.and_eq_true] at h;exact RdL.cons (Rd.zero h.1) (RdL.zeros h.2)
def cval1:Value→FV
 | .int k n => .int k n
 | .bool b => .bool b
 | .string s => .str s
 | .slice none 0 0 => .nil
 | .map none => .nilm
 | _ => .undef
def cval:Value→FV
 | .agg cs => .agg (cs.toList.map cval1)
 | v => cval1 v
theorem Rd.cval1 {w:World} {I:Nat→Prop} (v:Value):Rd w I v (cval1 v):=by
 unfold Ytmnmakhpjgjdaaa.cval1;split <;> first|exact .int _ _|exact .bool _|exact .str _|exact .nil|exact .nilm|exact .undef _
theorem Rd.cval {w:World} {I:Nat→Prop} (v:Value):Rd w I v (cval v):=by
 unfold Ytmnmakhpjgjdaaa.cval;split
 ·rename_i cs;have:=Rd.agg (w:=w) (I:=I) cs.toList (cs.toList.map Ytmnmakhpjgjdaaa.cval1) zc (fun j u f hu hf=>by
   rw [List.getElem?_map,hu] at hf;simp only [Option.map_some,Option.some.injEq] at hf;subst hf;exact Rd.cval1 u)
  simpa using this
 ·exact Rd.cval1 v
theorem zeG (v:Value):(cval v).hand=none:=by
 unfold cval;split
 ·rfl
 ·unfold cval1;split <;> rfl
def FSt.ev (s:FSt):Operand→FV
 | .tmp t => s.get t
 | .const v => cval v
 | .func f => .fn f []
 | _ => .undef
section
variable {N:Nat} {w0 w:World} {J:JJ} {s:FSt} {a:Act} {β:Nat→Option Nat}
theorem FR.ev (h:FR N w0 J s a w β) (x:Operand):VR w (Imm J w β s) β s (a.eval x) (s.ev x):=by
 cases x with
 | tmp t => exact h.slot t
 | const v =>
  exact VR.of_rd (Rd.cval v) (zeG v)
 | global g => exact Rd.undef _
 | func f => exact VR.of_rd (Rd.fn f [] [] rfl zc) rfl
theorem FR.evers (h:FR N w0 J s a w β) (x:Operand) {id ver:Nat} (hf:(id,ver)∈(s.ev x).hands):ver≤(s.ob id).ver:=by
 cases x with
 | tmp t => exact h.vers t id ver hf
 | const v =>
  rw [FSt.ev] at hf;exact (FV.no_hands (zeG _) hf).elim
 | global g => simp [FSt.ev, FV.hands] at hf
 | func f => simp [FSt.ev, FV.hands] at hf
theorem FR.ev_int (h:FR N w0 J s a w β) {x:Operand} {k:IntKind} {n:Int} (e:s.ev x=.int k n):a.eval x=.int k n:=by
 have:=h.ev x;rw [e] at this;have:=VR.rd this rfl;generalize a.eval x=v at this;cases this;rfl
theorem FR.ev_bool (h:FR N w0 J s a w β) {x:Operand} {b:Bool} (e:s.ev x=.bool b):a.eval x=.bool b:=by
 have:=h.ev x;rw [e] at this;have:=VR.rd this rfl;generalize a.eval x=v at this;cases this;rfl
theorem FR.ev_nil (h:FR N w0 J s a w β) {x:Operand} (e:s.ev x=.nil):a.eval x=.slice none 0 0:=by
 have:=h.ev x;rw [e] at this;have:=VR.rd this rfl;generalize a.eval x=v at this;cases this;rfl
theorem FR.ev_rd (h:FR N w0 J s a w β) {x:Operand} {f:FV} (e:s.ev x=f) (hf:f.hand=none):Rd w (Imm J w β s) (a.eval x) f:=by
 have:=h.ev x;rw [e] at this;exact VR.rd this hf
theorem FR.ev_own (h:FR N w0 J s a w β) {x:Operand} {id ver o n:Nat} (e:s.ev x=.own id ver o n) (hl:(s.ob id).life≠.dead) (hv:(s.ob id).ver=ver):Wv w (β id) (s.ob id) (a.eval x) o n:=by
 have:=h.ev x;rw [e] at this;exact this hl hv
theorem FR.ev_ptr (h:FR N w0 J s a w β) {x:Operand} {id ver i off:Nat} (e:s.ev x=.ptr id ver i off) (hl:(s.ob id).life≠.dead) (hv:(s.ob id).ver=ver):(s.ob id).life.slic=true∧∃ b,β id=some b∧a.eval x=.pointer (some ⟨b,i * (s.ob id).sz+off,none⟩):=by
 have:=h.ev x;rw [e] at this;exact this hl hv
theorem FR.ev_omap (h:FR N w0 J s a w β) {x:Operand} {id ver:Nat} (e:s.ev x=.omap id ver) (hl:(s.ob id).life≠.dead) (hv:(s.ob id).ver=ver):(s.ob id).life.slic=false∧∃ b,β id=some b∧a.eval x=.map (some b):=by
 have:=h.ev x;rw [e] at this;exact this hl hv
end
def ibin:BinOp→IntKind→Int→Int→Option FV
 | .add, k, a, b => some (.int k (k.wrap (a+b)))
 | .sub, k, a, b => some (.int k (k.wrap (a - b)))
 | .mul, k, a, b => some (.int k (k.wrap (a * b)))
 | .eql, _, a, b => some (.bool (a == b))
 | .neq, _, a, b => some (.bool (a != b))
 | .lss, _, a, b => some (.bool (decide (a<b)))
 | .leq, _, a, b => some (.bool (decide (a ≤ b)))
 | .gtr, _, a, b => some (.bool (decide (a > b)))
 | .geq, _, a, b => some (.bool (decide (a ≥ b)))
 | .and, k, a, b => some (.int k (k.wrap (BitVec.ofInt k.bits a &&& BitVec.ofInt k.bits b).toNat))
 | .or, k, a, b => some (.int k (k.wrap (BitVec.ofInt k.bits a ||| BitVec.ofInt k.bits b).toNat))
 | _, _, _, _ => none
section
variable {N:Nat} {w0 w:World} {J:JJ} {s:FSt} {a:Act} {β:Nat→Option Nat} {P:Program}
theorem zm5 (op:BinOp) (T T2:TypeId) (x y:Operand) {k:IntKind} {m n:Int} {f:FV} (ex:a.eval x=.int k m) (ey:a.eval y=.int k n) (hf:ibin op k m n=some f) (dst:Option Nat) (ty:TypeId) (pos:String) (after:Array Edge) (g:Option (Nat×Bool)) (I:Nat→Prop) :
  ∃ v,(execOp a.eval ⟨dst,.binOp op T x y T2,ty,pos,after,g⟩).run P w=.ok (.value v) w∧Rd w I v f∧f.hand=none:=by
 cases op <;> simp only [ibin,Option.some.injEq,reduceCtorEq] at hf <;> subst hf <;>
  simp [execOp,eqGuard,binOp,ex,ey,Op.intArith,Op.intCmp,Op.intBits,FV.hand] <;> first|exact .int _ _|exact .bool _
theorem zlW (op:BinOp) (T T2:TypeId) (x y:Operand) {k yk:IntKind} {m n:Int} (ex:a.eval x=.int k m) (ey:a.eval y=.int yk n) (hn:0≤n) (hop:op=.shl∨op=.shr) (dst:Option Nat) (ty:TypeId) (pos:String) (after:Array Edge) (g:Option (Nat×Bool)) :
  (execOp a.eval ⟨dst,.binOp op T x y T2,ty,pos,after,g⟩).run P w=.ok (.value (.int k (if op=.shl then k.wrap (m * 2 ^ (min n.toNat k.bits)) else m.fdiv (2 ^ (min n.toNat k.bits))))) w:=by
 have hn' : ¬ n<0:=by omega
 rcases hop with rfl|rfl <;> simp [execOp,eqGuard,binOp,ex,ey,Op.shift,hn']
theorem zm6 (op:BinOp) (T T2:TypeId) (x y:Operand) {k:IntKind} {m n:Int} (ex:a.eval x=.int k m) (ey:a.eval y=.int k n) (hn:n≠0) (hop:op=.quo∨op=.rem) (dst:Option Nat) (ty:TypeId) (pos:String) (after:Array Edge) (g:Option (Nat×Bool)) :
  (execOp a.eval ⟨dst,.binOp op T x y T2,ty,pos,after,g⟩).run P w=.ok (.value (.int k (if op=.quo then k.wrap (m.tdiv n) else m.tmod n))) w:=by
 rcases hop with rfl|rfl <;> simp [execOp,eqGuard,binOp,ex,ey,Op.intDiv,hn]
theorem zm4 (op:BinOp) {T T2:TypeId} (x y:Operand) {m n:Bool} (hT:P.underlying T=some .bool) (ex:a.eval x=.bool m) (ey:a.eval y=.bool n) (hop:op=.eql∨op=.neq) (dst:Option Nat) (ty:TypeId) (pos:String) (after:Array Edge) (g:Option (Nat×Bool)) :
  (execOp a.eval ⟨dst,.binOp op T x y T2,ty,pos,after,g⟩).run P w=.ok (.value (.bool (if op=.eql then m == n else m != n))) w:=by
 have h1:∀ op:BinOp,(eqGuard op T x y (.bool m) (.bool n)).run P w=.ok () w:=fun op=>by cases op <;> simp [eqGuard]
 have h2:=run_equal_bool (P:=P) w T m n hT;rcases hop with rfl|rfl
 ·have e:binOp .eql T (.bool m) (.bool n)=(do pure (.bool (← Op.equal T (.bool m) (.bool n)))):=rfl;simp only [execOp,ex,ey,e,Sem.run_bind,Result.andThen,h1,h2,Sem.run_pure,if_true]
 ·have e:binOp .neq T (.bool m) (.bool n)=(do pure (.bool (!(← Op.equal T (.bool m) (.bool n))))):=rfl;simp only [execOp,ex,ey,e,Sem.run_bind,Result.andThen,h1,h2,Sem.run_pure,bne];rfl
end
theorem yP (b o n:Nat):(⟨b,o,none⟩:Addr).add n=⟨b,o+n,none⟩:=by
 unfold Addr.add;split
 ·rename_i h;subst h;rfl
 ·rfl
def Yj (ts:TS) (cs:List FV):FV:=
 match ts.k.agg? with
 | some true => .agg (cs.take ts.size)
 | _ => cs.headD .undef
theorem yB {P:Program} {d:TypeDesc} {e:Nat} (h:Zq P d (.slice e)=true):d=.slice e:=by
 cases d <;> simp [Zq] at h
 subst h;rfl
theorem zdJ {P:Program} {d:TypeDesc} {n e:Nat} (h:Zq P d (.arr n e)=true):d=.array n e:=by
 cases d <;> simp [Zq] at h
 obtain ⟨rfl,rfl⟩:=h;rfl
theorem Xe {P:Program} {d:TypeDesc} {n e:Nat} (h:Zq P d (.map n e)=true):d=.map n e:=by
 cases d <;> simp [Zq] at h
 obtain ⟨rfl,rfl⟩:=h;rfl
theorem zhI {P:Program} {d:TypeDesc} {k:IntKind} (h:Zq P d (.int k)=true):d=.int k:=by
 cases d <;> simp [Zq] at h
 subst h;rfl
theorem zfg {P:Program} {d:TypeDesc} (h:Zq P d .bool=true):d=.bool:=by
 cases d <;> first|rfl|(simp [Zq] at h)
theorem zmL {P:Program} {d:TypeDesc} (h:Zq P d .str=true):d=.string:=by
 cases d <;> first|rfl|(simp [Zq] at h)
theorem Wh {P:Program} {d:TypeDesc} {fs:List (Nat×Nat)} (h:Zq P d (.strct fs)=true):∃ gs,d=.struct gs∧fs=gs.toList.map (fun f=>(f.offset,f.type))∧∀ f∈gs.toList,f.name≠"_":=by
 cases d <;> simp [Zq] at h
 rename_i gs;refine ⟨gs,rfl,h.1,fun f hf=>?_⟩;obtain ⟨i,hi,rfl⟩:=List.getElem_of_mem hf;have:=h.2 i (by simpa using hi);simpa using this
theorem XP {c:Ctx} {T:Nat} {b:Bool} (hk:(c.ty T).k.agg? = some b) (w:World):(isAgg T).run c.P w=.ok b w:=by
 cases hkk:(c.ty T).k with
 | other => rw [hkk] at hk; cases hk
 | any =>
  obtain ⟨d,i,z,h⟩:=c.get hkk zc;have hd:=h.k;rw [hkk] at hd hk;simp only [TK.agg?,Option.some.injEq] at hk;subst hk;cases d <;> first|(simp [Zq] at hd;done)|simp [isAgg,run_underlying h.u]
 | _=>
  obtain ⟨d,i,z,h⟩:=c.get hkk zc;have hd:=h.k;rw [hkk] at hd hk
  first
   | (obtain ⟨gs, rfl, _⟩ := Wh hd; simp only [TK.agg?, Option.some.injEq] at hk; subst hk; simp [isAgg, run_underlying h.u])
   | (obtain rfl := zdJ hd; simp only [TK.agg?, Option.some.injEq] at hk; subst hk; simp [isAgg, run_underlying h.u])
   | (obtain rfl := zhI hd; simp only [TK.agg?, Option.some.injEq] at hk; subst hk; simp [isAgg, run_underlying h.u])
   | (obtain rfl := zfg hd; simp only [TK.agg?, Option.some.injEq] at hk; subst hk; simp [isAgg, run_underlying h.u])
   | (obtain rfl := zmL hd; simp only [TK.agg?, Option.some.injEq] at hk; subst hk; simp [isAgg, run_underlying h.u])
   | (obtain rfl := yB hd; simp only [TK.agg?, Option.some.injEq] at hk; subst hk; simp [isAgg, run_underlying h.u])
   | (obtain rfl := Xe hd; simp only [TK.agg?, Option.some.injEq] at hk; subst hk; simp [isAgg, run_underlying h.u])
theorem zke {k:TK} {b:Bool} (h:k.agg? = some b):k≠.other:=by rintro rfl;cases h
theorem yZ {c:Ctx} {T:Nat} (hk:(c.ty T).k≠.other) (w:World):(sizeOf T).run c.P w=.ok (c.ty T).size w:=by
 obtain ⟨d,i,z,h⟩:=c.get rfl hk;simp [sizeOf,typeInfo,h.info,h.size]
theorem xT {c:Ctx} {T:Nat} (hk:(c.ty T).k≠.other) (w:World):∃ z,(zeroValue T).run c.P w=.ok z w∧Yo z.cells.toList (c.ty T).zero=true∧z.cells.size=(c.ty T).size:=by
 obtain ⟨d,i,z,h⟩:=c.get rfl hk;refine ⟨z,by simp [zeroValue,typeInfo,h.info,h.zo],h.zr,?_⟩;have:=(RdL.zeros (w:=w) (I:=fun _=>True) h.zr).1;rw [h.zl] at this;simpa using this
theorem WW {c:Ctx} {T:Nat} {bb:Bool} (hk:(c.ty T).k.agg? = some bb) (w:World) (b o:Nat) (us:List Value) (hl:(c.ty T).size≤us.length) (h1:bb=false→0<us.length)
  (hc:∀ (j:Nat) u,us[j]? = some u→w.cell? ⟨b,o+j,none⟩=some u) {I:Nat→Prop} {fs:List FV} (hr:RdL w I us fs) :
  ∃ v,(loadVar T ⟨b,o,none⟩).run c.P w=.ok v w∧Rd w I v (Yj (c.ty T) fs):=by
 cases bb with
 | true=>
  refine ⟨.agg (us.take (c.ty T).size).toArray,?_,?_⟩
  ·have hs:=yZ (zke hk) w;have hlc:=run_loadCells_list (P:=c.P) (w:=w) ⟨b,o,none⟩ (us.take (c.ty T).size) (fun j v hv=>by
    rw [yP];rw [List.getElem?_take] at hv;split at hv
    ·exact hc j v hv
    ·cases hv)
   rw [List.length_take,Nat.min_eq_left hl] at hlc;simp [loadVar,XP hk,hs,hlc]
  ·unfold Yj;rw [hk];have:=hr.take (c.ty T).size;exact .agg _ _ this.1 this.2
 | false=>
  have h0:=h1 rfl;obtain ⟨u,rest,rfl⟩:∃ u rest,us=u::rest:=by cases us with|nil=>simp at h0|cons u r=>exact ⟨u,r,rfl⟩
  obtain ⟨f,gs,rfl⟩:∃ f gs,fs=f::gs:=by cases fs with|nil=>have:=hr.1;simp at this|cons f r=>exact ⟨f,r,rfl⟩
  refine ⟨u,?_,?_⟩
  ·have:=hc 0 u rfl;rw [Nat.add_zero] at this;simp [loadVar,XP hk,load,Sem.run,this]
  ·unfold Yj;rw [hk];exact hr.2 0 u f rfl rfl
def FV.cells:FV→List FV
 | .agg cs => cs
 | f => [f]
theorem Rd.oneCell {w:World} {I:Nat→Prop} {v:Value} {f:FV} (h:Rd w I v f) (hf:f.one=true):v.oneCell'=true:=by
 cases h <;> first|rfl|(simp [FV.one] at hf)
theorem Rd.cells {w:World} {I:Nat→Prop} {v:Value} {f:FV} (h:Rd w I v f) (hf:f.cells.all FV.one=true):RdL w I v.cells.toList f.cells∧(∀ u∈v.cells.toList,u.oneCell'=true):=by
 have key:RdL w I v.cells.toList f.cells:=by
  cases h with
  | agg us fs hl hr => exact ⟨by simpa [Value.cells, FV.cells] using hl, by simpa [Value.cells, FV.cells] using hr⟩
  | undef v => simp [FV.cells, FV.one] at hf
  | tup us fs hl hr => simp [FV.cells, FV.one] at hf
  | eptr b off sz es i o us hI he ho hA hl hr => exact RdL.cons (.eptr b off sz es i o us hI he ho hA hl hr) RdL.nil
  | bnd f us fs hl hr => exact RdL.cons (.bnd f us fs hl hr) RdL.nil
  | perm v sz es es' hp hr => simp [FV.cells, FV.one] at hf
  | int k n => exact RdL.cons (.int k n) .nil
  | bool b => exact RdL.cons (.bool b) .nil
  | str s => exact RdL.cons (.str s) .nil
  | nil => exact RdL.cons .nil RdL.nil
  | nilm => exact RdL.cons .nilm RdL.nil
  | list A n c sz es us hn hc he ho hA hl hr => exact RdL.cons (.list A n c sz es us hn hc he ho hA hl hr) RdL.nil
  | smap b clock ents es hI hb hst hl hk hr => exact RdL.cons (.smap b clock ents es hI hb hst hl hk hr) RdL.nil
  | fn f us fs hl hr => exact RdL.cons (.fn f us fs hl hr) RdL.nil
  | iface t v f hr => exact RdL.cons (.iface t v f hr) RdL.nil
 refine ⟨key,fun u hu=>?_⟩;obtain ⟨j,hj,rfl⟩:=List.getElem_of_mem hu;have hj2:j<f.cells.length:=by rw [← key.1];exact hj
 refine (key.2 j _ f.cells[j] zc (by simp [hj2])).oneCell ?_;rw [List.all_eq_true] at hf;exact hf _ (List.getElem_mem hj2)
theorem Rd.nohand {f:FV} (hf:f.cells.all FV.one=true):f.hand=none:=by
 cases f <;> first|rfl|(simp [FV.cells,FV.one] at hf)
def FSt.wr (s:FSt) (l:List (Nat×zq)):FSt:=l.foldl (fun s p=>s.set p.1 p.2) s
theorem FSt.wr_get (l:List (Nat×zq)):∀ (s:FSt) (k:Nat),(s.wr l).get k=s.get k:=by
 induction l with
 | nil => exact fun _ _ => rfl
 | cons p l ih => exact fun s k => ih (s.set p.1 p.2) k
def FSt.live (s:FSt) (id ver:Nat):Prop:=(s.ob id).life≠.dead∧(s.ob id).ver=ver
def yV (c:Ctx) (w0:World) (J:JJ) (s:FSt) (a:Act) (o:Oper) (w:World) (f:FV) (wr:List (Nat×zq)):Prop:=
 ∃ v w' β',(execOp a.eval o).run c.P w=.ok (.value v) w'∧FR c.N w0 J (s.wr wr) a w' β'∧VR w' (Imm J w' β' (s.wr wr)) β' (s.wr wr) v f∧∀ id ver,(id,ver)∈f.hands→ver≤((s.wr wr).ob id).ver
section
variable {c:Ctx} {w0 w:World} {J:JJ} {s:FSt} {a:Act} {β:Nat→Option Nat} {dst:Option Nat} {ty:TypeId} {pos:String} {after:Array Edge} {g:Option (Nat×Bool)}
theorem yV.pure {o:Oper} {v:Value} {f:FV} (h:FR c.N w0 J s a w β) (hr:(execOp a.eval o).run c.P w=.ok (.value v) w) (hf:VR w (Imm J w β s) β s v f) (hv:∀ id ver,(id,ver)∈f.hands→ver≤(s.ob id).ver):yV c w0 J s a o w f []:=
 ⟨v,w,β,hr,h,hf,hv⟩
theorem yV.rd {o:Oper} {v:Value} {f:FV} (h:FR c.N w0 J s a w β) (hr:(execOp a.eval o).run c.P w=.ok (.value v) w) (hf:Rd w (Imm J w β s) v f) (hn:f.hand=none):yV c w0 J s a o w f []:=
 .pure h hr (VR.of_rd hf hn) (fun id ver e=>(FV.no_hands hn e).elim)
theorem zkK (h:FR c.N w0 J s a w β) (x:Operand):yV c w0 J s a ⟨dst,.move x,ty,pos,after,g⟩ w (s.ev x) []:=
 .pure h (v:=a.eval x) (by simp [execOp]) (h.ev x) (fun id ver e=>h.evers x e)
theorem zgy (h:FR c.N w0 J s a w β) (x:Operand):yV c w0 J s a ⟨dst,.assign x,ty,pos,after,g⟩ w (s.ev x) []:=
 .pure h (v:=a.eval x) (by simp [execOp]) (h.ev x) (fun id ver e=>h.evers x e)
theorem zkL (h:FR c.N w0 J s a w β) (cnd x y:Operand) {b:Bool} (hb:s.ev cnd=.bool b):yV c w0 J s a ⟨dst,.pick cnd x y,ty,pos,after,g⟩ w (if b then s.ev x else s.ev y) []:=by
 have e:=h.ev_bool hb;cases b
 ·exact .pure h (v:=a.eval y) (by simp [execOp,e,asBool]) (h.ev y) (fun id ver e=>h.evers y e)
 ·exact .pure h (v:=a.eval x) (by simp [execOp,e,asBool]) (h.ev x) (fun id ver e=>h.evers x e)
theorem zkG (h:FR c.N w0 J s a w β) (op:BinOp) (T T2:TypeId) (x y:Operand) {k:IntKind} {m n:Int} {f:FV} (ex:s.ev x=.int k m) (ey:s.ev y=.int k n) (hf:ibin op k m n=some f) :
  yV c w0 J s a ⟨dst,.binOp op T x y T2,ty,pos,after,g⟩ w f []:=by
 obtain ⟨v,h1,h2,h3⟩:=zm5 (P:=c.P) (w:=w) op T T2 x y (h.ev_int ex) (h.ev_int ey) hf dst ty pos after g (Imm J w β s);exact .rd h h1 h2 h3
theorem zkH (h:FR c.N w0 J s a w β) (op:BinOp) (T T2:TypeId) (x y:Operand) {k:IntKind} {m n:Int} (ex:s.ev x=.int k m) (ey:s.ev y=.int k n) (hn:n≠0) (hop:op=.quo∨op=.rem) :
  yV c w0 J s a ⟨dst,.binOp op T x y T2,ty,pos,after,g⟩ w (.int k (if op=.quo then k.wrap (m.tdiv n) else m.tmod n)) []:=
 .rd h (zm6 (P:=c.P) (w:=w) op T T2 x y (h.ev_int ex) (h.ev_int ey) hn hop dst ty pos after g) (.int _ _) rfl
theorem ziN (h:FR c.N w0 J s a w β) (op:BinOp) (T T2:TypeId) (x y:Operand) {k yk:IntKind} {m n:Int} (ex:s.ev x=.int k m) (ey:s.ev y=.int yk n) (hn:0≤n) (hop:op=.shl∨op=.shr) :
  yV c w0 J s a ⟨dst,.binOp op T x y T2,ty,pos,after,g⟩ w (.int k (if op=.shl then k.wrap (m * 2 ^ (min n.toNat k.bits)) else m.fdiv (2 ^ (min n.toNat k.bits)))) []:=
 .rd h (zlW (P:=c.P) (w:=w) op T T2 x y (h.ev_int ex) (h.ev_int ey) hn hop dst ty pos after g) (.int _ _) rfl
theorem zkE (h:FR c.N w0 J s a w β) {T T2:TypeId} {k2:IntKind} (hT:(c.ty T).k≠.other) (hT2:(c.ty T2).k=.int k2) (x:Operand) {k:IntKind} {n:Int} (ex:s.ev x=.int k n) :
  yV c w0 J s a ⟨dst,.convert T T2 x,ty,pos,after,g⟩ w (.int k2 (k2.wrap n)) []:=by
 obtain ⟨d1,i1,z1,h1⟩:=c.get (T:=T) rfl hT;obtain ⟨d2,i2,z2,h2⟩:=c.get hT2 zc;have hd2:=h2.k;rw [hT2] at hd2;obtain rfl:=zhI hd2;refine .rd h (v:=.int k2 (k2.wrap n)) ?_ (.int _ _) rfl;have hc:(convert T T2 (.int k n)).run c.P w=.ok (.int k2 (k2.wrap n)) w:=by
  unfold convert;simp [run_underlying h1.u,run_underlying h2.u,Conv.intToInt]
 simp [execOp,h.ev_int ex,hc]
theorem zkD (h:FR c.N w0 J s a w β) (op:BinOp) {T T2:TypeId} (x y:Operand) {m n:Bool} (hT:(c.ty T).k=.bool) (ex:s.ev x=.bool m) (ey:s.ev y=.bool n) (hop:op=.eql∨op=.neq) :
  yV c w0 J s a ⟨dst,.binOp op T x y T2,ty,pos,after,g⟩ w (.bool (if op=.eql then m == n else m != n)) []:=by
 obtain ⟨d,i,z,ht⟩:=c.get hT zc;have hd:=ht.k;rw [hT] at hd;obtain rfl:=zfg hd;exact .rd h (zm4 (P:=c.P) (w:=w) op x y ht.u (h.ev_bool ex) (h.ev_bool ey) hop dst ty pos after g) (.bool _) rfl
theorem zmI (h:FR c.N w0 J s a w β) (T:TypeId) (x:Operand) {b:Bool} (ex:s.ev x=.bool b):yV c w0 J s a ⟨dst,.unOp .not T x,ty,pos,after,g⟩ w (.bool (!b)) []:=
 .rd h (v:=.bool (!b)) (by simp [execOp,h.ev_bool ex,Op.unary]) (.bool _) rfl
theorem zmH (h:FR c.N w0 J s a w β) (T:TypeId) (x:Operand) {k:IntKind} {n:Int} (ex:s.ev x=.int k n):yV c w0 J s a ⟨dst,.unOp .neg T x,ty,pos,after,g⟩ w (.int k (k.wrap (-n))) []:=
 .rd h (v:=.int k (k.wrap (-n))) (by simp [execOp,h.ev_int ex,Op.unary,Op.intArith]) (.int _ _) rfl
theorem zkJ (h:FR c.N w0 J s a w β) (bi:Builtin) (T T2:TypeId) (x y:Operand) {k:IntKind} {m n:Int} (ex:s.ev x=.int k m) (ey:s.ev y=.int k n) (hbi:bi=.min∨bi=.max) :
  yV c w0 J s a ⟨dst,.call { callee:=.builtin bi,args:=#[x,y],argTypes:=#[T,T2] },ty,pos,after,g⟩ w (.int k (if bi=.min then (if n<m then n else m) else (if m<n then n else m))) []:=by
 rcases hbi with rfl|rfl
 ·refine .rd h (v:=.int k (if n<m then n else m)) ?_ (.int _ _) rfl;simp [execOp,resolve,invoke,builtin,Builtin.min_,Builtin.min2,h.ev_int ex,h.ev_int ey]
 ·refine .rd h (v:=.int k (if m<n then n else m)) ?_ (.int _ _) rfl;simp [execOp,resolve,invoke,builtin,Builtin.max_,Builtin.max2,h.ev_int ex,h.ev_int ey]
theorem zg6 {T e:TypeId} (hT:(c.ty T).k=.slice e) (x:Operand) {A:Option Addr} {n cc:Nat} (ex:a.eval x=.slice A n cc) :
  (execOp a.eval ⟨dst,.call { callee:=.builtin .len,args:=#[x],argTypes:=#[T] },ty,pos,after,g⟩).run c.P w=.ok (.value (.int .i64 n)) w:=by
 obtain ⟨d,i,z,ht⟩:=c.get hT zc;have hd:=ht.k;rw [hT] at hd;obtain rfl:=yB hd;simp [execOp,resolve,invoke,builtin,Builtin.len_,ex,run_underlying ht.u,goInt]
theorem ze4 (h:FR c.N w0 J s a w β) {T e:TypeId} (hT:(c.ty T).k=.slice e) (x:Operand) {id ver o n:Nat} (ex:s.ev x=.own id ver o n) (hl:s.live id ver) :
  yV c w0 J s a ⟨dst,.call { callee:=.builtin .len,args:=#[x],argTypes:=#[T] },ty,pos,after,g⟩ w (.int .i64 n) []:=by
 obtain ⟨A,cc,h1,_⟩:=(h.ev_own ex hl.1 hl.2).ex;exact .rd h (zg6 hT x h1) (.int _ _) rfl
theorem zdF (h:FR c.N w0 J s a w β) {T e:TypeId} (hT:(c.ty T).k=.slice e) (x:Operand) {sz:Nat} {es:List (List FV)} (ex:s.ev x=.list sz es) :
  yV c w0 J s a ⟨dst,.call { callee:=.builtin .len,args:=#[x],argTypes:=#[T] },ty,pos,after,g⟩ w (.int .i64 es.length) []:=by
 have hr:=h.ev_rd ex rfl;generalize hx:a.eval x=v at hr;cases hr with
 | list A n cc sz es us hn => subst hn; exact .rd h (zg6 hT x hx) (.int _ _) rfl
theorem ze3 (h:FR c.N w0 J s a w β) {T e:TypeId} (hT:(c.ty T).k=.slice e) (x:Operand) (ex:s.ev x=.nil) :
  yV c w0 J s a ⟨dst,.call { callee:=.builtin .len,args:=#[x],argTypes:=#[T] },ty,pos,after,g⟩ w (.int .i64 0) []:=
 .rd h (by have:=zg6 (c:=c) (w:=w) (dst:=dst) (ty:=ty) (pos:=pos) (after:=after) (g:=g) hT x (h.ev_nil ex);simpa using this) (.int _ _) rfl
theorem FR.ev_eptr (h:FR c.N w0 J s a w β) {x:Operand} {sz i o:Nat} {es:List (List FV)} (e:s.ev x=.eptr sz es i o) :
  ∃ b off us,a.eval x=.pointer (some ⟨b,off+(i * sz+o),none⟩)∧Imm J w β s b∧(∀ e∈es,e.length=sz)∧(∀ f∈es.flatten,f.one=true)∧(∀ (j:Nat) u,us[j]? = some u→w.cell? ⟨b,off+j,none⟩=some u)∧RdL w (Imm J w β s) us es.flatten:=by
 have hr:=h.ev_rd e rfl;generalize a.eval x=v at hr;cases hr with
 | eptr b off sz es i o us hI he ho hA hl hr => exact ⟨b, off, us, rfl, hI, he, ho, hA, hl, hr⟩
theorem zfY {T ft i off:Nat} {fs:List (Nat×Nat)} (hT:(c.ty T).k=.strct fs) (hf:fs[i]? = some (off,ft)) (hft:(c.ty ft).k≠.other) (hsz:(c.ty ft).size≠0) (x:Operand) {b o:Nat} (ex:a.eval x=.pointer (some ⟨b,o,none⟩)) :
  (execOp a.eval ⟨dst,.fieldAddr T x i,ty,pos,after,g⟩).run c.P w=.ok (.value (.pointer (some ⟨b,o+off,none⟩))) w:=by
 obtain ⟨d,ii,z,ht⟩:=c.get hT zc;have hd:=ht.k;rw [hT] at hd;obtain ⟨gs,rfl,hfs,_⟩:=Wh hd;rw [hfs,List.getElem?_map] at hf;cases hg:gs.toList[i]? with
 | none => rw [hg] at hf; cases hf
 | some fl =>
  rw [hg] at hf;simp only [Option.map_some,Option.some.injEq,Prod.mk.injEq] at hf;obtain ⟨rfl,rfl⟩:=hf;have hg' : gs[i]? = some fl:=by simpa using hg
  have hs:=yZ (c:=c) hft w;simp [execOp,Instr.fieldAt,run_underlying ht.u,hg',ex,Instr.sureAddr,fieldPlace,hs,hsz,yP]
theorem zb3 (h:FR c.N w0 J s a w β) {T ft i off:Nat} {fs:List (Nat×Nat)} (hT:(c.ty T).k=.strct fs) (hf:fs[i]? = some (off,ft)) (hft:(c.ty ft).k≠.other) (hsz:(c.ty ft).size≠0) (x:Operand)
  {id ver j o:Nat} (ex:s.ev x=.ptr id ver j o) (hl:s.live id ver):yV c w0 J s a ⟨dst,.fieldAddr T x i,ty,pos,after,g⟩ w (.ptr id ver j (o+off)) []:=by
 obtain ⟨hrow,b,hb,hv⟩:=h.ev_ptr ex hl.1 hl.2;refine .pure h (zfY hT hf hft hsz x hv) (fun _ _=>⟨hrow,b,hb,by rw [Nat.add_assoc]⟩) (fun id' ver' e=>h.evers x (by rw [ex];exact e))
theorem zaX (h:FR c.N w0 J s a w β) {T ft i off:Nat} {fs:List (Nat×Nat)} (hT:(c.ty T).k=.strct fs) (hf:fs[i]? = some (off,ft)) (hft:(c.ty ft).k≠.other) (hsz:(c.ty ft).size≠0) (x:Operand)
  {sz j o:Nat} {es:List (List FV)} (ex:s.ev x=.eptr sz es j o):yV c w0 J s a ⟨dst,.fieldAddr T x i,ty,pos,after,g⟩ w (.eptr sz es j (o+off)) []:=by
 obtain ⟨b,off',us,hv,hI,he,ho,hA,hr⟩:=h.ev_eptr ex;refine .rd h (zfY hT hf hft hsz x hv) ?_ rfl;have:=Rd.eptr (w:=w) (I:=Imm J w β s) b off' sz es j (o+off) us hI he ho hA hr.1 hr.2;rwa [show off'+(j * sz+(o+off))=off'+(j * sz+o)+off by omega] at this
theorem zfZ {T e:Nat} (hT:(c.ty T).k=.slice e) (he:(c.ty e).k≠.other) (x y:Operand) {b o m cc:Nat} {k:IntKind} {n:Int} (ex:a.eval x=.slice (some ⟨b,o,none⟩) m cc) (ey:a.eval y=.int k n) (h0:0≤n) (h1:n<m) :
  (execOp a.eval ⟨dst,.indexAddr T x y,ty,pos,after,g⟩).run c.P w=.ok (.value (.pointer (some ⟨b,o+n.toNat * (c.ty e).size,none⟩))) w:=by
 obtain ⟨d,ii,z,ht⟩:=c.get hT zc;have hd:=ht.k;rw [hT] at hd;obtain rfl:=yB hd;have hs:=yZ (c:=c) he w;simp [execOp,Instr.indexAt,run_underlying ht.u,ex,ey,asIntOf,hs,h0,h1,yP]
theorem zaZ (h:FR c.N w0 J s a w β) {T e:Nat} (hT:(c.ty T).k=.slice e) (he:(c.ty e).k≠.other) (x y:Operand) {sz:Nat} {es:List (List FV)} {k:IntKind} {n:Nat} (ex:s.ev x=.list sz es) (hsz:(c.ty e).size=sz)
  (ey:s.ev y=.int k n) (h1:n<es.length):yV c w0 J s a ⟨dst,.indexAddr T x y,ty,pos,after,g⟩ w (.eptr sz es n 0) []:=by
 have hr:=h.ev_rd ex rfl;generalize hx:a.eval x=v at hr;cases hr with
 | list A m cc sz es us hn hc hw ho hA hl hr =>
  subst hn;obtain ⟨b,off,rfl,hI,hcell⟩:=hA za;refine .rd h (zfZ hT he x y hx (h.ev_int ey) za za) ?_ rfl;have:=Rd.eptr (w:=w) (I:=Imm J w β s) b off sz es n 0 us hI hw ho hcell hl hr;rw [hsz];simpa using this
theorem zb4 (h:FR c.N w0 J s a w β) {T e:Nat} (hT:(c.ty T).k=.slice e) (he:(c.ty e).k≠.other) (x y:Operand) {id ver o m:Nat} {k:IntKind} {n:Nat} (ex:s.ev x=.own id ver o m) (hl:s.live id ver) (hsz:(c.ty e).size=(s.ob id).sz)
  (ey:s.ev y=.int k n) (h1:n<m):yV c w0 J s a ⟨dst,.indexAddr T x y,ty,pos,after,g⟩ w (.ptr id ver (o+n) 0) []:=by
 have hrow:=(h.ev_own ex hl.1 hl.2).row;obtain ⟨A,cc,e1,e2,e3,e4,e5⟩:=(h.ev_own ex hl.1 hl.2).ex;cases hb:β id with
 | none => have := (e4 hb).2; omega
 | some b =>
  obtain ⟨o',rfl,k2,k3⟩:=e5 b hb;have ho':=k2 (.inl za);subst ho';refine .pure h (zfZ hT he x y e1 (h.ev_int ey) za za) (fun _ _=>⟨hrow,b,hb,?_⟩) (fun id' ver' e=>h.evers x (by rw [ex];exact e));rw [hsz];simp [Nat.add_mul]
theorem zc7 {T n e:Nat} (hT:(c.ty T).k=.arr n e) (he:(c.ty e).k≠.other) (x y:Operand) {b o:Nat} {k:IntKind} {i:Int} (ex:a.eval x=.pointer (some ⟨b,o,none⟩)) (ey:a.eval y=.int k i) (h0:0≤i) (h1:i<n) :
  (execOp a.eval ⟨dst,.indexAddr T x y,ty,pos,after,g⟩).run c.P w=.ok (.value (.pointer (some ⟨b,o+i.toNat * (c.ty e).size,none⟩))) w:=by
 obtain ⟨d,ii,z,ht⟩:=c.get hT zc;have hd:=ht.k;rw [hT] at hd;obtain rfl:=zdJ hd;have hs:=yZ (c:=c) he w;simp [execOp,Instr.indexAt,run_underlying ht.u,ex,ey,asIntOf,hs,h0,h1,yP,Instr.sureAddr]
theorem zaY (h:FR c.N w0 J s a w β) {T m e:Nat} (hT:(c.ty T).k=.arr m e) (he:(c.ty e).k≠.other) (x y:Operand) {id ver j o:Nat} {k:IntKind} {n:Nat} (ex:s.ev x=.ptr id ver j o) (hl:s.live id ver)
  (ey:s.ev y=.int k n) (h1:n<m):yV c w0 J s a ⟨dst,.indexAddr T x y,ty,pos,after,g⟩ w (.ptr id ver j (o+n * (c.ty e).size)) []:=by
 obtain ⟨hrow,b,hb,hv⟩:=h.ev_ptr ex hl.1 hl.2;refine .pure h (zc7 hT he x y hv (h.ev_int ey) za za) (fun _ _=>⟨hrow,b,hb,by simp [Nat.add_assoc]⟩) (fun id' ver' e=>h.evers x (by rw [ex];exact e))
theorem UU (h:FR c.N w0 J s a w β) {T m e:Nat} (hT:(c.ty T).k=.arr m e) (he:(c.ty e).k≠.other) (x y:Operand) {sz j o:Nat} {es:List (List FV)} {k:IntKind} {n:Nat} (ex:s.ev x=.eptr sz es j o)
  (ey:s.ev y=.int k n) (h1:n<m):yV c w0 J s a ⟨dst,.indexAddr T x y,ty,pos,after,g⟩ w (.eptr sz es j (o+n * (c.ty e).size)) []:=by
 obtain ⟨b,off',us,hv,hI,hw,ho,hA,hr⟩:=h.ev_eptr ex;refine .rd h (zc7 hT he x y hv (h.ev_int ey) za za) ?_ rfl;have:=Rd.eptr (w:=w) (I:=Imm J w β s) b off' sz es j (o+n * (c.ty e).size) us hI hw ho hA hr.1 hr.2;simp only [Int.toNat_natCast];rwa [show off'+(j * sz+(o+n * (c.ty e).size))=off'+(j * sz+o)+n * (c.ty e).size by omega] at this
theorem XA {α:Type} {sz:Nat}:∀ (es:List (List α)),(∀ e∈es,e.length=sz)→∀ (i o:Nat),i<es.length→o≤sz→es.flatten.drop (i * sz+o)=(es.getD i []).drop o++(es.drop (i+1)).flatten
 | [], _, i, _, hi, _ => by simp at hi
 | e :: es, he, 0, o, _, ho => by
  have h1:=he e zc;simp only [Nat.zero_mul,Nat.zero_add,List.flatten_cons,List.getD_cons_zero,List.drop_one,List.tail_cons];rw [List.drop_append,h1,Nat.sub_eq_zero_of_le ho,List.drop_zero]
 | e :: es, he, i+1, o, hi, ho => by
  have h1:=he e zc;have ih:=XA es (fun x hx=>he x (by simp [hx])) i o (by simpa using hi) ho;rw [show (i+1) * sz+o=sz+(i * sz+o) by rw [Nat.add_mul];omega,List.flatten_cons,← List.drop_drop,← h1,List.drop_left,h1,ih];simp
theorem yw {α:Type} {sz:Nat} {es:List (List α)} (he:∀ e∈es,e.length=sz):es.flatten.length=es.length * sz:=by
 induction es with
 | nil => simp
 | cons e es ih => rw [List.flatten_cons, List.length_append, ih (fun x hx => he x (by simp [hx])), he e zc, List.length_cons, Nat.add_mul]; omega
theorem zaf {α:Type} {sz:Nat} {es:List (List α)} (he:∀ e∈es,e.length=sz) {i:Nat} (hi:i<es.length):(es.getD i []).length=sz:=by
 rw [List.getD_eq_getElem?_getD,List.getElem?_eq_getElem hi];exact he _ (List.getElem_mem hi)
theorem XF {ts:TS} {cs ds:List FV} (h:ts.size≤cs.length) (h1:cs≠[]):Yj ts (cs++ds)=Yj ts cs:=by
 unfold Yj;split
 ·rw [List.take_append_of_le_length h]
 ·cases cs with
  | nil => exact absurd rfl h1
  | cons x xs => rfl
theorem zb5 (h:FR c.N w0 J s a w β) {T:Nat} {bb:Bool} (hk:(c.ty T).k.agg? = some bb) (x:Operand) {sz j o:Nat} {es:List (List FV)} (ex:s.ev x=.eptr sz es j o) (hj:j<es.length) (ho:o+(c.ty T).size≤sz) (ho' : o<sz) :
  yV c w0 J s a ⟨dst,.load T x,ty,pos,after,g⟩ w (Yj (c.ty T) ((es.getD j []).drop o)) []:=by
 obtain ⟨b,off',us,hv,hI,hw,hone,hA,hr⟩:=h.ev_eptr ex;have hd:=hr.drop (j * sz+o);rw [XA es hw j o hj za] at hd;have hlen:((es.getD j []).drop o).length=sz - o:=by rw [List.length_drop,zaf hw hj]
 have hul:=hd.1;rw [List.length_append,hlen] at hul;obtain ⟨v,r1,r2⟩:=WW hk w b (off'+(j * sz+o)) (us.drop (j * sz+o)) za (fun _=>by omega) (fun i u hu=>by
  rw [List.getElem?_drop] at hu;have:=hA _ u hu;rwa [show off'+(j * sz+o)+i=off'+(j * sz+o+i) by omega]) hd
 rw [XF za (fun e=>by rw [e] at hlen;simp at hlen;omega)] at r2;have hnh:(Yj (c.ty T) ((es.getD j []).drop o)).hand=none:=by
  unfold Yj;split
  ·rfl
  ·have hm:((es.getD j []).drop o).headD .undef∈es.flatten:=by
    cases hcs:(es.getD j []).drop o with
    | nil => rw [hcs] at hlen; simp at hlen; omega
    | cons y ys =>
     have hy:y∈es.getD j []:=List.mem_of_mem_drop (i:=o) (by rw [hcs];simp);rw [List.getD_eq_getElem?_getD,List.getElem?_eq_getElem hj] at hy;exact List.mem_flatten.2 ⟨es[j],List.getElem_mem hj,hy⟩
   have:=hone _ hm;generalize ((es.getD j []).drop o).headD .undef=f at this;cases f <;> first|rfl|(simp [FV.one] at this)
 exact .rd h (by simp [execOp,Instr.loadAt,hv,Instr.sureAddr,r1]) r2 hnh
theorem FR.block (h:FR c.N w0 J s a w β) {id:Nat} (hl:(s.ob id).life≠.dead) (hrl:(s.ob id).life.row=true) {b:Nat} (hb:β id=some b) :
  ∃ cur cap,w.heap[b]? = some (.cells cur (s.ob id).E (0,0))∧(s.ob id).es.length≤cap∧cap≤maxLen∧cur.size=cap * (s.ob id).sz∧
   RdL w (Imm J w β s) (cur.toList.take ((s.ob id).es.length * (s.ob id).sz)) (s.ob id).es.flatten∧w.ownsRow w0.heap.size (s.ob id).E (s.ob id).sz (.slice (some ⟨b,0,none⟩) (s.ob id).es.length cap) (s.ob id).es.length (cur.toList.take ((s.ob id).es.length * (s.ob id).sz)):=by
 obtain ⟨v,us,r1,r2,r3⟩:=((h.obj id hl).rowR hrl).row;have r1':=r1;rcases r1.2 with ⟨rfl,_⟩|⟨g',cap,cur,rfl,_,hgg,hn,hm,hcs,htk⟩
 ·rw [← r2] at hb;simp [Value.ownBlock] at hb
 ·have hgb:g'=b:=by rw [← r2] at hb;simpa [Value.ownBlock] using hb
  subst hgb;subst htk;exact ⟨cur,cap,hgg,hn,hm,hcs,r3,r1'⟩
theorem Vo (h:FR c.N w0 J s a w β) {T:Nat} {bb:Bool} (hk:(c.ty T).k.agg? = some bb) (x:Operand) {id ver j o:Nat} (ex:s.ev x=.ptr id ver j o) (hl:s.live id ver) (hrl:(s.ob id).life.row=true) (hj:j<(s.ob id).es.length) (ho:o+(c.ty T).size≤(s.ob id).sz) (ho' : o<(s.ob id).sz) :
  yV c w0 J s a ⟨dst,.load T x,ty,pos,after,g⟩ w (Yj (c.ty T) (((s.ob id).es.getD j []).drop o)) []:=by
 obtain ⟨_,b,hb,hv⟩:=h.ev_ptr ex hl.1 hl.2;obtain ⟨cur,cap,hblk,hn,hm,hcs,hr,hrow⟩:=h.block hl.1 hrl hb;have hw:=((h.obj id hl.1).rowR hrl).wide;have hone:=((h.obj id hl.1).rowR hrl).one;generalize (s.ob id).es=es at hj hn hr hrow hw hone ⊢;generalize (s.ob id).sz=sz at ho ho' hcs hr hrow hw hv ⊢;have hd:=hr.drop (j * sz+o);rw [XA es hw j o hj za] at hd;have hlen:((es.getD j []).drop o).length=sz - o:=by rw [List.length_drop,zaf hw hj]
 have hul:=hd.1;rw [List.length_append,hlen] at hul;obtain ⟨v,r1,r2⟩:=WW hk w b (j * sz+o) ((cur.toList.take (es.length * sz)).drop (j * sz+o)) za (fun _=>by omega) (fun i u hu=>by
  rw [List.getElem?_drop,List.getElem?_take] at hu;rw [cell_of_row w b _ cur (s.ob id).E (0,0) hblk];split at hu
  ·simpa using hu
  ·cases hu) hd
 rw [XF za (fun e=>by rw [e] at hlen;simp at hlen;omega)] at r2;have hnh:(Yj (c.ty T) ((es.getD j []).drop o)).hand=none:=by
  unfold Yj;split
  ·rfl
  ·have hm:((es.getD j []).drop o).headD .undef∈es.flatten:=by
    cases hcs:(es.getD j []).drop o with
    | nil => rw [hcs] at hlen; simp at hlen; omega
    | cons y ys =>
     have hy:y∈es.getD j []:=List.mem_of_mem_drop (i:=o) (by rw [hcs];simp);rw [List.getD_eq_getElem?_getD,List.getElem?_eq_getElem hj] at hy;exact List.mem_flatten.2 ⟨es[j],List.getElem_mem hj,hy⟩
   have:=hone _ hm;generalize ((es.getD j []).drop o).headD .undef=f at this;cases f <;> first|rfl|(simp [FV.one] at this)
 exact .rd h (by simp [execOp,Instr.loadAt,hv,Instr.sureAddr,r1]) r2 hnh
end
def splice {α:Type} (cs:List α) (o:Nat) (ds:List α):List α:=cs.take o++ds++cs.drop (o+ds.length)
theorem yC {α:Type} {cs ds:List α} {o:Nat} (h:o+ds.length≤cs.length):(splice cs o ds).length=cs.length:=by
 unfold splice;simp;omega
theorem RdL.splice {w:World} {I:Nat→Prop} {us vs:List Value} {fs gs:List FV} (h:RdL w I us fs) (k:RdL w I vs gs) (o:Nat):RdL w I (splice us o vs) (splice fs o gs):=by
 unfold Ytmnmakhpjgjdaaa.splice;rw [k.1];exact ((h.take o).append k).append (h.drop _)
theorem zaR {α:Type} {sz:Nat}:∀ (es:List (List α)),(∀ e∈es,e.length=sz)→∀ (i o:Nat) (ds:List α),i<es.length→o+ds.length≤sz→
  (es.set i (splice (es.getD i []) o ds)).flatten=splice es.flatten (i * sz+o) ds
 | [], _, i, _, _, hi, _ => by simp at hi
 | e :: es, he, 0, o, ds, _, ho => by
  have h1:=he e zc;simp only [List.set_cons_zero,List.getD_cons_zero,List.flatten_cons,Nat.zero_mul,Nat.zero_add];unfold splice;rw [List.take_append_of_le_length za,List.drop_append_of_le_length za];simp [List.append_assoc]
 | e :: es, he, i+1, o, ds, hi, ho => by
  have h1:=he e zc;have ih:=zaR es (fun x hx=>he x (by simp [hx])) i o ds (by simpa using hi) ho;simp only [List.set_cons_succ,List.getD_cons_succ,List.flatten_cons];rw [ih];unfold splice;have e1:(i+1) * sz+o=e.length+(i * sz+o):=by rw [Nat.add_mul,h1];omega
  rw [e1,List.take_length_add_append,show e.length+(i * sz+o)+ds.length=e.length+(i * sz+o+ds.length) by omega,List.drop_length_add_append];simp [List.append_assoc]
theorem znb {α:Type} {sz:Nat} {es:List (List α)} (he:∀ e∈es,e.length=sz) {i o:Nat} {ds:List α} (hi:i<es.length) (ho:o+ds.length≤sz):∀ e∈es.set i (splice (es.getD i []) o ds),e.length=sz:=by
 intro e hm;rcases List.mem_or_eq_of_mem_set hm with h|h
 ·exact he e h
 ·subst h;have:=zaf he hi;rw [yC za,this]
theorem YE {α:Type} {cs ds:List α} {o:Nat} {x:α} (h:x∈splice cs o ds):x∈cs∨x∈ds:=by
 unfold splice at h;simp only [List.mem_append] at h;rcases h with (h|h)|h
 ·exact .inl (List.mem_of_mem_take h)
 ·exact .inr h
 ·exact .inl (List.mem_of_mem_drop h)
section
variable {c:Ctx} {w0 w:World} {J:JJ} {s:FSt} {a:Act} {β:Nat→Option Nat} {dst:Option Nat} {ty:TypeId} {pos:String} {after:Array Edge} {g:Option (Nat×Bool)}
theorem yW (w:World) (g k:Nat) (cs:Array Value) (h:k≠g):(w.setRow g cs).heap[k]? = w.heap[k]?:=by
 simp only [World.setRow,Array.getElem?_modify];rw [if_neg (fun e=>h e.symm)]
theorem yJ (w:World) (g:Nat) (cs cur:Array Value) (E:TypeId) (h:w.heap[g]? = some (.cells cur E (0,0))):(w.setRow g cs).heap[g]? = some (.cells cs E (0,0)):=by
 simp [World.setRow,Array.getElem?_modify,h]
theorem ziO (h:FR c.N w0 J s a w β) {T:Nat} (hk:(c.ty T).k≠.other) (x y:Operand) {id ver j o:Nat} (ex:s.ev x=.ptr id ver j o) (hl:(s.ob id).life=.own) (hv:(s.ob id).ver=ver) {f:FV} (ey:s.ev y=f)
  (hf:f.cells.all FV.one=true) (hfl:f.cells.length=(c.ty T).size) (hj:j<(s.ob id).es.length) (ho:o+(c.ty T).size≤(s.ob id).sz) :
  ∃ w',(execOp a.eval ⟨dst,.store T x y,ty,pos,after,g⟩).run c.P w=.ok .skip w'∧
   FR c.N w0 J (s.wr [(id,{ s.ob id with es:=(s.ob id).es.set j (splice ((s.ob id).es.getD j []) o f.cells) })]) a w' β:=by
 have hlive:(s.ob id).life≠.dead:=by rw [hl];decide
 have hrl:(s.ob id).life.row=true:=by rw [hl];rfl
 obtain ⟨_,b,hb,hvx⟩:=h.ev_ptr ex hlive hv;obtain ⟨cur,cap,hblk,hn,hm,hcs,hr,hrow⟩:=h.block hlive hrl hb;have hw:=((h.obj id hlive).rowR hrl).wide;have hone:=((h.obj id hlive).rowR hrl).one;have hrd:=h.ev_rd ey (Rd.nohand hf);obtain ⟨hc1,hc2⟩:=hrd.cells hf;generalize hy:a.eval y=v at hc1 hc2;generalize hes:(s.ob id).es=es at hj hn hr hrow hw hone ⊢;generalize hsz:(s.ob id).sz=sz at ho hcs hr hrow hw hvx ⊢;have hvl:v.cells.toList.length=(c.ty T).size:=by rw [hc1.1,hfl]
 have hle:j * sz+sz≤es.length * sz:=by
  have:(j+1) * sz≤es.length * sz:=Nat.mul_le_mul_right sz za;rw [Nat.add_mul] at this;omega
 have hle2:es.length * sz≤cap * sz:=Nat.mul_le_mul_right sz hn;have hst:=run_storeCells_at c.P b (j * sz+o) (s.ob id).E v.cells.toList 0 cur w hblk za hc2;simp only [Nat.add_zero] at hst;have hcl:cur.toList.length=cap * sz:=by simpa using hcs
 have hvl2:v.cells.toList.length=f.cells.length:=hc1.1;have htl:(cur.toList.take (es.length * sz)).length=es.length * sz:=by rw [List.length_take,hcl];omega
 obtain ⟨W,hW⟩:∃ W,W=w.setRow b (splice cur.toList (j * sz+o) v.cells.toList).toArray:=⟨_,rfl⟩
 have hWb:W.heap[b]? = some (.cells (splice cur.toList (j * sz+o) v.cells.toList).toArray (s.ob id).E (0,0)):=by rw [hW];exact yJ w b _ cur _ hblk
 have hgrown:w.grownBy W (β id):=by
  subst hW;refine ⟨rfl,rfl,rfl,by simp [World.setRow],fun k hk hne=>yW w b k _ (fun e=>hne (by rw [e,hb]))⟩
 have hrow' : W.ownsRow w0.heap.size (s.ob id).E sz (.slice (some ⟨b,0,none⟩) es.length cap) es.length (splice (cur.toList.take (es.length * sz)) (j * sz+o) v.cells.toList):=by
  refine ⟨?_,.inr ⟨b,cap,_,rfl,((h.obj id hlive).lt hb).1,hWb,hn,hm,?_,?_⟩⟩
  ·rw [yC za,htl]
  ·simp only [List.size_toArray];rw [yC za,hcl]
  ·have key:∀ (L p:Nat) (cs ds:List Value),p+ds.length≤L→L≤cs.length→(splice cs p ds).take L=splice (cs.take L) p ds:=by
    intro L p cs ds h1 h2;unfold splice;rw [List.append_assoc,List.append_assoc,List.take_append,List.length_take,Nat.min_eq_left za,List.take_append,List.take_take,List.take_take,Nat.min_eq_right za,Nat.min_eq_left za,List.take_of_length_le (by omega:ds.length≤L - p),List.drop_take];congr 3;omega
   exact key _ _ _ _ za za
 have hone' : ∀ f'∈(es.set j (splice (es.getD j []) o f.cells)).flatten,f'.one=true:=by
  intro f' hf';obtain ⟨e,he,hfe⟩:=List.mem_flatten.1 hf';rcases List.mem_or_eq_of_mem_set he with h'|h'
  ·exact hone f' (List.mem_flatten.2 ⟨e,h',hfe⟩)
  ·subst h';rcases YE hfe with h'|h'
   ·rw [List.getD_eq_getElem?_getD,List.getElem?_eq_getElem hj] at h';exact hone f' (List.mem_flatten.2 ⟨_,List.getElem_mem hj,h'⟩)
   ·exact List.all_eq_true.1 hf f' h'
 refine ⟨W,?_,?_⟩
 ·have hs:=yZ (c:=c) hk w;have hsz' : v.cells.size=(c.ty T).size:=by simpa using hvl
  have hst' : (storeCells ⟨b,j * sz+o,none⟩ v.cells.toList).run c.P w=.ok () W:=by rw [hW];exact hst
  simp [execOp,Instr.storeAt,storeVar,hvx,hy,Instr.sureAddr,hs,hsz',hst']
 ·refine h.write id (es:=es.set j (splice (es.getD j []) o f.cells)) (v:=.slice (some ⟨b,0,none⟩) es.length cap) (xs:=splice (cur.toList.take (es.length * sz)) (j * sz+o) v.cells.toList) hl hgrown ?_ hone' ?_ hb.symm ?_ ?_ ?_ (fun k=>?_) (fun k=>rfl)
  ·rw [hsz];exact znb hw hj za
  ·rw [hsz,List.length_set];exact hrow'
  ·rw [zaR es hw j o f.cells hj za];exact hr.splice hc1 _
  ·rw [hes,List.length_set]
  ·intro b' cur1 cur2 hb' h1 h2;rw [hb] at hb';injection hb' with hb'
   subst hb';rw [hblk] at h1;injection h1 with h1
   injection h1 with h1 _ _
   subst h1;rw [hWb] at h2;injection h2 with h2
   injection h2 with h2 _ _
   rw [← h2];simp only [List.size_toArray];rw [yC za,hcl,hcs]
  ·exact FSt.ob_set s id _ k
end
theorem Wv.of_row {w:World} {base E sz n:Nat} {v:Value} {xs:List Value} {ob:zq} (h:w.ownsRow base E sz v n xs) (hn:ob.es.length=n) (hE:ob.E=E) (hs:ob.sz=sz) (hrl:ob.life.slic=true):Wv w v.ownBlock ob v 0 n:=by
 rcases h.2 with ⟨rfl,rfl⟩|⟨g,cap,cur,rfl,_,hgg,h1,h2,h3,_⟩
 ·exact ⟨hrl,none,0,rfl,Nat.le_refl _,by omega,fun _=>⟨rfl,rfl⟩,fun b hb=>by simp [Value.ownBlock] at hb⟩
 ·refine ⟨hrl,some ⟨g,0,none⟩,cap,rfl,h1,by omega,fun hb=>by simp [Value.ownBlock] at hb,fun b hb=>?_⟩;obtain rfl:g=b:=by simpa [Value.ownBlock] using hb
  refine ⟨0,rfl,fun _=>by simp,fun cur' hc=>?_⟩;rw [hE,hgg] at hc;injection hc with hc
  injection hc with hc _ _
  rw [← hc,hs];simpa using h3
section
variable {c:Ctx} {w0 w:World} {J:JJ} {s:FSt} {a:Act} {β:Nat→Option Nat} {ty:TypeId} {pos:String} {after:Array Edge} {g:Option (Nat×Bool)}
theorem ZS (w:World) (o:Obj):Below w.heap.size w (w.alloc o):=(Below.refl _ _).alloc (Nat.le_refl _) o
theorem FR.newRow (h:FR c.N w0 J s a w β) (d E sz:Nat) (es:List (List FV)) (cur:Array Value) (hw:∀ e∈es,e.length=sz) (ho:∀ f∈es.flatten,f.one=true) (hr:RdL w (Imm J w β s) cur.toList es.flatten) (hm:es.length≤maxLen) :
  FR c.N w0 J (s.set d ⟨(s.ob d).ver+1,.own,E,sz,es⟩) a (w.alloc (.cells cur E)) (XV β d (some w.heap.size))∧
   (w.alloc (.cells cur E)).ownsRow w0.heap.size E sz (.slice (some ⟨w.heap.size,0,none⟩) es.length es.length) es.length cur.toList:=by
 have hlen:cur.size=es.length * sz:=by have:=hr.1;rw [yw hw] at this;simpa using this
 have hrow:(w.alloc (.cells cur E)).ownsRow w0.heap.size E sz (.slice (some ⟨w.heap.size,0,none⟩) es.length es.length) es.length cur.toList:=
  ⟨by simpa using hlen,.inr ⟨w.heap.size,es.length,cur,rfl,h.bel.size,heap_alloc_new w _,Nat.le_refl _,hm,hlen,by rw [List.take_of_length_le (by simp [hlen])]⟩⟩
 refine ⟨h.make none d (v:=.slice (some ⟨w.heap.size,0,none⟩) es.length es.length) (fun k e=>by cases e) (World.grownBy_alloc w _ _) hw ho hrow hr (.inr (.inr ⟨_,rfl,Nat.le_refl _⟩)) (fun k=>?_) (fun k=>rfl),hrow⟩;rw [FSt.ob_set];split
 ·rfl
 ·simp
theorem yb (β:Nat→Option Nat) (j:Nat) (x:Option Nat):XV β j x j=x:=by simp [XV]
theorem za1 (h:FR c.N w0 J s a w β) {o:Oper} (d E:Nat) (f:FV) (cur:Array Value) (hf:f.cells.all FV.one=true) (hr:RdL w (Imm J w β s) cur.toList f.cells)
  (hrun:(execOp a.eval o).run c.P w=.ok (.value (.pointer (some ⟨w.heap.size,0,none⟩))) (w.alloc (.cells cur E))) :
  yV c w0 J s a o w (.ptr d ((s.ob d).ver+1) 0 0) [(d,⟨(s.ob d).ver+1,.own,E,f.cells.length,[f.cells]⟩)]:=by
 obtain ⟨h1,_⟩:=h.newRow d E f.cells.length [f.cells] cur zc (by simpa using hf) (by simpa using hr) (by simp [maxLen]);refine ⟨_,_,_,hrun,h1,fun _ _=>⟨by rw [show (s.wr [(d,(⟨(s.ob d).ver+1,.own,E,f.cells.length,[f.cells]⟩:zq))]).ob d=⟨(s.ob d).ver+1,.own,E,f.cells.length,[f.cells]⟩ from (FSt.ob_set s d _ d).trans (if_pos rfl)];rfl,w.heap.size,yb _ _ _,by simp⟩,fun id ver e=>?_⟩;simp only [FV.hands,List.mem_singleton,Prod.mk.injEq] at e;obtain ⟨e1,e2⟩:=e;replace e1:=e1.symm;replace e2:=e2.symm;subst e1;subst e2;show _≤(FSt.ob (FSt.set s d _) d).ver;rw [FSt.ob_set,if_pos rfl];exact Nat.le_refl _
theorem ziF (h:FR c.N w0 J s a w β) (d:Nat) {T:Nat} (hk:(c.ty T).k≠.other) (hz:(c.ty T).zero.all FV.one=true) :
  yV c w0 J s a ⟨some d,.alloc T,ty,pos,after,g⟩ w (.ptr d ((s.ob d).ver+1) 0 0) [(d,⟨(s.ob d).ver+1,.own,T,(c.ty T).zero.length,[(c.ty T).zero]⟩)]:=by
 obtain ⟨z,h1,h2,h3⟩:=xT hk w;refine za1 h d T (.agg (c.ty T).zero) z.cells hz (RdL.zeros h2) ?_;simp [execOp,Instr.alloc,h1,newVar,newRow]
theorem zmG (h:FR c.N w0 J s a w β) (d:Nat) {T:Nat} (x:Operand) {f:FV} (ex:s.ev x=f) (hf:f.cells.all FV.one=true) :
  yV c w0 J s a ⟨some d,.box T x,ty,pos,after,g⟩ w (.ptr d ((s.ob d).ver+1) 0 0) [(d,⟨(s.ob d).ver+1,.own,T,f.cells.length,[f.cells]⟩)]:=by
 obtain ⟨h1,h2⟩:=(h.ev_rd ex (Rd.nohand hf)).cells hf;refine za1 h d T f (a.eval x).cells hf h1 ?_;simp [execOp,Instr.box,newVar,newRow]
def ZU (place:Nat→Option (Nat×Nat)):List FV→List (Nat×FV)→Option (List FV)
 | cs, [] => some cs
 | cs, (i, f) :: rest =>
  match place i with
  | none => none
  | some (off, size) => if f.cells.all FV.one=true ∧ f.cells.length=size ∧ off+size ≤ cs.length then ZU place (splice cs off f.cells) rest else none
theorem zeV:∀ (vs:List Value) (k off:Nat) (A:Array Value),off+k+vs.length≤A.size→(List.foldl (fun (cs:Array Value) (p:Value×Nat)=>cs.setIfInBounds (off+p.2) p.1) A (vs.zipIdx k)).toList=splice A.toList (off+k) vs
 | [], k, off, A, _ => by simp [splice]
 | v :: vs, k, off, A, h => by
  have h' : off+k<A.size:=by simp at h;omega
  rw [List.zipIdx_cons,List.foldl_cons,zeV vs (k+1) off _ (by simp at h ⊢;omega)];unfold splice;simp only [Array.toList_setIfInBounds,List.length_cons];rw [show off+(k+1)=off+k+1 by omega,List.take_succ_eq_append_getElem (by simpa using h'),List.take_set,List.getElem_set_self,List.set_eq_of_length_le zx,List.drop_set_of_lt za];simp [Nat.add_comm,Nat.add_left_comm]
theorem zhB {w:World} {I:Nat→Prop} (place:Nat→Option (Nat×Nat)):∀ (ps:List (Nat×FV)) (vs:List (Nat×Value)) (A:Array Value) (cs cs' : List FV),RdL w I A.toList cs→vs.length=ps.length→
  (∀ (j:Nat) v p,vs[j]? = some v→ps[j]? = some p→v.1=p.1∧Rd w I v.2 p.2)→ZU place cs ps=some cs'→∃ A',Instr.fill place A vs=some A'∧RdL w I A'.toList cs'
 | [], [], A, cs, cs', hA, _, _, h => by
  simp only [ZU,Option.some.injEq] at h;subst h;exact ⟨A,rfl,hA⟩
 | [], _ :: _, _, _, _, _, hl, _, _ => by simp at hl
 | _ :: _, [], _, _, _, _, hl, _, _ => by simp at hl
 | (i,f)::ps,(i',v)::vs,A,cs,cs',hA,hl,hp,h=>by
  obtain ⟨e1,e2⟩:=hp 0 _ _ rfl rfl;dsimp only at e1 e2;subst e1;unfold ZU at h;cases hpl:place i' with
  | none => rw [hpl] at h; cases h
  | some q=>
   obtain ⟨off,size⟩:=q;rw [hpl] at h;dsimp only at h;split at h
   ·rename_i hc;obtain ⟨c1,c2,c3⟩:=hc;obtain ⟨k1,k2⟩:=e2.cells c1;have hvs:v.cells.size=size:=by have:=k1.1;rw [c2] at this;simpa using this
    have hAs:A.size=cs.length:=by have:=hA.1;simpa using this
    have hz:A.size=A.toList.length:=by simp
    have hfold:(v.cells.zipIdx.foldl (fun cs (c,j)=>cs.setIfInBounds (off+j) c) A).toList=splice A.toList off v.cells.toList:=by
     have:=zeV v.cells.toList 0 off A zx;rw [← Array.foldl_toList];simpa using this
    obtain ⟨A',r1,r2⟩:=zhB place ps vs _ _ _ (by rw [hfold];exact hA.splice k1 off) (by simpa using hl) (fun j v p hv hq=>hp (j+1) v p hv hq) h;refine ⟨A',?_,r2⟩;unfold Instr.fill;simp only [hpl];rw [if_neg (by simp [hvs];omega)];exact r1
   ·cases h
def FSt.parts (s:FSt) (ps:Array (Nat×Operand)):List (Nat×FV):=ps.toList.map fun p=>(p.1,s.ev p.2)
theorem FR.parts (h:FR c.N w0 J s a w β) (ps:Array (Nat×Operand)) {place:Nat→Option (Nat×Nat)} {cs cs' : List FV} {A:Array Value} (hA:RdL w (Imm J w β s) A.toList cs) (hf:ZU place cs (s.parts ps)=some cs') :
  ∃ A',Instr.fill place A (ps.map fun (i,x)=>(i,a.eval x)).toList=some A'∧RdL w (Imm J w β s) A'.toList cs':=by
 have hone:∀ (l:List (Nat×FV)) (cs cs' : List FV),ZU place cs l=some cs'→∀ p∈l,p.2.hand=none:=by
  intro l
  induction l with
  | nil => intro _ _ _ p hp; simp at hp
  | cons q l ih=>
   intro cs cs' hq p hp;obtain ⟨i,f⟩:=q;unfold ZU at hq;cases hpl:place i with
   | none => rw [hpl] at hq; cases hq
   | some z=>
    rw [hpl] at hq;dsimp only at hq;split at hq
    ·rename_i hc;rcases List.mem_cons.1 hp with e|e
     ·subst e;exact Rd.nohand hc.1
     ·exact ih _ _ hq p e
    ·cases hq
 refine zhB place (s.parts ps) _ A cs cs' hA (by simp [FSt.parts]) (fun j v p hv hp=>?_) hf;have hpm:=List.mem_of_getElem? hp;simp only [FSt.parts,List.getElem?_map,Option.map_eq_some_iff] at hp;obtain ⟨q,hq,rfl⟩:=hp;have hv' : (ps.toList.map fun p=>(p.1,a.eval p.2))[j]? = some v:=by simpa using hv
 simp only [List.getElem?_map,hq,Option.map_some,Option.some.injEq] at hv';subst hv';exact ⟨rfl,h.ev_rd rfl (hone _ _ _ hf _ hpm)⟩
theorem ziH (h:FR c.N w0 J s a w β) {dst:Option Nat} {T:Nat} {fs:List (Nat×Nat)} (hT:(c.ty T).k=.strct fs) (hfs:∀ p∈fs,(c.ty p.2).k≠.other) (ps:Array (Nat×Operand)) {cs:List FV}
  (hf:ZU (fun i=>(fs[i]?).map fun p=>(p.1,(c.ty p.2).size)) (c.ty T).zero (s.parts ps)=some cs):yV c w0 J s a ⟨dst,.build T ps,ty,pos,after,g⟩ w (.agg cs) []:=by
 obtain ⟨d,i,z,ht⟩:=c.get hT zc;have hd:=ht.k;rw [hT] at hd;obtain ⟨gs,rfl,hgs,_⟩:=Wh hd;obtain ⟨A',h1,h2⟩:=h.parts ps (A:=z.cells) (RdL.zeros ht.zr) hf;have hp:gs.toList.mapM (fun f=>(c.P.info? f.type).map fun i=>(f.offset,i.size))=some (gs.toList.map fun f=>(f.offset,(c.ty f.type).size)):=by
  have key:∀ (l:List Field),(∀ f∈l,(c.ty f.type).k≠.other)→l.mapM (fun f=>(c.P.info? f.type).map fun i=>(f.offset,i.size))=some (l.map fun f=>(f.offset,(c.ty f.type).size)):=by
   intro l
   induction l with
   | nil => intro _; rfl
   | cons f l ih =>
    intro hl;obtain ⟨d',i',z',ht'⟩:=c.get rfl (hl f zc);simp only [List.mapM_cons,ht'.info,Option.map_some,Option.bind_eq_bind,Option.bind_some,ih (fun f hf=>hl f (by simp [hf])),Option.pure_def,ht'.size,List.map_cons]
  refine key _ (fun f hf=>hfs (f.offset,f.type) ?_);rw [hgs];exact List.mem_map.2 ⟨f,hf,rfl⟩
 have hb:c.P.built T (ps.map fun (i,x)=>(i,a.eval x)).toList=some A':=by
  unfold Program.built;simp only [ht.info,ht.u,ht.zo,hp];rw [← h1];congr 1;funext i;rw [hgs];simp [Function.comp_def]
 refine .rd h (v:=.agg A') (by simp only [execOp,Sem.run_bind,run_build w T _ A' hb,Result.andThen_ok,Sem.run_pure]) ?_ rfl;have:=Rd.agg (w:=w) (I:=Imm J w β s) A'.toList cs h2.1 h2.2;simpa using this
theorem zgz (h:FR c.N w0 J s a w β) {dst:Option Nat} {T n e:Nat} (hT:(c.ty T).k=.arr n e) (he:(c.ty e).k≠.other) (ps:Array (Nat×Operand)) {cs:List FV}
  (hf:ZU (fun i=>some (i * (c.ty e).size,(c.ty e).size)) (c.ty T).zero (s.parts ps)=some cs):yV c w0 J s a ⟨dst,.build T ps,ty,pos,after,g⟩ w (.agg cs) []:=by
 obtain ⟨d,i,z,ht⟩:=c.get hT zc;have hd:=ht.k;rw [hT] at hd;obtain rfl:=zdJ hd;obtain ⟨A',h1,h2⟩:=h.parts ps (A:=z.cells) (RdL.zeros ht.zr) hf;obtain ⟨d',i',z',ht'⟩:=c.get rfl he;have hb:c.P.built T (ps.map fun (i,x)=>(i,a.eval x)).toList=some A':=by
  unfold Program.built;simp only [ht.info,ht.u,ht.zo,ht'.info,ht'.size];exact h1
 refine .rd h (v:=.agg A') (by simp only [execOp,Sem.run_bind,run_build w T _ A' hb,Result.andThen_ok,Sem.run_pure]) ?_ rfl;have:=Rd.agg (w:=w) (I:=Imm J w β s) A'.toList cs h2.1 h2.2;simpa using this
theorem RdL.undefs {w:World} {I:Nat→Prop} (us:List Value):RdL w I us (List.replicate us.length .undef):=by
 refine ⟨by simp,fun j u f hu hf=>?_⟩;rw [List.getElem?_replicate] at hf;split at hf
 ·injection hf with hf;subst hf;exact .undef u
 ·cases hf
theorem Vp (h:FR c.N w0 J s a w β) {o:Oper} (d E sz:Nat) (es:List (List FV)) (cur:Array Value) (hw:∀ e∈es,e.length=sz) (ho:∀ f∈es.flatten,f.one=true) (hr:RdL w (Imm J w β s) cur.toList es.flatten) (hm:es.length≤maxLen)
  (hrun:(execOp a.eval o).run c.P w=.ok (.value (.slice (some ⟨w.heap.size,0,none⟩) es.length es.length)) (w.alloc (.cells cur E))) :
  yV c w0 J s a o w (.own d ((s.ob d).ver+1) 0 es.length) [(d,⟨(s.ob d).ver+1,.own,E,sz,es⟩)]:=by
 obtain ⟨h1,h2⟩:=h.newRow d E sz es cur hw ho hr hm;refine ⟨_,_,_,hrun,h1,fun _ _=>?_,fun id ver e=>?_⟩
 ·show Wv _ (XV β d (some w.heap.size) d) (FSt.ob (FSt.set s d _) d) _ _ _;rw [yb,FSt.ob_set,if_pos rfl];exact Wv.of_row h2 rfl rfl rfl rfl
 ·simp only [FV.hands,List.mem_singleton,Prod.mk.injEq] at e;obtain ⟨e1,e2⟩:=e;replace e1:=e1.symm;replace e2:=e2.symm;subst e1;subst e2;show _≤(FSt.ob (FSt.set s d _) d).ver;rw [FSt.ob_set,if_pos rfl];exact Nat.le_refl _
theorem zaW (h:FR c.N w0 J s a w β) (d:Nat) {T e n:Nat} (hT:(c.ty T).k=.slice e) (he:(c.ty e).k≠.other) (ps:Array (Nat×Operand)) (es:List (List FV)) (hn:es.length=n) (hw:∀ x∈es,x.length=(c.ty e).size) (ho:∀ f∈es.flatten,f.one=true)
  (hcap:n * (c.ty e).size≤16777216) (hnm:n≤16777216)
  (hf:ZU (fun i=>some (i * (c.ty e).size,(c.ty e).size)) (List.replicate (n * (c.ty e).size) .undef) (s.parts ps)=some es.flatten) :
  yV c w0 J s a ⟨some d,.buildSlice T n ps,ty,pos,after,g⟩ w (.own d ((s.ob d).ver+1) 0 n) [(d,⟨(s.ob d).ver+1,.own,e,(c.ty e).size,es⟩)]:=by
 obtain ⟨dd,i,z,ht⟩:=c.get hT zc;have hd:=ht.k;rw [hT] at hd;obtain rfl:=yB hd;have hs:=yZ (c:=c) he w;obtain ⟨zz,hz,_,_⟩:=xT he w;obtain ⟨A0,hA0⟩:∃ A0:Array Value,(if n * (c.ty e).size=0 then (Array.range (n * (c.ty e).size)).map (fun x=>(#[]:Array Value)[x % (#[]:Array Value).size]!) else (Array.range (n * (c.ty e).size)).map (fun x=>zz.cells[x % zz.cells.size]!))=A0:=⟨_,rfl⟩
 have hsz:A0.size=n * (c.ty e).size:=by rw [← hA0];split <;> simp
 have hu:=RdL.undefs (w:=w) (I:=Imm J w β s) A0.toList;rw [Array.length_toList,hsz] at hu;obtain ⟨A',h1,h2⟩:=h.parts ps hu hf;subst hn;refine Vp h d e (c.ty e).size es A' hw ho h2 (by unfold maxLen;omega) ?_;have hcap' : ¬ (16777216<es.length * (c.ty e).size):=by omega
 by_cases h0:es.length * (c.ty e).size=0
 ·rw [if_pos h0] at hA0;simp [execOp,Instr.buildSlice,run_underlying ht.u,hs,h0,newRow] at hA0 h1 ⊢;rw [hA0,h1];simp
 ·rw [if_neg h0] at hA0;simp [execOp,Instr.buildSlice,run_underlying ht.u,hs,hcap',h0,hz,newRow,hA0] at h1 ⊢;rw [h1];simp
theorem zb7 (h:FR c.N w0 J s a w β) {o:Oper} (E sz:Nat) (es:List (List FV)) (cur:Array Value) (hw:∀ e∈es,e.length=sz) (ho:∀ f∈es.flatten,f.one=true) (hr:RdL w (Imm J w β s) cur.toList es.flatten)
  (hrun:(execOp a.eval o).run c.P w=.ok (.value (.slice (some ⟨w.heap.size,0,none⟩) es.length es.length)) (w.alloc (.cells cur E))):yV c w0 J s a o w (.list sz es) []:=by
 have hb:Below w.heap.size w (w.alloc (.cells cur E)):=(Below.refl _ _).alloc (Nat.le_refl _) _;have hG:=h.grow hb;refine ⟨_,_,β,hrun,hG,?_,fun _ _ e=>(FV.no_hands rfl e).elim⟩;refine VR.of_rd (Rd.list (some ⟨w.heap.size,0,none⟩) es.length es.length sz es cur.toList rfl (Nat.le_refl _) hw ho (fun _=>⟨w.heap.size,0,rfl,⟨?_,h.fresh _ h.bel.size (.inl (Nat.le_refl _)),fun id hl e=>?_⟩,fun j u hu=>?_⟩) hr.1 (fun j u f hu hf=>(hr.2 j u f hu hf).mono fun b hbb=>hbb.grow hb)) rfl
 ·show w.heap.size<(w.heap.push _).size;simp
 ·have:=((h.obj id (yf.mine_ne hl)).lt e).2;omega
 ·have hblk:(w.alloc (.cells cur E)).heap[w.heap.size]? = some (.cells cur E (0,0)):=by show (w.heap.push _)[w.heap.size]? = _;simp
  rw [cell_of_row _ w.heap.size _ cur E (0,0) hblk];simpa using hu
theorem UT (h:FR c.N w0 J s a w β) (d:Nat) {T e n:Nat} (hT:(c.ty T).k=.slice e) (he:(c.ty e).k≠.other) (ps:Array (Nat×Operand)) (es:List (List FV)) (hn:es.length=n) (hw:∀ x∈es,x.length=(c.ty e).size) (ho:∀ f∈es.flatten,f.one=true)
  (hcap:n * (c.ty e).size≤16777216) (hnm:n≤16777216)
  (hf:ZU (fun i=>some (i * (c.ty e).size,(c.ty e).size)) (List.replicate (n * (c.ty e).size) .undef) (s.parts ps)=some es.flatten) :
  yV c w0 J s a ⟨some d,.buildSlice T n ps,ty,pos,after,g⟩ w (.list (c.ty e).size es) []:=by
 obtain ⟨dd,i,z,ht⟩:=c.get hT zc;have hd:=ht.k;rw [hT] at hd;obtain rfl:=yB hd;have hs:=yZ (c:=c) he w;obtain ⟨zz,hz,_,_⟩:=xT he w;obtain ⟨A0,hA0⟩:∃ A0:Array Value,(if n * (c.ty e).size=0 then (Array.range (n * (c.ty e).size)).map (fun x=>(#[]:Array Value)[x % (#[]:Array Value).size]!) else (Array.range (n * (c.ty e).size)).map (fun x=>zz.cells[x % zz.cells.size]!))=A0:=⟨_,rfl⟩
 have hsz:A0.size=n * (c.ty e).size:=by rw [← hA0];split <;> simp
 have hu:=RdL.undefs (w:=w) (I:=Imm J w β s) A0.toList;rw [Array.length_toList,hsz] at hu;obtain ⟨A',h1,h2⟩:=h.parts ps hu hf;subst hn;refine zb7 h e (c.ty e).size es A' hw ho h2 ?_;have hcap' : ¬ (16777216<es.length * (c.ty e).size):=by omega
 by_cases h0:es.length * (c.ty e).size=0
 ·rw [if_pos h0] at hA0;simp [execOp,Instr.buildSlice,run_underlying ht.u,hs,h0,newRow] at hA0 h1 ⊢;rw [hA0,h1];simp
 ·rw [if_neg h0] at hA0;simp [execOp,Instr.buildSlice,run_underlying ht.u,hs,hcap',h0,hz,newRow,hA0] at h1 ⊢;rw [h1];simp
theorem Zm {α:Type} {sz:Nat}:∀ (es:List (List α)),(∀ e∈es,e.length=sz)→∀ k,(es.take k).flatten=es.flatten.take (k * sz)
 | [], _, k => by simp
 | e :: es, he, 0 => by simp
 | e :: es, he, k+1 => by
  have h1:=he e zc;rw [List.take_succ_cons,List.flatten_cons,List.flatten_cons,Zm es (fun x hx=>he x (by simp [hx])) k,Nat.add_mul,Nat.one_mul,Nat.add_comm,← h1,List.take_length_add_append]
theorem xI {α:Type} {sz:Nat}:∀ (es:List (List α)),(∀ e∈es,e.length=sz)→∀ k,(es.drop k).flatten=es.flatten.drop (k * sz)
 | [], _, k => by simp
 | e :: es, he, 0 => by simp
 | e :: es, he, k+1 => by
  have h1:=he e zc;rw [List.drop_succ_cons,List.flatten_cons,xI es (fun x hx=>he x (by simp [hx])) k,Nat.add_mul,Nat.one_mul,Nat.add_comm,← h1,List.drop_length_add_append]
theorem zb6 (h:FR c.N w0 J s a w β) (d:Nat) {T e n:Nat} (hT:(c.ty T).k=.slice e) (he:(c.ty e).k≠.other) (x y:Operand) {k1 k2:IntKind} (ex:s.ev x=.int k1 n) (ey:s.ev y=.int k2 n) (ho:(c.ty e).zero.all FV.one=true)
  (hb:(c.ty e).bytes * n≤281474976710656) (hn:n≤281474976710656) :
  yV c w0 J s a ⟨some d,.makeSlice T x y,ty,pos,after,g⟩ w (.own d ((s.ob d).ver+1) 0 n) [(d,⟨(s.ob d).ver+1,.own,e,(c.ty e).size,List.replicate n (c.ty e).zero⟩)]:=by
 obtain ⟨dd,i,z,ht⟩:=c.get hT zc;have hd:=ht.k;rw [hT] at hd;obtain rfl:=yB hd;obtain ⟨d',i',z',ht'⟩:=c.get rfl he;have hbi:(i'.bytes:Int) * (n:Int)≤281474976710656:=by
  have:((i'.bytes * n:Nat):Int)≤281474976710656:=by rw [ht'.bytes];omega
  rwa [Int.natCast_mul] at this
 have hr:=run_make (P:=c.P) w T e i' z' ht.u ht'.info ht'.zo k1 k2 n n za (Int.le_refl _) hbi za;simp only [Int.toNat_natCast] at hr;have hzl:=(RdL.zeros (w:=w) (I:=Imm J w β s) ht'.zr)
 have hzn:z'.cells.size=(c.ty e).size:=by have:=hzl.1;rw [ht'.zl] at this;simpa using this
 have hlen:(List.replicate n (c.ty e).zero).length=n:=by simp
 have hg:=Vp h (o:=⟨some d,.makeSlice T x y,ty,pos,after,g⟩) d e (c.ty e).size (List.replicate n (c.ty e).zero) (madeCells z'.cells (n * i'.size)) (fun x hx=>by rw [List.eq_of_mem_replicate hx,ht'.zl]) (fun f hf=>by
   obtain ⟨q,hq,hfq⟩:=List.mem_flatten.1 hf;rw [List.eq_of_mem_replicate hq] at hfq;exact List.all_eq_true.1 ho f hfq) ⟨?_,?_⟩ (by rw [hlen];unfold maxLen;omega) (by
    rw [hlen];simp only [execOp,h.ev_int ex,h.ev_int ey,Sem.run_bind,hr,Result.andThen_ok,Sem.run_pure])
 ·rwa [hlen] at hg
 ·rw [yw (sz:=(c.ty e).size) (fun x hx=>by rw [List.eq_of_mem_replicate hx,ht'.zl]),hlen];simp [madeCells,ht'.size]
 ·intro j u f hu hf;rw [ht'.size] at hu;have hj:j<n * (c.ty e).size:=by
   have:=(List.getElem?_eq_some_iff.1 hu).1;simpa [madeCells] using this
  have hs0:0<(c.ty e).size:=by
   rcases Nat.eq_zero_or_pos (c.ty e).size with h0|h0
   ·rw [h0] at hj;simp at hj
   ·exact h0
  have hmod:=Nat.mod_lt j hs0;have hu' : z'.cells.toList[j % (c.ty e).size]? = some u:=by
   have e1:(madeCells z'.cells (n * (c.ty e).size)).toList[j]? = some (z'.cells[j % z'.cells.size]!):=by
    simp [madeCells,hj]
   rw [e1] at hu;injection hu with hu
   rw [hzn] at hu;rw [← hu];have hlt:j % (c.ty e).size<z'.cells.size:=by omega
   simp [hlt]
  have hf' : (c.ty e).zero[j % (c.ty e).size]? = some f:=by
   have key:∀ (m q r:Nat),r<(c.ty e).size→q<m→(List.replicate m (c.ty e).zero).flatten[q * (c.ty e).size+r]? = (c.ty e).zero[r]?:=by
    intro m q r hr hq;have hw:∀ x∈List.replicate m (c.ty e).zero,x.length=(c.ty e).size:=fun x hx=>by rw [List.eq_of_mem_replicate hx,ht'.zl]
    have:=XA _ hw q r (by simpa using hq) za;have h2:((List.replicate m (c.ty e).zero).flatten.drop (q * (c.ty e).size+r))[0]? = (c.ty e).zero[r]?:=by
     rw [this,List.getD_eq_getElem?_getD,List.getElem?_replicate,if_pos hq,Option.getD_some,List.getElem?_append_left (by rw [List.length_drop,ht'.zl];omega),List.getElem?_drop,Nat.add_zero]
    rwa [List.getElem?_drop,Nat.add_zero] at h2
   have hdm:=Nat.div_add_mod j (c.ty e).size;rw [Nat.mul_comm] at hdm;rw [← key n (j / (c.ty e).size) (j % (c.ty e).size) hmod (by rw [Nat.div_lt_iff_lt_mul hs0];exact hj),hdm];exact hf
  exact hzl.2 _ u f hu' hf'
def zpt (a:Act):Option Operand→Nat→Prop
 | none, l => l=0
 | some y, l => ∃ k, a.eval y=.int k (l:Nat)
def zps (a:Act):Option Operand→Nat→Nat→Prop
 | none, m, u => u=m
 | some y, _, u => ∃ k, a.eval y=.int k (u:Nat)
theorem zbG {dst:Option Nat} {T e:Nat} (hT:(c.ty T).k=.slice e) (he:(c.ty e).k≠.other) (x:Operand) (lo hi:Option Operand) {A:Option Addr} {m cc l u:Nat} (ex:a.eval x=.slice A m cc)
  (hlo:zpt a lo l) (hhi:zps a hi m u) (h1:l≤u) (h2:u≤cc) :
  (execOp a.eval ⟨dst,.slice T x lo hi none,ty,pos,after,g⟩).run c.P w=.ok (.value (.slice (if cc=l then A else A.map (·.add (l * (c.ty e).size))) (u - l) (cc - l))) w:=by
 obtain ⟨dd,i,z,ht⟩:=c.get hT zc;have hd:=ht.k;rw [hT] at hd;obtain rfl:=yB hd;have hs:=yZ (c:=c) he w;cases lo with
 | none=>
  change l=0 at hlo;subst hlo;cases hi with
  | none =>
   change u=m at hhi;subst hhi;simp [execOp,Instr.sliceAt,Instr.slice,Instr.sliceBounds,run_underlying ht.u,ex,hs]
  | some y =>
   obtain ⟨k,hk⟩:=hhi;simp [execOp,Instr.sliceAt,Instr.slice,Instr.sliceBounds,Instr.sliceBound,asIntOf,run_underlying ht.u,ex,hs,hk,h2]
 | some z=>
  obtain ⟨k',hk'⟩:=hlo;cases hi with
  | none =>
   change u=m at hhi;subst hhi;simp [execOp,Instr.sliceAt,Instr.slice,Instr.sliceBounds,Instr.sliceBound,asIntOf,run_underlying ht.u,ex,hs,hk',h1]
  | some y =>
   obtain ⟨k,hk⟩:=hhi;simp [execOp,Instr.sliceAt,Instr.slice,Instr.sliceBounds,Instr.sliceBound,asIntOf,run_underlying ht.u,ex,hs,hk,hk',h1,h2]
end
section
variable {c:Ctx} {w0 w:World} {J:JJ} {s:FSt} {a:Act} {β:Nat→Option Nat} {dst:Option Nat} {ty:TypeId} {pos:String} {after:Array Edge} {g:Option (Nat×Bool)}
def FSt.lo (s:FSt):Option Operand→Nat→Prop
 | none, l => l=0
 | some y, l => ∃ k, s.ev y=.int k (l:Nat)
def FSt.hi (s:FSt):Option Operand→Nat→Nat→Prop
 | none, m, u => u=m
 | some y, _, u => ∃ k, s.ev y=.int k (u:Nat)
theorem FR.lo (h:FR c.N w0 J s a w β) {lo:Option Operand} {l:Nat} (hl:s.lo lo l):zpt a lo l:=by
 cases lo with
 | none => exact hl
 | some y => obtain ⟨k, hk⟩ := hl; exact ⟨k, h.ev_int hk⟩
theorem FR.hi (h:FR c.N w0 J s a w β) {hi:Option Operand} {m u:Nat} (hl:s.hi hi m u):zps a hi m u:=by
 cases hi with
 | none => exact hl
 | some y => obtain ⟨k, hk⟩ := hl; exact ⟨k, h.ev_int hk⟩
theorem zb9 (h:FR c.N w0 J s a w β) {T e:Nat} (hT:(c.ty T).k=.slice e) (he:(c.ty e).k≠.other) (x:Operand) (lo hi:Option Operand) {id ver o m l u:Nat} (ex:s.ev x=.own id ver o m) (hl:s.live id ver) (hsz:(c.ty e).size=(s.ob id).sz)
  (hlo:s.lo lo l) (hhi:s.hi hi m u) (h1:l≤u) (h2:u≤m):yV c w0 J s a ⟨dst,.slice T x lo hi none,ty,pos,after,g⟩ w (.own id ver (o+l) (u - l)) []:=by
 have hrl:=(h.ev_own ex hl.1 hl.2).row;obtain ⟨A,cc,e1,e2,e3,e4,e5⟩:=(h.ev_own ex hl.1 hl.2).ex;have hr:=zbG (c:=c) (w:=w) (dst:=dst) (ty:=ty) (pos:=pos) (after:=after) (g:=g) hT he x lo hi e1 (h.lo hlo) (h.hi hhi) h1 za;refine .pure h hr (fun _ _=>⟨hrl,_,_,rfl,by omega,by omega,fun hb=>?_,fun b hb=>?_⟩) (fun id' ver' e=>h.evers x (by rw [ex];exact e))
 ·obtain ⟨rfl,rfl⟩:=e4 hb;obtain rfl:l=0:=by omega
  simp
 ·obtain ⟨o',rfl,k2,k3⟩:=e5 b hb;by_cases hcl:cc=l
  ·rw [if_pos hcl];refine ⟨o',rfl,fun hor=>?_,fun cur hc=>?_⟩
   ·rcases hor with hor|hor
    ·omega
    ·have:o=0:=by omega
     have hl0:l=0:=by omega
     rw [k2 (.inr this),this,hl0]
   ·rw [k3 cur hc];congr 1;omega
  ·rw [if_neg hcl];have:=k2 (.inl za);subst this;refine ⟨(o+l) * (s.ob id).sz,by rw [hsz];simp [yP,Nat.add_mul],fun _=>rfl,fun cur hc=>?_⟩;rw [k3 cur hc];congr 1;omega
theorem za2 (h:FR c.N w0 J s a w β) {T e:Nat} (hT:(c.ty T).k=.slice e) (he:(c.ty e).k≠.other) (x:Operand) (lo hi:Option Operand) {sz l u:Nat} {es:List (List FV)} (ex:s.ev x=.list sz es) (hsz:(c.ty e).size=sz)
  (hlo:s.lo lo l) (hhi:s.hi hi es.length u) (h1:l≤u) (h2:u≤es.length):yV c w0 J s a ⟨dst,.slice T x lo hi none,ty,pos,after,g⟩ w (.list sz ((es.drop l).take (u - l))) []:=by
 have hr:=h.ev_rd ex rfl;generalize hx:a.eval x=v at hr;cases hr with
 | list A m cc sz es us hn hc hw ho hA hl hrr=>
  subst hn;have hrun:=zbG (c:=c) (w:=w) (dst:=dst) (ty:=ty) (pos:=pos) (after:=after) (g:=g) hT he x lo hi hx (h.lo hlo) (h.hi hhi) h1 za;have hwd:∀ e∈es.drop l,e.length=sz:=fun e he=>hw e (List.mem_of_mem_drop he);have hfl:((es.drop l).take (u - l)).flatten=(es.flatten.drop (l * sz)).take ((u - l) * sz):=by rw [Zm _ hwd,xI _ hw]
  have hR:RdL w (Imm J w β s) ((us.drop (l * sz)).take ((u - l) * sz)) ((es.drop l).take (u - l)).flatten:=by
   rw [hfl];exact (RdL.drop ⟨hl,hrr⟩ _).take _
  refine .rd h hrun (.list _ _ _ sz _ ((us.drop (l * sz)).take ((u - l) * sz)) zx za (fun e he=>hwd e (List.mem_of_mem_take he)) (fun f hf=>?_) (fun h0=>?_) hR.1 hR.2) rfl
  ·rw [hfl] at hf;exact ho f (List.mem_of_mem_drop (List.mem_of_mem_take hf))
  ·obtain ⟨b,off,rfl,hI,hcell⟩:=hA za;rw [if_neg za];refine ⟨b,off+l * sz,by rw [hsz];simp [yP],hI,fun j u' hu=>?_⟩;rw [List.getElem?_take] at hu;split at hu
   ·rw [List.getElem?_drop] at hu;have:=hcell _ u' hu;rwa [show off+(l * sz+j)=off+l * sz+j by omega] at this
   ·cases hu
theorem zb8 (h:FR c.N w0 J s a w β) {T e:Nat} (hT:(c.ty T).k=.slice e) (he:(c.ty e).k≠.other) (x:Operand) (lo hi:Option Operand) (ex:s.ev x=.nil)
  (hlo:s.lo lo 0) (hhi:s.hi hi 0 0):yV c w0 J s a ⟨dst,.slice T x lo hi none,ty,pos,after,g⟩ w .nil []:=by
 have hrun:=zbG (c:=c) (w:=w) (dst:=dst) (ty:=ty) (pos:=pos) (after:=after) (g:=g) hT he x lo hi (h.ev_nil ex) (h.lo hlo) (h.hi hhi) (Nat.le_refl _) (Nat.le_refl _);exact .rd h hrun (by simpa using Rd.nil) rfl
theorem ze2 (h:FR c.N w0 J s a w β) (x:Operand) {i:Nat} {fs:List FV} {f:FV} (ex:s.ev x=.tup fs) (hf:fs[i]? = some f) (hn:f.hand=none):yV c w0 J s a ⟨dst,.extract x i,ty,pos,after,g⟩ w f []:=by
 have hr:=h.ev_rd ex rfl;generalize hx:a.eval x=v at hr;cases hr with
 | tup us fs hl hr =>
  have hi:i<us.length:=by rw [hl];exact (List.getElem?_eq_some_iff.1 hf).1
  have hu:us[i]? = some us[i]:=by simp [hi]
  exact .rd h (v:=us[i]) (by simp [execOp,Instr.extract,hx,hu]) (hr i _ f hu hf) hn
theorem VZ (h:FR c.N w0 J s a w β) (x:Operand) {id ver i o:Nat} (ex:s.ev x=.ptr id ver i o) (hl:s.live id ver):yV c w0 J s a ⟨dst,.nilCheck x,ty,pos,after,g⟩ w (.ptr id ver i o) []:=by
 obtain ⟨_,b,hb,hv⟩:=h.ev_ptr ex hl.1 hl.2;refine .pure h (v:=a.eval x) (by simp [execOp,hv]) ?_ (fun id' ver' e=>h.evers x (by rw [ex];exact e));have:=h.ev x;rwa [ex] at this
theorem Vq (h:FR c.N w0 J s a w β) (x:Operand) {sz i o:Nat} {es:List (List FV)} (ex:s.ev x=.eptr sz es i o):yV c w0 J s a ⟨dst,.nilCheck x,ty,pos,after,g⟩ w (.eptr sz es i o) []:=by
 obtain ⟨b,off,us,hv,_⟩:=h.ev_eptr ex;refine .rd h (v:=a.eval x) (by simp [execOp,hv]) (h.ev_rd ex rfl) rfl
inductive Src (s:FSt):FV→Nat→List (List FV)→Prop where
 | nil (sz:Nat):Src s .nil sz []
 | list (sz:Nat) (es:List (List FV)):Src s (.list sz es) sz es
 | own (id ver o n:Nat) (hl:s.live id ver) (hrl:(s.ob id).life.row=true):Src s (.own id ver o n) (s.ob id).sz (((s.ob id).es.drop o).take n)
theorem FR.src (h:FR c.N w0 J s a w β) {x:Operand} {f:FV} {sz:Nat} {es:List (List FV)} (ex:s.ev x=f) (hs:Src s f sz es):(∀ e∈es,e.length=sz)∧(∀ f∈es.flatten,f.one=true)∧
  ∃ A cc us,a.eval x=.slice A es.length cc∧es.length≤cc∧RdL w (Imm J w β s) us es.flatten∧(A=none→us=[]∧es=[])∧(∀ ad,A=some ad→∀ (j:Nat) u,us[j]? = some u→w.cell? (ad.add j)=some u):=by
 cases hs with
 | nil sz => exact ⟨by simp, by simp, none, 0, [], h.ev_nil ex, Nat.le_refl _, RdL.nil, fun _ => ⟨rfl, rfl⟩, fun _ e => by cases e⟩
 | list sz es=>
  have hr:=h.ev_rd ex rfl;generalize hx:a.eval x=v at hr;cases hr with
  | list A m cc sz es us hn hc hw ho hA hl hrr=>
   subst hn;refine ⟨hw,ho,A,cc,us,rfl,hc,⟨hl,hrr⟩,fun hA0=>?_,fun ad had j u hu=>?_⟩
   ·have:es.length=0:=by
     rcases Nat.eq_zero_or_pos es.length with h0|h0
     ·exact h0
     ·obtain ⟨b,off,e,_⟩:=hA za;rw [hA0] at e;cases e
    have:es=[]:=List.eq_nil_of_length_eq_zero this;subst this;exact ⟨by simpa using hl,rfl⟩
   ·have h0:es.length≠0:=fun h0=>by
     have:es=[]:=List.eq_nil_of_length_eq_zero h0;subst this;have:us=[]:=by simpa using hl
     subst this;simp at hu
    obtain ⟨b,off,e,_,hcell⟩:=hA h0;rw [had] at e;injection e with e
    subst e;rw [yP];exact hcell j u hu
 | own id ver o n hl hrl=>
  obtain ⟨A,cc,e1,e2,e3,e4,e5⟩:=(h.ev_own ex hl.1 hl.2).ex;have hw:=((h.obj id hl.1).rowR hrl).wide;have hone:=((h.obj id hl.1).rowR hrl).one;have hwd:∀ e∈(s.ob id).es.drop o,e.length=(s.ob id).sz:=fun e he=>hw e (List.mem_of_mem_drop he);have hlen:(((s.ob id).es.drop o).take n).length=n:=by simp;omega
  have hfl:(((s.ob id).es.drop o).take n).flatten=((s.ob id).es.flatten.drop (o * (s.ob id).sz)).take (n * (s.ob id).sz):=by rw [Zm _ hwd,xI _ hw]
  refine ⟨fun e he=>hwd e (List.mem_of_mem_take he),fun f hf=>by rw [hfl] at hf;exact hone f (List.mem_of_mem_drop (List.mem_of_mem_take hf)),?_⟩;cases hb:β id with
  | none =>
   obtain ⟨rfl,rfl⟩:=e4 hb;obtain rfl:n=0:=by omega
   exact ⟨none,0,[],by simpa using e1,by simp,by simpa using RdL.nil,fun _=>⟨rfl,by simp⟩,fun _ e=>by cases e⟩
  | some b=>
   obtain ⟨o',rfl,k2,k3⟩:=e5 b hb;obtain ⟨cur,cap,hblk,hn,hm,hcs,hr,hrow⟩:=h.block hl.1 hrl hb;refine ⟨_,cc,((cur.toList.take ((s.ob id).es.length * (s.ob id).sz)).drop (o * (s.ob id).sz)).take (n * (s.ob id).sz),by rw [hlen];exact e1,by omega,by rw [hfl];exact (hr.drop _).take _,(fun e=>by cases e),fun ad had j u hu=>?_⟩;injection had with had
   subst had;rw [yP,cell_of_row w b _ cur _ (0,0) hblk];rw [List.getElem?_take] at hu;split at hu
   ·rename_i hj;have hn0:n≠0:=by rintro rfl;simp at hj
    have:=k2 (.inl za);subst this;rw [List.getElem?_drop,List.getElem?_take] at hu;split at hu
    ·simpa using hu
    ·cases hu
   ·cases hu
inductive Bas (s:FSt):FV→Nat→List (List FV)→Option Nat→Prop where
 | nil (sz:Nat):Bas s .nil sz [] none
 | own (id ver:Nat) (hl:(s.ob id).life=.own) (hv:(s.ob id).ver=ver) (n:Nat) (hn:n=(s.ob id).es.length):Bas s (.own id ver 0 n) (s.ob id).sz (s.ob id).es (some id)
def Yp (s:FSt) (d:Nat) (E sz:Nat) (es:List (List FV)):Option Nat→List (Nat×zq)
 | none => [(d, ⟨(s.ob d).ver+1, .own, E, sz, es⟩)]
 | some i => [(i, { s.ob i with life := .dead }), (d, ⟨(s.ob d).ver+1, .own, E, sz, es⟩)]
theorem zas (P:Program) (t ty:TypeId) (v:Value) (cc:Nat) (w:World):(Builtin.append_ #[t,t] ty #[v,.slice none 0 cc]).run P w=(Builtin.append_ #[t,t] ty #[v,.slice none 0 0]).run P w:=rfl
theorem zaV (h:FR c.N w0 J s a w β) (d:Nat) {T e:Nat} (hT:(c.ty T).k=.slice e) (he:(c.ty e).k≠.other) (hpos:0<(c.ty e).size) (x y:Operand) {f1 f2:FV} {es1 es2:List (List FV)} {i:Option Nat} (ex:s.ev x=f1) (ey:s.ev y=f2)
  (h1:Bas s f1 (c.ty e).size es1 i) (hE:∀ k,i=some k→(s.ob k).E=e) (h2:Src s f2 (c.ty e).size es2) (hb:(es1.length+es2.length) * (c.ty e).bytes≤140737488355328) (hm:es1.length+es2.length≤140737488355328) :
  yV c w0 J s a ⟨some d,.call { callee:=.builtin .append,args:=#[x,y],argTypes:=#[T,T] },ty,pos,after,g⟩ w (.own d ((s.ob d).ver+1) 0 (es1++es2).length) (Yp s d e (c.ty e).size (es1++es2) i):=by
 obtain ⟨dd,ii,z,ht⟩:=c.get hT zc;have hd:=ht.k;rw [hT] at hd;obtain rfl:=yB hd;obtain ⟨d',i',z',ht'⟩:=c.get rfl he;have hzs:z'.cells.size=(c.ty e).size:=by
  have:=(RdL.zeros (w:=w) (I:=Imm J w β s) ht'.zr).1;rw [ht'.zl] at this;simpa using this
 obtain ⟨hw2,ho2,A2,c2,us2,hy,hc2,hr2,hA2,hcell2⟩:=h.src ey h2;obtain ⟨v1,us1,hv1,hrow1,hr1,hw1,ho1,hblk1⟩:∃ v1 us1,a.eval x=v1∧w.ownsRow w0.heap.size e (c.ty e).size v1 es1.length us1∧RdL w (Imm J w β s) us1 es1.flatten∧(∀ q∈es1,q.length=(c.ty e).size)∧(∀ f∈es1.flatten,f.one=true)∧v1.ownBlock=i.bind β:=by
  generalize hsz:(c.ty e).size=sz at h1 ⊢;cases h1 with
  | nil sz => exact ⟨_, [], h.ev_nil ex, World.ownsRow_nil _ _ _ _, RdL.nil, by simp, by simp, rfl⟩
  | own id ver hl hv n hn=>
   have hlive:(s.ob id).life≠.dead:=by rw [hl];decide
   have hEe:=hE id rfl;obtain ⟨A,cc,e1,e2,e3,e4,e5⟩:=(h.ev_own ex hlive hv).ex;have hrl:(s.ob id).life.row=true:=by rw [hl];rfl
   obtain ⟨v,us,r1,r2,r3⟩:=((h.obj id hlive).rowR hrl).row;have hw:=((h.obj id hlive).rowR hrl).wide;have hone:=((h.obj id hlive).rowR hrl).one;rw [hEe] at r1;refine ⟨v,us,?_,r1,r3,hw,hone,r2⟩;rw [e1];rcases r1.2 with ⟨rfl,h0⟩|⟨b,cap,cur,rfl,_,hgg,_,_,hcs,_⟩
   ·have hb0:β id=none:=by rw [← r2];rfl
    obtain ⟨rfl,rfl⟩:=e4 hb0;rw [hn,h0]
   ·have hb0:β id=some b:=by rw [← r2];rfl
    obtain ⟨o',rfl,k2,k3⟩:=e5 b hb0;have:=k3 cur (by rw [hEe];exact hgg);rw [hcs,Nat.zero_add] at this;have hcc:cap=cc:=Nat.eq_of_mul_eq_mul_right (by rw [hsz] at hpos;exact hpos) this;rw [k2 (.inr rfl),hcc,hn];simp
 have hl1:∀ k,i=some k→(s.ob k).life=.own:=by
  intro k hk;generalize (c.ty e).size=sz at h1;cases h1 with
  | nil => cases hk
  | own id ver hl hv n hn => injection hk with hk; subst hk; exact hl
 have hlen2:us2.length=es2.length * (c.ty e).size:=by rw [hr2.1,yw hw2]
 have h1u:∀ u∈us2,u.oneCell'=true:=by
  intro u hu;obtain ⟨j,hj,rfl⟩:=List.getElem_of_mem hu;have hj2:j<es2.flatten.length:=by rw [← hr2.1];exact hj
  exact (hr2.2 j _ es2.flatten[j] (by simp [hj]) zc).oneCell (ho2 _ (List.getElem_mem hj2))
 obtain ⟨v',w',hrun,hrow',hgr,hloc⟩:∃ v' w',(Builtin.append_ #[T,T] ty #[v1,.slice A2 es2.length c2]).run c.P w=.ok v' w'∧w'.ownsRow w0.heap.size e (c.ty e).size v' (es1.length+es2.length) (us1++us2)∧w.grownBy w' v1.ownBlock∧
   (v'.ownBlock=v1.ownBlock∨v'.ownBlock=some w.heap.size):=by
  cases hA:A2 with
  | none =>
   obtain ⟨rfl,rfl⟩:=hA2 hA;rw [List.length_nil,zas];refine ⟨v1,w,run_append_owned_none (P:=c.P) (w:=w) w0.heap.size T ty e i' (c.ty e).size ht.u ht'.info v1 es1.length us1 hrow1,by simpa using hrow1,⟨rfl,rfl,rfl,Nat.le_refl _,fun _ _ _=>rfl⟩,.inl rfl⟩
  | some ad =>
   obtain ⟨v',w',q1,q2,q3,_,q5⟩:=run_append_own_at (P:=c.P) w w0.heap.size T ty e i' z' (c.ty e).size (c.ty e).bytes ht.u ht'.info ht'.zo ht'.size ht'.bytes hzs hpos v1 es1.length us1 hrow1 ad es2.length c2 us2 hlen2 (hcell2 ad hA) h1u (by unfold maxLen;omega) hb h.bel.size;exact ⟨v',w',q1,q2,q3,q5⟩
 have hexec:(execOp a.eval ⟨some d,.call { callee:=.builtin .append,args:=#[x,y],argTypes:=#[T,T] },ty,pos,after,g⟩).run c.P w=.ok (.value v') w':=by
  simp [execOp,resolve,invoke,builtin,hv1,hy,hrun]
 rw [← List.length_append] at hrow';have hFR:FR c.N w0 J (s.wr (Yp s d e (c.ty e).size (es1++es2) i)) a w' (XV β d v'.ownBlock):=by
  refine h.make i d (es:=es1++es2) (fun k hk=>by rw [hl1 k hk];rfl) (by rw [← hblk1];exact hgr) ?_ ?_ hrow' ?_ ?_ (fun k=>?_) (fun k=>FSt.wr_get _ _ _)
  ·intro q hq;rcases List.mem_append.1 hq with h'|h'
   ·exact hw1 q h'
   ·exact hw2 q h'
  ·intro f hf;rw [List.flatten_append] at hf;rcases List.mem_append.1 hf with h'|h'
   ·exact ho1 f h'
   ·exact ho2 f h'
  ·rw [List.flatten_append];exact hr1.append hr2
  ·rw [← hblk1];rcases hloc with e|e
   ·exact .inl e
   ·exact .inr (.inr ⟨_,e,Nat.le_refl _⟩)
  ·cases i with
   | none =>
    show (FSt.set s d _).ob k=_;rw [FSt.ob_set];split
    ·rfl
    ·simp
   | some i=>
    show (FSt.set (FSt.set s i _) d _).ob k=_;rw [FSt.ob_set,FSt.ob_set];by_cases hdk:d=k
    ·rw [if_pos hdk,if_pos hdk]
    ·rw [if_neg hdk,if_neg hdk];by_cases hik:i=k
     ·subst hik;simp
     ·rw [if_neg hik,if_neg (by simpa using hik)]
 have hobd:(s.wr (Yp s d e (c.ty e).size (es1++es2) i)).ob d=⟨(s.ob d).ver+1,.own,e,(c.ty e).size,es1++es2⟩:=by
  cases i with
  | none => show (FSt.set s d _).ob d=_; rw [FSt.ob_set, if_pos rfl]
  | some i => show (FSt.set (FSt.set s i _) d _).ob d=_; rw [FSt.ob_set, if_pos rfl]
 refine ⟨v',w',_,hexec,hFR,fun _ _=>?_,fun id ver e=>?_⟩
 ·rw [hobd,yb];exact Wv.of_row hrow' rfl rfl rfl rfl
 ·simp only [FV.hands,List.mem_singleton,Prod.mk.injEq] at e;obtain ⟨e1,e2⟩:=e;replace e1:=e1.symm;replace e2:=e2.symm;subst e1;subst e2;rw [hobd];exact Nat.le_refl _
theorem ze1 (h:FR c.N w0 J s a w β) (d:Nat) {T e:Nat} (hT:(c.ty T).k=.slice e) (he:(c.ty e).k≠.other) (hpos:0<(c.ty e).size) (x y:Operand) {f1 f2:FV} {es1 es2:List (List FV)} {i:Option Nat} (ex:s.ev x=f1) (ey:s.ev y=f2)
  (h1:Bas s f1 (c.ty e).size es1 i) (hE:∀ k,i=some k→(s.ob k).E=e) (h2:Src s f2 (c.ty e).size es2) (hb:(es1.length+es2.length) * (c.ty e).bytes≤140737488355328) (hm:es1.length+es2.length≤140737488355328) :
  yV c w0 J s a ⟨some d,.call { callee:=.builtin .append,args:=#[x,y],argTypes:=#[T,T] },ty,pos,after,g⟩ w (.list (c.ty e).size (es1++es2)) (Yp s d e (c.ty e).size (es1++es2) i++[(d,⟨(s.ob d).ver+1,.dead,e,(c.ty e).size,es1++es2⟩)]):=by
 obtain ⟨v,w',β',hrun,hF,hV,_⟩:=zaV (ty:=ty) (pos:=pos) (after:=after) (g:=g) h d hT he hpos x y ex ey h1 hE h2 hb hm;have hobd:(s.wr (Yp s d e (c.ty e).size (es1++es2) i)).ob d=⟨(s.ob d).ver+1,.own,e,(c.ty e).size,es1++es2⟩:=by
  cases i with
  | none => show (FSt.set s d _).ob d=_; rw [FSt.ob_set, if_pos rfl]
  | some i => show (FSt.set (FSt.set s i _) d _).ob d=_; rw [FSt.ob_set, if_pos rfl]
 have hwr:s.wr (Yp s d e (c.ty e).size (es1++es2) i++[(d,⟨(s.ob d).ver+1,.dead,e,(c.ty e).size,es1++es2⟩)])=(s.wr (Yp s d e (c.ty e).size (es1++es2) i)).set d ⟨(s.ob d).ver+1,.dead,e,(c.ty e).size,es1++es2⟩:=by
  unfold FSt.wr;rw [List.foldl_append];rfl
 unfold yV;rw [hwr];generalize s.wr (Yp s d e (c.ty e).size (es1++es2) i)=s1 at hF hV hobd ⊢;have hl:(s1.ob d).life≠.dead:=by rw [hobd];exact fun q=>by cases q
 have hrl:(s1.ob d).life.row=true:=by rw [hobd];rfl
 obtain ⟨A,cc,e1,e2,e3,e4,e5⟩:=(hV hl (by rw [hobd])).ex;have hF2:FR c.N w0 J (s1.set d ⟨(s.ob d).ver+1,.dead,e,(c.ty e).size,es1++es2⟩) a w' β':=
  hF.lives d .dead (fun q=>by cases q) (fun _=>rfl) (fun q=>absurd rfl q) (fun k=>by rw [FSt.ob_set,hobd]) (fun _=>rfl) (fun q=>absurd rfl q)
 have hI:∀ b,Imm J w' β' s1 b→Imm J w' β' (s1.set d ⟨(s.ob d).ver+1,.dead,e,(c.ty e).size,es1++es2⟩) b∧w'.heap[b]? = w'.heap[b]?:=fun b hbb=>by
  refine ⟨⟨hbb.1,hbb.2.1,fun id hq=>?_⟩,rfl⟩;rw [FSt.ob_set] at hq;split at hq
  ·cases hq
  ·exact hbb.2.2 id hq
 have hw:=((hF.obj d hl).rowR hrl).wide;have hone:=((hF.obj d hl).rowR hrl).one;rw [hobd] at hw hone;refine ⟨v,w',β',hrun,hF2,?_,fun _ _ q=>(FV.no_hands rfl q).elim⟩;refine VR.of_rd ?_ rfl;rw [e1];cases hbd:β' d with
 | none =>
  obtain ⟨rfl,rfl⟩:=e4 hbd;have hn0:(es1++es2).length=0:=by omega
  have hnil:es1++es2=[]:=List.eq_nil_of_length_eq_zero hn0;exact Rd.list none _ 0 _ _ [] rfl za hw hone (fun q=>absurd hn0 q) (by rw [hnil];rfl) (fun j u f hu=>by simp at hu)
 | some b=>
  obtain ⟨cur,cap,hblk,hn,hm2,hcs,hr,hrow⟩:=hF.block hl hrl hbd;obtain ⟨o',rfl,k2,k3⟩:=e5 b hbd;have ho' : o'=0:=by have:=k2 (.inr rfl);rw [Nat.zero_mul] at this;exact this
  subst ho';rw [hobd] at hblk hcs hr hrow hn;have hlen:(es1++es2).flatten.length=(es1++es2).length * (c.ty e).size:=yw hw;refine Rd.list (some ⟨b,0,none⟩) _ cc _ _ (cur.toList.take ((es1++es2).length * (c.ty e).size)) rfl e2 hw hone (fun _=>⟨b,0,rfl,⟨?_,?_,fun id hq hq2=>?_⟩,fun j u hu=>?_⟩) hr.1 (fun j u f hu hf=>(hr.2 j u f hu hf).mono hI)
  ·exact ((hF.obj d hl).lt hbd).2
  ·exact hF.fresh b ((hF.obj d hl).lt hbd).1 (.inr ⟨d,hl,hbd⟩)
  ·rw [FSt.ob_set] at hq;split at hq
   ·cases hq
   ·rename_i hne;exact hne (hF.inj d id b hl (yf.mine_ne hq) hbd hq2)
  ·rw [cell_of_row w' b _ cur _ (0,0) hblk];rw [List.getElem?_take] at hu;split at hu
   ·simpa using hu
   ·cases hu
end
end Go.Proofs.Ytmnmakhpjgjdaaa
